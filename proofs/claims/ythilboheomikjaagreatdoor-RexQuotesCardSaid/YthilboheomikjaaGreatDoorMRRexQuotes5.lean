/- P5, P6, P7, G13, Q9 -/
import Derived.Test.YthilboheomikjaaGreatDoorMRRexQuotes4
import Derived.WalkKit
import Derived.Defers
import Derived.Recover
section
namespace Go.Proofs.YthilboheomikjaaGreatDoor
open Go.AL Go.RowKit
set_option linter.unusedVariables false
set_option maxRecDepth 100000

theorem assert_nil (w : World) : (Instr.typeAssert .nilIface 20 70 true).run Tryz.prog w = .ok (.tuple #[.agg #[], .bool false]) w := by kernel_rfl
theorem assert_bad (w : World) : (Instr.typeAssert badV 20 70 true).run Tryz.prog w = .ok (.tuple #[.agg #[], .bool true]) w := by kernel_rfl

theorem catch_idle (p q : Addr) (w : World) :
    CallsD Tryz.prog 47 #[.pointer (some p), .pointer (some q)] .returning w fun e u' w' => e = .returned (.tuple #[]) ∧ u' = .returning ∧ w' = w.alloc (.cells #[] 70) := by
  refine callsD_of_wpS Tryz.func47 rfl fun c₀ cs hu => ?_
  apply wpS_seq
  apply wpS_region
  simp [wpOpsS, go_sem, recoverD, hu, Tryz.ntmps47, Exit.thenS, assert_nil, Oper.upon, Act.put]
  apply wpS_seq
  apply wpS_region
  simp [wpOpsS, go_sem, Exit.thenS, Oper.upon, Act.put]
  refine wpS_cond (t := false) (by simp [Act.eval, Array.replicate]) ?_
  simp only [Bool.false_eq_true, if_false]
  refine wpS_of_wp (wp_skip ?_)
  cases c₀
  simp_all [bodyPostS, results, Tryz.results47, Exit.thenS]

theorem catch_bad (p q : Addr) (w : World) (w1 w2 : World) (h1 : (Instr.storeAt 35 (.pointer (some p)) (.agg #[.int .i64 0, .slice none 0 0, .slice none 0 0, .int .i64 0, .int .i64 0])).run Tryz.prog (w.alloc (.cells #[] 70)) = .ok () w1)
    (h2 : (Instr.storeAt 3 (.pointer (some q)) (.int .i64 3)).run Tryz.prog w1 = .ok () w2) :
    CallsD Tryz.prog 47 #[.pointer (some p), .pointer (some q)] (.panicking (thrown badV)) w fun e u' w' => e = .returned (.tuple #[]) ∧ u' = .panicking [{ v := badV, recovered := true }] ∧ w' = w2 := by
  refine callsD_of_wpS Tryz.func47 rfl fun c₀ cs hu => ?_
  apply wpS_seq
  apply wpS_region
  have hb : badV = .iface 70 (.agg #[]) := rfl
  simp [wpOpsS, go_sem, recoverD, hu, Tryz.ntmps47, Exit.thenS, assert_bad, Oper.upon, Act.put, thrown]
  apply wpS_seq
  apply wpS_region
  simp [wpOpsS, go_sem, Exit.thenS, Oper.upon, Act.put]
  refine wpS_cond (t := true) (by simp [Act.eval, Array.replicate]) ?_
  simp only [if_true]
  have hbld : ∀ W : World, (Instr.build 35 #[]).run Tryz.prog W = .ok (.agg #[.int .i64 0, .slice none 0 0, .slice none 0 0, .int .i64 0, .int .i64 0]) W := fun W => by kernel_rfl
  apply wpS_region
  simp [wpOpsS, execOp, Exit.thenS, Oper.upon, Act.put, hbld, Act.eval, h1, h2, Region.wanted, Array.replicate, show List.range 3 = [0, 1, 2] from rfl]
  exact ⟨rfl, _, rfl, .tuple #[], by simp [results, Tryz.results47], rfl, rfl, rfl⟩
end Go.Proofs.YthilboheomikjaaGreatDoor
end

section
namespace Go.Proofs.YthilboheomikjaaGreatDoor
open Go.AL Go.RowKit
set_option linter.unusedVariables false
set_option maxRecDepth 100000

def zRe : api_Re := ⟨0, [], [], 0, 0⟩

def F27_e (k : Nat) (s : List UInt8) (p : api_Re) (r : rex_reader) : Option (api_Re × Int) :=
  cond r.f_over (some (zRe, 8)) ((F32 k p).bind fun n => cond (decide (n > 200)) (some (zRe, 8)) ((F50 k p).bind fun d => cond (decide (d > 14)) (some (zRe, 8)) (some (p, 0))))
def F27_t (k : Nat) (s : List UInt8) (p : api_Re) (r : rex_reader) : Option (api_Re × Int) :=
  cond (decide (r.f_at < (s.length : Int))) (some (zRe, 3)) ((F49 k s).bind fun b => cond b (F27_e k s p r) (some (zRe, 3)))
def F27_r (k : Nat) (s : List UInt8) : Option (api_Re × Int) := (F48 k ⟨s, 0, false⟩).bind fun y => match y with
  | none => some (zRe, 3)
  | some (p, r) => F27_t k s p r
def F27 (k : Nat) (s : List UInt8) : Option (api_Re × Int) := cond (decide ((s.length : Int) > 400)) (some (zRe, 8)) (F27_r k s)

def ptrs : List (Nat × AT) := [(2, .val false [.ptr 0 1 0 0]), (3, .val false [.ptr 1 1 0 0])]

/-- how the code behind the defer ends -/
def FR (res : api_Re × Int) : Exit → S → Prop
  | .ret, s => pickE s.env [2, 3] = ptrs ∧ pickE s.os [0, 1] = [(0, .box (pvL (e_api_Re res.1))), (1, .box (pvL [.int .i64 res.2]))]
  | .panic ch, s => ch = thrown badV ∧ res = (zRe, 3) ∧ pickE s.env [2, 3] = ptrs ∧ ∃ (p : api_Re) (n : Int), pickE s.os [0, 1] = [(0, .box (pvL (e_api_Re p))), (1, .box (pvL [.int .i64 n]))]
  | _, _ => False

/-- the code behind the defer -/
def tail27 : Option Code → Option Code
  | some (.seq _ (.seq _ (.seq _ c))) => some c
  | _ => none

/-- the region that throws, in it -/
def bad27 : Option Code → Code
  | some (.seq _ (.seq _ (.seq (.seq _ (.cond _ c _)) _))) => c
  | _ => .skip

def end27 : Option Code → Code
  | some (.seq _ (.seq _ (.seq _ c))) => c
  | _ => .skip

def lim27 : Option Code → Code
  | some (.seq _ (.seq _ (.seq _ (.seq (.seq _ (.cond _ c _)) _)))) => c
  | _ => .skip
def cond27 : Option Code → Code
  | some (.seq _ (.seq _ (.seq _ (.seq (.seq _ c) _)))) => c
  | _ => .skip
def fin27 : Option Code → Code
  | some (.seq _ (.seq _ (.seq _ (.seq _ c)))) => c
  | _ => .skip

theorem rest_ok (k : Nat) (s : List UInt8) (res : api_Re × Int) (hF : F27_r k s = some res) (c : Code) (hc : tail27 Tryz.f27.body = some c) :
    WA Tryz.prog GL0 45 c ⟨(0, one (.str s)) :: ptrs, [(0, .box (pvL (e_api_Re zRe))), (1, .box (pvL [.int .i64 0]))]⟩ (FR res) := by
  cases hc
  refine WA.seq ?_
  refine WA.reg [0, 2, 3, 4] [0, 1, 112] [(2, .obj 112)] (env' := (0, one (.str s)) :: ptrs ++ [(4, .val false [.ptr 112 1 0 0])]) (os' := [(0, .box (pvL (e_api_Re zRe))), (1, .box (pvL [.int .i64 0])), (112, .box (pvL (e_rex_reader ⟨s, 0, false⟩)))]) (O := []) (by kernel_rfl) (sound _ _) trivial ?_
  refine WA.seq ?_
  obtain ⟨y, hy, hF⟩ := bind_some hF
  cases y with
  | none =>
    obtain rfl := Option.some.inj hF
    refine WA.regP 1 [112] [2, 3] [] badV (f := 48) (args := [.val false [.ptr 0 1 0 0]]) (os := [.box (pvL (e_rex_reader ⟨s, 0, false⟩))]) (env1 := ptrs) (os1 := [(0, .box (pvL (e_api_Re zRe))), (1, .box (pvL [.int .i64 0])), (112, .box (pvL (e_rex_reader ⟨s, 0, false⟩)))]) (O := []) (by kernel_rfl) (sound _ _) trivial (by decide) (F48_ok k _ _ hy) (fun psl hpsl => ?_)
    obtain ⟨ps, rfl⟩ := one_of_len hpsl
    exact ⟨rfl, rfl, by kernel_rfl, zRe, 0, by kernel_rfl⟩
  | some y =>
    obtain ⟨p, r⟩ := y
    have hF : F27_t k s p r = some res := hF
    refine WA.reg [0, 2, 3, 4] [0, 1, 112] [(1, .call [112] (.val true (pvL (e_api_Re p))) [.box (pvL (e_rex_reader r))] [])] (env' := (0, one (.str s)) :: ptrs ++ [(4, .val false [.ptr 112 1 0 0])]) (os' := [(0, .box (pvL (e_api_Re p))), (1, .box (pvL [.int .i64 0])), (112, .box (pvL (e_rex_reader r)))]) (O := [Sim Tryz.prog GL0 48 [.val false [.ptr 0 1 0 0]] [.box (pvL (e_rex_reader ⟨s, 0, false⟩))] (.val true (pvL (e_api_Re p))) [.box (pvL (e_rex_reader r))], ([112] : List Nat).Nodup]) (by kernel_rfl) (sound _ _) ⟨F48_ok k _ _ hy, by decide, trivial⟩ ?_
    refine WA.seq ?_
    refine WA.seq ?_
    have hbad : some (zRe, 3) = some res → WA Tryz.prog GL0 45 (bad27 (tail27 Tryz.f27.body)) ⟨ptrs ++ [(4, .val false [.ptr 112 1 0 0])], [(0, .box (pvL (e_api_Re p))), (1, .box (pvL [.int .i64 0])), (112, .box (pvL (e_rex_reader r)))]⟩ (FR res) := fun hF => by
      obtain rfl := Option.some.inj hF
      show WA Tryz.prog GL0 45 (.region 7 _ _) _ _
      refine WA.bad [2, 3] (t := 70) (env1 := ptrs) (os1 := [(0, .box (pvL (e_api_Re p))), (1, .box (pvL [.int .i64 0])), (112, .box (pvL (e_rex_reader r)))]) (O := []) (by kernel_rfl) (sound _ _) trivial ?_
      exact ⟨rfl, rfl, by kernel_rfl, p, 0, by kernel_rfl⟩
    have hrest : F27_e k s p r = some res → WA Tryz.prog GL0 45 (end27 (tail27 Tryz.f27.body)) ⟨ptrs ++ [(4, .val false [.ptr 112 1 0 0])], [(0, .box (pvL (e_api_Re p))), (1, .box (pvL [.int .i64 0])), (112, .box (pvL (e_rex_reader r)))]⟩ (FR res) := fun hF => by
      have hlim : some (zRe, 8) = some res → WA Tryz.prog GL0 45 (lim27 (tail27 Tryz.f27.body)) ⟨ptrs, [(0, .box (pvL (e_api_Re p))), (1, .box (pvL [.int .i64 0]))]⟩ (FR res) := fun hF => by
        obtain rfl := Option.some.inj hF
        show WA Tryz.prog GL0 45 (.seq (.region 9 _ _) .ret) _ _
        refine WA.seq ?_
        refine WA.reg [2, 3] [0, 1] [] (env' := ptrs) (os' := [(0, .box (pvL (e_api_Re zRe))), (1, .box (pvL [.int .i64 8]))]) (O := []) (by kernel_rfl) (sound _ _) trivial ?_
        refine WA.ret ?_
        exact ⟨by kernel_rfl, by kernel_rfl⟩
      have hend : some (p, 0) = some res → WA Tryz.prog GL0 45 (fin27 (tail27 Tryz.f27.body)) ⟨ptrs, [(0, .box (pvL (e_api_Re p))), (1, .box (pvL [.int .i64 0]))]⟩ (FR res) := fun hF => by
        obtain rfl := Option.some.inj hF
        show WA Tryz.prog GL0 45 (.seq (.region 10 _ _) .ret) _ _
        refine WA.seq ?_
        refine WA.reg [2, 3] [0, 1] [] (env' := ptrs) (os' := [(0, .box (pvL (e_api_Re p))), (1, .box (pvL [.int .i64 0]))]) (O := []) (by kernel_rfl) (sound _ _) trivial ?_
        refine WA.ret ?_
        exact ⟨by kernel_rfl, by kernel_rfl⟩
      have hB : ∀ b : Bool, (b = true → some (zRe, 8) = some res) → (b = false → some (p, 0) = some res) → WA Tryz.prog GL0 45 (cond27 (tail27 Tryz.f27.body)) ⟨ptrs ++ [(42, one (.bool b))], [(0, .box (pvL (e_api_Re p))), (1, .box (pvL [.int .i64 0]))]⟩ (Then Tryz.prog GL0 45 (fin27 (tail27 Tryz.f27.body)) (FR res)) := fun b h1 h2 => by
        show WA Tryz.prog GL0 45 (.cond (.tmp 42) _ _) _ _
        refine WA.cond (b := b) rfl (fun hb => ?_) (fun hb => ?_)
        · refine WA.keep [2, 3] [0, 1] (env' := ptrs) (os' := [(0, .box (pvL (e_api_Re p))), (1, .box (pvL [.int .i64 0]))]) (by kernel_rfl) (by kernel_rfl) ?_
          exact (hlim (h1 hb)).mono fun e s h => by cases e <;> first | exact h | exact h.elim
        · refine WA.skip ?_
          refine WA.keep [2, 3] [0, 1] (env' := ptrs) (os' := [(0, .box (pvL (e_api_Re p))), (1, .box (pvL [.int .i64 0]))]) (by kernel_rfl) (by kernel_rfl) ?_
          exact hend (h2 hb)
      show WA Tryz.prog GL0 45 (.seq (.seq (.region 8 _ _) _) _) _ _
      refine WA.seq (WA.seq ?_)
      unfold F27_e at hF
      rcases Bool.eq_false_or_eq_true r.f_over with hb | hb
      · have hF := cond_t hF hb
        refine WA.reg [2, 3, 42] [0, 1] [(4, .bool true)] (env' := ptrs ++ [(42, one (.bool true))]) (os' := [(0, .box (pvL (e_api_Re p))), (1, .box (pvL [.int .i64 0]))]) (O := [r.f_over = true]) (by kernel_rfl) (sound _ _) ⟨hb, trivial⟩ ?_
        exact hB true (fun _ => hF) (fun h => by cases h)
      · have hF := cond_f hF hb
        obtain ⟨n, hn, hF⟩ := bind_some hF
        rcases Bool.eq_false_or_eq_true (decide (n > 200)) with hb2 | hb2
        · have hF := cond_t hF hb2
          refine WA.reg [2, 3, 42] [0, 1] [(4, .bool false), (6, .callR [] (one (.int .i64 n))), (9, .bool true)] (env' := ptrs ++ [(42, one (.bool true))]) (os' := [(0, .box (pvL (e_api_Re p))), (1, .box (pvL [.int .i64 0]))]) (O := [r.f_over = false, Sim Tryz.prog GL0 32 [.val true (pvL (e_api_Re p))] [] (one (.int .i64 n)) [], ([] : List Nat).Nodup, decide (n > 200) = true]) (by kernel_rfl) (sound _ _) ⟨hb, F32_ok k _ _ hn, by decide, hb2, trivial⟩ ?_
          exact hB true (fun _ => hF) (fun h => by cases h)
        · have hF := cond_f hF hb2
          obtain ⟨d, hd, hF⟩ := bind_some hF
          refine WA.reg [2, 3, 42] [0, 1] [(4, .bool false), (6, .callR [] (one (.int .i64 n))), (9, .bool false), (11, .callR [] (one (.int .i64 d)))] (env' := ptrs ++ [(42, one (.bool (decide (d > 14))))]) (os' := [(0, .box (pvL (e_api_Re p))), (1, .box (pvL [.int .i64 0]))]) (O := [r.f_over = false, Sim Tryz.prog GL0 32 [.val true (pvL (e_api_Re p))] [] (one (.int .i64 n)) [], ([] : List Nat).Nodup, decide (n > 200) = false, Sim Tryz.prog GL0 50 [.val true (pvL (e_api_Re p))] [] (one (.int .i64 d)) [], ([] : List Nat).Nodup]) (by kernel_rfl) (sound _ _) ⟨hb, F32_ok k _ _ hn, by decide, hb2, F50_ok k _ _ hd, by decide, trivial⟩ ?_
          exact hB (decide (d > 14)) (fun h => cond_t hF h) (fun h => cond_f hF h)
    unfold F27_t at hF
    rcases Bool.eq_false_or_eq_true (decide (r.f_at < (s.length : Int))) with hb | hb
    · have hF := cond_t hF hb
      refine WA.reg [2, 3, 4, 26] [0, 1, 112] [(7, .bool true)] (env' := ptrs ++ [(4, .val false [.ptr 112 1 0 0]), (26, one (.bool true))]) (os' := [(0, .box (pvL (e_api_Re p))), (1, .box (pvL [.int .i64 0])), (112, .box (pvL (e_rex_reader r)))]) (O := [decide (r.f_at < (s.length : Int)) = true]) (by kernel_rfl) (sound _ _) ⟨hb, trivial⟩ ?_
      refine WA.cond (b := true) rfl (fun _ => ?_) (fun h => by cases h)
      refine WA.keep [2, 3, 4] [0, 1, 112] (env' := ptrs ++ [(4, .val false [.ptr 112 1 0 0])]) (os' := [(0, .box (pvL (e_api_Re p))), (1, .box (pvL [.int .i64 0])), (112, .box (pvL (e_rex_reader r)))]) (by kernel_rfl) (by kernel_rfl) ?_
      exact (hbad hF).mono fun e s h => by cases e <;> first | exact h | exact h.elim
    · have hF := cond_f hF hb
      obtain ⟨y, hy, hF⟩ := bind_some hF
      refine WA.reg [2, 3, 4, 26] [0, 1, 112] [(7, .bool false), (9, .callR [] (one (.bool y)))] (env' := ptrs ++ [(4, .val false [.ptr 112 1 0 0]), (26, one (.bool (!y)))]) (os' := [(0, .box (pvL (e_api_Re p))), (1, .box (pvL [.int .i64 0])), (112, .box (pvL (e_rex_reader r)))]) (O := [decide (r.f_at < (s.length : Int)) = false, Sim Tryz.prog GL0 49 [one (.str s)] [] (one (.bool y)) [], ([] : List Nat).Nodup]) (by kernel_rfl) (sound _ _) ⟨hb, F49_ok k _ _ hy, by decide, trivial⟩ ?_
      refine WA.cond (b := !y) rfl (fun hy' => ?_) (fun hy' => ?_)
      · have hF := cond_f hF (by simpa using hy')
        refine WA.keep [2, 3, 4] [0, 1, 112] (env' := ptrs ++ [(4, .val false [.ptr 112 1 0 0])]) (os' := [(0, .box (pvL (e_api_Re p))), (1, .box (pvL [.int .i64 0])), (112, .box (pvL (e_rex_reader r)))]) (by kernel_rfl) (by kernel_rfl) ?_
        exact (hbad hF).mono fun e s h => by cases e <;> first | exact h | exact h.elim
      · have hF := cond_t hF (by simpa using hy')
        refine WA.skip ?_
        refine WA.keep [2, 3, 4] [0, 1, 112] (env' := ptrs ++ [(4, .val false [.ptr 112 1 0 0])]) (os' := [(0, .box (pvL (e_api_Re p))), (1, .box (pvL [.int .i64 0])), (112, .box (pvL (e_rex_reader r)))]) (by kernel_rfl) (by kernel_rfl) ?_
        exact hrest hF
end Go.Proofs.YthilboheomikjaaGreatDoor
end

section
namespace Go.Proofs.YthilboheomikjaaGreatDoor
open Go.AL
set_option linter.unusedVariables false
set_option maxRecDepth 100000

abbrev os27 (p : api_Re) (n : Int) : Objs := [(0, .box (pvL (e_api_Re p))), (1, .box (pvL [.int .i64 n]))]
abbrev hos27 (p : api_Re) (n : Int) : Objs := [(102, .box (pvL (e_api_Re p))), (103, .box (pvL [.int .i64 n]))]
def hptrs : List (Nat × AT) := [(2, .val false [.ptr 102 1 0 0]), (3, .val false [.ptr 103 1 0 0])]
def G01 (G : Nat → Option Nat) : Nat → Option Nat := fun k => ([102, 103][k]?).bind G

/-- behind the deferred closure: what the results' variables hold -/
theorem leave27 {w0 w : World} {I0 I : Nat → Prop} {G0 G : Nat → Option Nat} {os0 : Objs} {D : List Deferred} {a : Act} {p : api_Re} {n : Int} (h1 : Ext w0 w I0 I (Mine G0 os0) (Mine G (os27 p n))) (hh : ∀ k, I0 k → w.heap[k]? = w0.heap[k]?)
    (h3 : Sr GL0 w I G (os27 p n)) (h4 : Fr D w I G (Go.AL.shape (os27 p n)) 45 a ptrs) :
    ∃ v, (results Tryz.f27 a.tmps).run Tryz.prog w = .ok v w ∧ ∃ v' I' G', Ending.returned v = .returned v' ∧ Ext w0 w I0 I' (Mine G0 os0) (Mine G' (number [])) ∧ Sr GL0 w I' G' (number []) ∧
      ATr w I' G' (Go.AL.shape (number [])) (.tup [(true, pvL (e_api_Re p)), (false, [.pv (.int .i64 n)])]) v' ∧ Keeps (· < 0) w0 w I0 I' G0 G' (Go.AL.shape os0) (Go.AL.shape (number [])) := by
  obtain ⟨v, hv, hr⟩ := resA_run (fn := Tryz.f27) (st := ⟨ptrs, os27 p n⟩) (x := .tup [(true, pvL (e_api_Re p)), (false, [.pv (.int .i64 n)])]) h3 h4 (by kernel_rfl)
  obtain ⟨s1, k1⟩ := h3.sub (os' := number []) fun k o h => by rw [look_number] at h; simp at h
  refine ⟨v, hv, v, I, G, rfl, ⟨h1.size, h1.os, h1.tape, h1.output, h1.keep, h1.imm, h1.inew, fun k ⟨id, o, q1, q2⟩ => by rw [look_number] at q1; simp at q1⟩, s1, ?_, ⟨hh, h1.imm, fun id s m h => absurd h (Nat.not_lt_zero _)⟩⟩
  exact hr.mono (R := NoRef) (keeps_noref (fun _ _ => rfl) fun _ h => h) ⟨⟨trivial, trivial, trivial, trivial, trivial, trivial⟩, ⟨trivial, trivial⟩, trivial⟩

/-- the results' variables under the names 0 and 1 -/
theorem to01 {D : List Deferred} {w : World} {I : Nat → Prop} {G : Nat → Option Nat} {a : Act} {p : api_Re} {n : Int} (h3 : Sr GL0 w I G (hos27 p n)) (h4 : Fr D w I G (Go.AL.shape (hos27 p n)) 45 a hptrs) :
    Sr GL0 w I (G01 G) (os27 p n) ∧ Fr D w I (G01 G) (Go.AL.shape (os27 p n)) 45 a ptrs ∧ ∀ k, Mine (G01 G) (os27 p n) k ↔ Mine G (hos27 p n) k := by
  have hr := h3.ren (st := ⟨[], hos27 p n⟩) (ids := [102, 103]) (os := [.box (pvL (e_api_Re p)), .box (pvL [.int .i64 n])]) ⟨_, rfl, rfl⟩ (by decide) rfl
  refine ⟨hr, ⟨h4.size, h4.defers, fun t x hx => ?_⟩, fun k => ⟨fun ⟨id, o, q1, q2⟩ => ?_, fun ⟨id, o, q1, q2⟩ => ?_⟩⟩
  · simp only [ptrs, look_cons] at hx
    split at hx
    · rename_i e; subst e; cases hx
      obtain ⟨q1, q2⟩ := h4.slot 2 _ rfl
      obtain ⟨r1, r2⟩ := atr_one q2
      exact ⟨q1, _, rfl, r1, fun s m h => r2 s m h⟩
    · split at hx
      · rename_i e; subst e; cases hx
        obtain ⟨q1, q2⟩ := h4.slot 3 _ rfl
        obtain ⟨r1, r2⟩ := atr_one q2
        exact ⟨q1, _, rfl, r1, fun s m h => r2 s m h⟩
      · cases hx
  · simp only [os27, look_cons] at q1
    split at q1
    · rename_i e; subst e; exact ⟨102, _, rfl, q2⟩
    · split at q1
      · rename_i e; subst e; exact ⟨103, _, rfl, q2⟩
      · cases q1
  · simp only [hos27, look_cons] at q1
    split at q1
    · rename_i e; subst e; exact ⟨0, _, rfl, q2⟩
    · split at q1
      · rename_i e; subst e; exact ⟨1, _, rfl, q2⟩
      · cases q1

theorem look_ptrs {l : List (Nat × AT)} (hl : l = ptrs ∨ l = hptrs) {s : List UInt8} {t : Nat} {x : AT} (h : Go.AL.look l t = some x) : Go.AL.look ((0, one (.str s)) :: l) t = some x := by
  rw [look_cons]
  split
  · rename_i e; subst e; rcases hl with rfl | rfl <;> cases h
  · exact h

theorem to01s {D : List Deferred} {w : World} {I : Nat → Prop} {G : Nat → Option Nat} {a : Act} {p : api_Re} {n : Int} {s : List UInt8} (h3 : Sr GL0 w I G (hos27 p n)) (h4 : Fr D w I G (Go.AL.shape (hos27 p n)) 45 a ((0, one (.str s)) :: hptrs)) :
    Sr GL0 w I (G01 G) (os27 p n) ∧ Fr D w I (G01 G) (Go.AL.shape (os27 p n)) 45 a ((0, one (.str s)) :: ptrs) ∧ ∀ k, Mine (G01 G) (os27 p n) k ↔ Mine G (hos27 p n) k := by
  obtain ⟨q1, q2, q3⟩ := to01 h3 ⟨h4.size, h4.defers, fun t x hx => h4.slot t x (look_ptrs (.inr rfl) hx)⟩
  refine ⟨q1, ⟨q2.size, q2.defers, fun t x hx => ?_⟩, q3⟩
  rw [look_cons] at hx
  split at hx
  · rename_i e; subst e; cases hx
    obtain ⟨r1, r2⟩ := h4.slot 0 _ rfl
    exact ⟨r1, r2.mono (keeps_noref (fun _ _ => rfl) fun _ h => h) ⟨trivial, trivial⟩⟩
  · exact q2.slot t x hx

/-- the closure's two addresses -/
theorem ptr27 {D : List Deferred} {w : World} {I : Nat → Prop} {G : Nat → Option Nat} {a : Act} {p : api_Re} {n : Int} (h3 : Sr GL0 w I G (os27 p n)) (h4 : Fr D w I G (Go.AL.shape (os27 p n)) 45 a ptrs) :
    ∃ b c, G 0 = some b ∧ G 1 = some c ∧ a.tmps.getD 2 undef = .pointer (some ⟨b, 0, none⟩) ∧ a.tmps.getD 3 undef = .pointer (some ⟨c, 0, none⟩) := by
  obtain ⟨_, q2⟩ := h4.slot 2 _ rfl
  obtain ⟨_, q3⟩ := h4.slot 3 _ rfl
  have r2 := ((atr_one q2).2 _ _ rfl).2 rfl
  have r3 := ((atr_one q3).2 _ _ rfl).2 rfl
  cases hb : G 0 with
  | none => have := h3.none_ 0 _ rfl hb; simp [Obj.els] at this
  | some b =>
    cases hc : G 1 with
    | none => have := h3.none_ 1 _ rfl hc; simp [Obj.els] at this
    | some c => exact ⟨b, c, rfl, rfl, r2 b hb, r3 c hc⟩

def regA27 : Option Code → Code
  | some (.seq a _) => a
  | _ => .skip
def lenB27 : Option Code → Code
  | some (.seq _ (.seq b _)) => b
  | _ => .skip
def defer27 : Option Code → Code
  | some (.seq _ (.seq _ (.seq c _))) => c
  | _ => .skip

def FA (s : List UInt8) : Exit → S → Prop
  | .normal, st => st = ⟨(0, one (.str s)) :: hptrs, hos27 zRe 0⟩
  | _, _ => False
def FB (k : Nat) (s : List UInt8) (res : api_Re × Int) : Exit → S → Prop
  | .normal, st => st = ⟨(0, one (.str s)) :: hptrs, hos27 zRe 0⟩ ∧ F27_r k s = some res
  | .ret, st => st = ⟨hptrs, hos27 res.1 res.2⟩
  | _, _ => False

theorem regA_ok (s : List UInt8) : WA Tryz.prog GL0 45 (regA27 Tryz.f27.body) ⟨[(0, one (.str s))], []⟩ (FA s) := by
  show WA Tryz.prog GL0 45 (.region 0 _ _) _ _
  exact WA.reg [0, 2, 3] [102, 103] [(0, .obj 102), (1, .obj 103)] (env' := (0, one (.str s)) :: hptrs) (os' := hos27 zRe 0) (O := []) (by kernel_rfl) (sound _ _) trivial rfl

theorem lenB_ok (k : Nat) (s : List UInt8) (res : api_Re × Int) (hF : F27 k s = some res) :
    WA Tryz.prog GL0 45 (lenB27 Tryz.f27.body) ⟨(0, one (.str s)) :: hptrs, hos27 zRe 0⟩ (FB k s res) := by
  show WA Tryz.prog GL0 45 (.seq _ (.cond (.tmp 7) _ _)) _ _
  refine WA.seq ?_
  refine WA.reg [0, 2, 3, 7] [102, 103] [] (env' := (0, one (.str s)) :: hptrs ++ [(7, one (.bool (decide ((s.length : Int) > 400))))]) (os' := hos27 zRe 0) (O := []) (by kernel_rfl) (sound _ _) trivial ?_
  refine WA.cond (b := decide ((s.length : Int) > 400)) rfl (fun hb => ?_) (fun hb => ?_)
  · have hF := cond_t hF hb
    obtain rfl := Option.some.inj hF
    refine WA.seq ?_
    refine WA.reg [2, 3] [102, 103] [] (env' := hptrs) (os' := hos27 zRe 8) (O := []) (by kernel_rfl) (sound _ _) trivial ?_
    refine WA.ret ?_
    rfl
  · have hF := cond_f hF hb
    refine WA.keep [0, 2, 3] [102, 103] (env' := (0, one (.str s)) :: hptrs) (os' := hos27 zRe 0) (by kernel_rfl) (by kernel_rfl) ?_
    refine WA.skip ?_
    exact ⟨rfl, hF⟩

/-- the deferred closure, with what it captures -/
def defd (x y : Value) : Deferred := ⟨.fn (.func 47) #[x, y], #[]⟩

theorem defer_ok {a : Act} {w : World} {Q : Exit → Act → World → Prop} (ha : a.defers = []) (h : Q .normal { tmps := (a.tmps.setIfInBounds 9 (.func (.func 47) #[] #[a.tmps.getD 2 undef, a.tmps.getD 3 undef])), defers := [defd (a.tmps.getD 2 undef) (a.tmps.getD 3 undef)] } w) (hs : a.tmps.size = 45) :
    (defer27 Tryz.f27.body).wp Tryz.prog Q a w := by
  show (Code.region 3 _ _).wp _ _ _ _
  refine wp_region_list ?_
  obtain ⟨tm, df⟩ := a
  simp only at ha hs h; subst ha
  simp only [wpList, Region.wanted]
  refine .inl ?_
  simp only [Oper.wp, execOp]
  have e1 : Sem.run Tryz.prog (do
        let x ← Instr.makeFunc (Fn.func 47) (Array.map (Act.eval { tmps := tm, defers := [] }) #[]) (Array.map (Act.eval { tmps := tm, defers := [] }) #[Operand.tmp 2, Operand.tmp 3])
        pure (Next.value x)) w = .ok (.value (.func (.func 47) #[] #[tm.getD 2 undef, tm.getD 3 undef])) w := by simp [Instr.makeFunc, Act.eval]
  rw [e1, Oper.upon_value, if_pos trivial]
  refine .inl ?_
  have h9 : (tm.setIfInBounds 9 (Value.func (Fn.func 47) #[] #[tm.getD 2 undef, tm.getD 3 undef])).getD 9 undef = Value.func (Fn.func 47) #[] #[tm.getD 2 undef, tm.getD 3 undef] := by
    rw [Array.getD_eq_getD_getElem?, Array.getElem?_setIfInBounds]; simp [hs]
  have e2 : Sem.run Tryz.prog (do
        let x ← resolve (Act.eval { tmps := tm.setIfInBounds 9 (Value.func (Fn.func 47) #[] #[tm.getD 2 undef, tm.getD 3 undef]), defers := [] }) { callee := Callee.value (Operand.tmp 9), args := #[], argTypes := #[] } 0
        pure (Next.defer x)) w = .ok (.defer (defd (tm.getD 2 undef) (tm.getD 3 undef))) w := by
    simp only [resolve, Act.eval, h9, Deferred.ofValue]
    simp [defd]
  simp only [Act.put]
  rw [e2, Oper.upon_defer]
  exact h

theorem F27_ok (k : Nat) (s : List UInt8) (res : api_Re × Int) (hF : F27 k s = some res) :
    Sim Tryz.prog GL0 27 [one (.str s)] [] (.tup [(true, pvL (e_api_Re res.1)), (false, [.pv (.int .i64 res.2)])]) [] := by
  intro w I G vs hs ha
  obtain ⟨v, _, rfl, hv, rfl⟩ := ha
  refine calls_of_wp_defers Tryz.func27 rfl ?_
  refine wp_seq (wp_mono (regA_ok s [] w I G (number []) w I G _ (.refl _ _ _) (.refl _ _ _ _ _) hs ?_) ?_)
  · refine ⟨by simp [Tryz.ntmps27], rfl, fun t x hx => ?_⟩
    simp only [look_cons] at hx
    split at hx
    · rename_i e; subst e; cases hx
      refine ⟨by omega, ?_⟩
      rw [Array.getD_eq_getD_getElem?, Array.getElem?_append_left (by simp)]
      exact hv
    · cases hx
  rintro e a1 w1 ⟨I1, G1, s1, e1, k1, r1, f1, q1⟩
  cases e with
  | normal =>
    cases q1
    refine wp_seq (wp_mono (lenB_ok k s res hF [] w I G (number []) w1 I1 G1 a1 e1 k1 r1 f1) ?_)
    rintro e a2 w2 ⟨I2, G2, s2, e2, k2, r2, f2, q2⟩
    cases e with
    | normal =>
      obtain ⟨rfl, hF2⟩ := q2
      obtain ⟨r3, f3, m3⟩ := to01s r2 f2
      obtain ⟨b, c, gb, gc, vb, vc⟩ := ptr27 r3 ⟨f3.size, f3.defers, fun t x hx => f3.slot t x (look_ptrs (.inl rfl) hx)⟩
      refine wp_seq (defer_ok f2.defers ?_ f2.size)
      rw [vb, vc]
      refine wp_mono (rest_ok k s res hF2 _ rfl [defd (.pointer (some ⟨b, 0, none⟩)) (.pointer (some ⟨c, 0, none⟩))] w2 I2 (G01 G2) (os27 zRe 0) w2 I2 (G01 G2) _ (.refl _ _ _) (.refl _ _ _ _ _) r3 ⟨by simp [f3.size], rfl, fun t x hx => ?_⟩) ?_
      · obtain ⟨x1, x2⟩ := f3.slot t x hx
        have ht : t ≠ 9 := fun e => by subst e; cases hx
        refine ⟨x1, ?_⟩
        rw [Array.getD_eq_getD_getElem?] at x2 ⊢
        rw [Array.getElem?_setIfInBounds, if_neg (fun e => ht e.symm)]; exact x2
      have gl : ∀ {w4 I4 G4} {p : api_Re} {n : Int}, Ext w2 w4 I2 I4 (Mine (G01 G2) (os27 zRe 0)) (Mine G4 (os27 p n)) →
          Ext w w4 I I4 (Mine G (number [])) (Mine G4 (os27 p n)) := fun e4 =>
        ⟨Nat.le_trans e2.size e4.size, e4.os.trans e2.os, e4.tape.trans e2.tape, e4.output.trans e2.output, fun k h h' => by
            rw [e4.keep k (Nat.lt_of_lt_of_le h e2.size) (fun h2 => ((e2.mnew k ((m3 k).1 h2)).elim h' (fun h3 => by omega))), e2.keep k h h'],
          fun k h => e4.imm k (e2.imm k h), fun k h => by
            rcases e4.inew k h with h | h | h
            · exact e2.inew k h
            · exact (e2.mnew k ((m3 k).1 h)).elim (fun h => .inr (.inl h)) (fun h => .inr (.inr h))
            · exact .inr (.inr (Nat.le_trans e2.size h)),
          fun k h => (e4.mnew k h).elim (fun h => (e2.mnew k ((m3 k).1 h)).elim .inl .inr) (fun h => .inr (Nat.le_trans e2.size h))⟩
      rintro e a4 w4 ⟨I4, G4, ⟨env4, os4⟩, e4, k4, r4, f4, q4⟩
      -- what is left of the state
      have sub : ∀ {p : api_Re} {n : Int}, pickE env4 [2, 3] = ptrs → pickE os4 [0, 1] = os27 p n → Sr GL0 w4 I4 G4 (os27 p n) ∧ Fr [defd (.pointer (some ⟨b, 0, none⟩)) (.pointer (some ⟨c, 0, none⟩))] w4 I4 G4 (Go.AL.shape (os27 p n)) 45 a4 ptrs ∧
          Ext w2 w4 I2 I4 (Mine (G01 G2) (os27 zRe 0)) (Mine G4 (os27 p n)) ∧ G4 0 = some b ∧ G4 1 = some c := fun {p n} he ho => by
        have hl : ∀ k o, Go.AL.look (os27 p n) k = some o → Go.AL.look os4 k = some o := fun k o h => by rw [← ho] at h; exact look_pickE h
        obtain ⟨r5, k5⟩ := r4.sub (os' := os27 p n) hl
        refine ⟨r5, ⟨f4.size, f4.defers, fun t x hx => ?_⟩, ⟨e4.size, e4.os, e4.tape, e4.output, e4.keep, e4.imm, e4.inew, fun k ⟨id, o, q1, q2⟩ => e4.mnew k ⟨id, o, hl id o q1, q2⟩⟩, ?_, ?_⟩
        · rw [← he] at hx
          obtain ⟨x1, x2⟩ := f4.slot t x (look_pickE hx)
          exact ⟨x1, x2.mono k5 (AT.refs_any x)⟩
        · obtain ⟨m0, j1, j2, j3⟩ := (k4.trans (k5.weaken fun _ _ => trivial)).objs 0 _ _ (by omega) rfl
          cases j1
          rw [(j3 rfl).1]; exact gb
        · obtain ⟨m0, j1, j2, j3⟩ := (k4.trans (k5.weaken fun _ _ => trivial)).objs 1 _ _ (by omega) rfl
          cases j1
          rw [(j3 rfl).1]; exact gc
      have inv : ∀ w, (Go.invoke (defd (.pointer (some ⟨b, 0, none⟩)) (.pointer (some ⟨c, 0, none⟩))).target #[]).run Tryz.prog w = .ok (.enter 47 #[.pointer (some ⟨b, 0, none⟩), .pointer (some ⟨c, 0, none⟩)]) w := fun w => by kernel_rfl
      have hh : ∀ k, I k → w4.heap[k]? = w.heap[k]? := fun k hk => by rw [k4.heap k (k2.imm k hk), k2.heap k hk]
      cases e with
      | ret =>
        obtain ⟨he, ho⟩ := q4
        obtain ⟨r5, f5, e5, g0, g1⟩ := sub he ho
        show Leaves _ _ _ _ a4.defers _ _
        rw [f5.defers]
        refine ⟨by simp, _, _, 47, _, rfl, inv w4, fun c0 cs hm => ?_⟩
        obtain ⟨e', u', w', fr, ⟨rfl, rfl, rfl⟩, hc⟩ := catch_idle ⟨b, 0, none⟩ ⟨c, 0, none⟩ w4 c0 cs hm
        refine ⟨_, _, _, _, ?_, hc⟩
        obtain ⟨p1, p2, p3⟩ := r5.imm (.cells #[] 70)
        exact leave27 (gl (e5.trans p3)) (fun k hk => by rw [p2.heap k (e4.imm k (e2.imm k hk)), hh k hk]) p1 ⟨f5.size, f5.defers, fun t x hx => ⟨(f5.slot t x hx).1, (f5.slot t x hx).2.mono p2 (AT.refs_any x)⟩⟩
      | panic ch =>
        obtain ⟨rfl, rfl, he, p, n, ho⟩ := q4
        obtain ⟨r5, f5, e5, g0, g1⟩ := sub he ho
        show Leaves _ _ _ _ a4.defers _ _
        rw [f5.defers]
        refine ⟨by simp, _, _, 47, _, rfl, inv w4, fun c0 cs hm => ?_⟩
        obtain ⟨p1, p2, p3⟩ := r5.imm (.cells #[] 70)
        have f6 : Fr _ _ _ G4 (Go.AL.shape (os27 p n)) 45 a4 ptrs := ⟨f5.size, f5.defers, fun t x hx => ⟨(f5.slot t x hx).1, (f5.slot t x hx).2.mono p2 (AT.refs_any x)⟩⟩
        obtain ⟨b', c', gb', gc', vb', vc'⟩ := ptr27 p1 f6
        rw [g0] at gb'; cases gb'
        rw [g1] at gc'; cases gc'
        have hx0 := (f6.slot 2 _ rfl).2
        have hx1 := (f6.slot 3 _ rfl).2
        rw [vb'] at hx0; rw [vc'] at hx1
        obtain ⟨_, w6, G6, st6, x6, s6, mv6⟩ := ok_store (P := Tryz.prog) (st := ⟨[], os27 p n⟩) (t := 35) (x := .val false [.ptr 0 1 0 0]) (y := .val true (pvL (e_api_Re zRe))) (h := none) (z := .tup []) (os' := os27 zRe n) (O := []) (by kernel_rfl) trivial p1 hx0
          (v := .agg #[.int .i64 0, .slice none 0 0, .slice none 0 0, .int .i64 0, .int .i64 0]) ⟨_, rfl, _, _, rfl, PVr.int _ _, _, _, rfl, PVr.sl0 _ _, _, _, rfl, PVr.sl0 _ _, _, _, rfl, PVr.int _ _, _, _, rfl, PVr.int _ _, rfl⟩
        have hx1' := hx1.mono mv6.keeps ⟨show (1 : Nat) < 100 by omega, trivial⟩
        obtain ⟨_, w7, G7, st7, x7, s7, mv7⟩ := ok_store (P := Tryz.prog) (st := ⟨[], os27 zRe n⟩) (t := 3) (x := .val false [.ptr 1 1 0 0]) (y := one (.int .i64 3)) (h := none) (z := .tup []) (os' := os27 zRe 3) (O := []) (by kernel_rfl) trivial s6 hx1'
          (v := .int .i64 3) ⟨_, rfl, PVr.int _ _⟩
        obtain ⟨e', u', w', fr, ⟨rfl, rfl, rfl⟩, hc⟩ := catch_bad ⟨b, 0, none⟩ ⟨c, 0, none⟩ w4 w6 w7 st6 st7 c0 cs hm
        refine ⟨_, _, _, _, ?_, hc⟩
        have k7 := mv6.keeps.trans mv7.keeps
        refine leave27 (p := zRe) (n := 3) (gl (e5.trans (p3.trans (x6.trans x7)))) (fun k hk => ?_) s7 ⟨f6.size, f6.defers, fun t x hx => ⟨(f6.slot t x hx).1, ?_⟩⟩
        · have h4 := e4.imm k (e2.imm k hk)
          rw [k7.heap k (p2.imm k h4), p2.heap k h4, hh k hk]
        · refine (f6.slot t x hx).2.mono k7 ?_
          simp only [ptrs, look_cons] at hx
          split at hx
          · cases hx; exact ⟨show (0 : Nat) < 100 by omega, trivial⟩
          · split at hx
            · cases hx; exact ⟨show (1 : Nat) < 100 by omega, trivial⟩
            · cases hx
      | _ => exact q4.elim
    | ret =>
      cases q2
      obtain ⟨r3, f3, m3⟩ := to01 r2 f2
      show Leaves _ _ _ _ a2.defers _ _
      rw [f2.defers]
      refine leave27 ⟨e2.size, e2.os, e2.tape, e2.output, e2.keep, e2.imm, e2.inew, fun k h => e2.mnew k ((m3 k).1 h)⟩ k2.heap r3 f3
    | _ => exact q2.elim
  | _ => exact q1.elim
end Go.Proofs.YthilboheomikjaaGreatDoor
end

section
namespace Go.Proofs.YthilboheomikjaaGreatDoor
open Go.AL
set_option linter.unusedVariables false
set_option linter.unusedSimpArgs false
set_option maxRecDepth 100000

/-! entrepot entrepotlaw10.told -/
def F26_j0 (v122 : Bool) : Option Bool :=
  some v122
def F26 (k : Nat) : Option Bool :=
  (F27 k ([97, 123, 50, 125] : List UInt8)).bind fun y101 => (F27 k ([97, 42, 42] : List UInt8)).bind fun y102 => (F27 k ([97, 123, 50, 49, 125] : List UInt8)).bind fun y103 => (cond (y101.2 == 0) (cond (y101.1.f_Kind == 4) (cond (y101.1.f_Min == 2) (cond (y101.1.f_Max == 2) (cond (y102.2 == 3) (cond (y103.2 == 8) ((F31 k y101.1 ([97, 97] : List UInt8)).bind fun y110 => cond y110 ((F31 k y101.1 ([97] : List UInt8)).bind fun y112 => cond (!y112) ((F34 k).bind fun y114 => (F31 k y114 ([120, 195, 169] : List UInt8)).bind fun y115 => cond y115 ((F33 k ([97, 46, 98] : List UInt8)).bind fun y117 => (F31 k y117 ([97, 46, 98] : List UInt8)).bind fun y118 => cond y118 ((F33 k ([97, 46, 98] : List UInt8)).bind fun y120 => (F31 k y120 ([97, 120, 98] : List UInt8)).bind fun y121 => (F26_j0 (!y121))) ((F26_j0 false))) ((F26_j0 false))) ((F26_j0 false))) ((F26_j0 false))) ((F26_j0 false))) ((F26_j0 false))) ((F26_j0 false))) ((F26_j0 false))) ((F26_j0 false))) ((F26_j0 false)))
theorem F26_ok (k : Nat) (r : Bool) (hF : F26 k = some r) : Sim Tryz.prog GL0 26 [] [] (one (.bool r)) [] := by
  refine sim_of [] Tryz.func26 rfl (by kernel_rfl) (by kernel_rfl) ?_
  show WA _ _ 66 _ _ _
  refine WA.seq ?_
  refine WA.reg [] [] [] (env' := []) (os' := []) (O := []) (by kernel_rfl) (sound _ _) trivial ?_
  refine WA.seq ?_
  obtain ⟨y101, hy101, hF⟩ := bind_some hF
  refine WA.reg [1, 2] [101] [(0, .callR [] (.tup [(true, pvL (e_api_Re y101.1)), (false, [.pv (.int .i64 y101.2)])])), (4, .obj 101)] (env' := [(1, .val false [.ptr 101 1 0 0]), (2, one (.int .i64 y101.2))]) (os' := [(101, .box (pvL (e_api_Re y101.1)))]) (O := [Sim Tryz.prog GL0 27 [one (.str ([97, 123, 50, 125] : List UInt8))] [] (.tup [(true, pvL (e_api_Re y101.1)), (false, [.pv (.int .i64 y101.2)])]) [], ([] : List Nat).Nodup]) (by kernel_rfl) (sound _ _) ⟨(F27_ok k _ _ hy101), (by decide), trivial⟩ ?_
  refine WA.seq ?_
  obtain ⟨y102, hy102, hF⟩ := bind_some hF
  refine WA.reg [1, 2, 4] [101] [(0, .callR [] (.tup [(true, pvL (e_api_Re y102.1)), (false, [.pv (.int .i64 y102.2)])])), (4, .obj 103)] (env' := [(1, .val false [.ptr 101 1 0 0]), (2, one (.int .i64 y101.2)), (4, one (.int .i64 y102.2))]) (os' := [(101, .box (pvL (e_api_Re y101.1)))]) (O := [Sim Tryz.prog GL0 27 [one (.str ([97, 42, 42] : List UInt8))] [] (.tup [(true, pvL (e_api_Re y102.1)), (false, [.pv (.int .i64 y102.2)])]) [], ([] : List Nat).Nodup]) (by kernel_rfl) (sound _ _) ⟨(F27_ok k _ _ hy102), (by decide), trivial⟩ ?_
  refine WA.seq ?_
  obtain ⟨y103, hy103, hF⟩ := bind_some hF
  refine WA.reg [1, 2, 4, 6] [101] [(0, .callR [] (.tup [(true, pvL (e_api_Re y103.1)), (false, [.pv (.int .i64 y103.2)])])), (4, .obj 105)] (env' := [(1, .val false [.ptr 101 1 0 0]), (2, one (.int .i64 y101.2)), (4, one (.int .i64 y102.2)), (6, one (.int .i64 y103.2))]) (os' := [(101, .box (pvL (e_api_Re y101.1)))]) (O := [Sim Tryz.prog GL0 27 [one (.str ([97, 123, 50, 49, 125] : List UInt8))] [] (.tup [(true, pvL (e_api_Re y103.1)), (false, [.pv (.int .i64 y103.2)])]) [], ([] : List Nat).Nodup]) (by kernel_rfl) (sound _ _) ⟨(F27_ok k _ _ hy103), (by decide), trivial⟩ ?_
  refine WA.join (fun s_ => ∃ (v122 : Bool), pickE s_.env [0] = [(0, one (.bool v122))] ∧ pickE s_.os [] = [] ∧ F26_j0 v122 = some r) ?_ ?_
  · rintro s_ ⟨v122, he, ho, hF⟩
    refine WA.keep _ _ he ho ?_
    clear he ho
    refine WA.ret ?_
    obtain rfl := Option.some.inj hF
    exact out_ret (one (.bool v122)) [] (by kernel_rfl) (by kernel_rfl) (by kernel_rfl) (by kernel_rfl) (by decide) rfl rfl
  · rcases Bool.eq_false_or_eq_true (y101.2 == 0) with hb104 | hb104
    · have hF := cond_t hF hb104
      rcases Bool.eq_false_or_eq_true (y101.1.f_Kind == 4) with hb105 | hb105
      · have hF := cond_t hF hb105
        rcases Bool.eq_false_or_eq_true (y101.1.f_Min == 2) with hb106 | hb106
        · have hF := cond_t hF hb106
          rcases Bool.eq_false_or_eq_true (y101.1.f_Max == 2) with hb107 | hb107
          · have hF := cond_t hF hb107
            rcases Bool.eq_false_or_eq_true (y102.2 == 3) with hb108 | hb108
            · have hF := cond_t hF hb108
              rcases Bool.eq_false_or_eq_true (y103.2 == 8) with hb109 | hb109
              · have hF := cond_t hF hb109
                obtain ⟨y110, hy110, hF⟩ := bind_some hF
                rcases Bool.eq_false_or_eq_true y110 with hb111 | hb111
                · have hF := cond_t hF hb111
                  obtain ⟨y112, hy112, hF⟩ := bind_some hF
                  rcases Bool.eq_false_or_eq_true (!y112) with hb113 | hb113
                  · have hF := cond_t hF hb113
                    obtain ⟨y114, hy114, hF⟩ := bind_some hF
                    obtain ⟨y115, hy115, hF⟩ := bind_some hF
                    rcases Bool.eq_false_or_eq_true y115 with hb116 | hb116
                    · have hF := cond_t hF hb116
                      obtain ⟨y117, hy117, hF⟩ := bind_some hF
                      obtain ⟨y118, hy118, hF⟩ := bind_some hF
                      rcases Bool.eq_false_or_eq_true y118 with hb119 | hb119
                      · have hF := cond_t hF hb119
                        obtain ⟨y120, hy120, hF⟩ := bind_some hF
                        obtain ⟨y121, hy121, hF⟩ := bind_some hF
                        refine WA.reg [0] [] [(2, .bool true), (7, .bool true), (12, .bool true), (17, .bool true), (21, .bool true), (25, .bool true), (27, .callR [] (one (.bool y110))), (29, .bool true), (31, .callR [] (one (.bool y112))), (34, .bool true), (35, .callR [] (.val true (pvL (e_api_Re y114)))), (36, .callR [] (one (.bool y115))), (38, .bool true), (39, .callR [] (.val true (pvL (e_api_Re y117)))), (40, .callR [] (one (.bool y118))), (42, .bool true), (43, .callR [] (.val true (pvL (e_api_Re y120)))), (44, .callR [] (one (.bool y121)))] (env' := [(0, one (.bool (!y121)))]) (os' := []) (O := [(y101.2 == 0) = true, (y101.1.f_Kind == 4) = true, (y101.1.f_Min == 2) = true, (y101.1.f_Max == 2) = true, (y102.2 == 3) = true, (y103.2 == 8) = true, Sim Tryz.prog GL0 31 [.val true (pvL (e_api_Re y101.1)), one (.str ([97, 97] : List UInt8))] [] (one (.bool y110)) [], ([] : List Nat).Nodup, y110 = true, Sim Tryz.prog GL0 31 [.val true (pvL (e_api_Re y101.1)), one (.str ([97] : List UInt8))] [] (one (.bool y112)) [], ([] : List Nat).Nodup, (!y112) = true, Sim Tryz.prog GL0 34 [] [] (.val true (pvL (e_api_Re y114))) [], ([] : List Nat).Nodup, Sim Tryz.prog GL0 31 [.val true (pvL (e_api_Re y114)), one (.str ([120, 195, 169] : List UInt8))] [] (one (.bool y115)) [], ([] : List Nat).Nodup, y115 = true, Sim Tryz.prog GL0 33 [one (.str ([97, 46, 98] : List UInt8))] [] (.val true (pvL (e_api_Re y117))) [], ([] : List Nat).Nodup, Sim Tryz.prog GL0 31 [.val true (pvL (e_api_Re y117)), one (.str ([97, 46, 98] : List UInt8))] [] (one (.bool y118)) [], ([] : List Nat).Nodup, y118 = true, Sim Tryz.prog GL0 33 [one (.str ([97, 46, 98] : List UInt8))] [] (.val true (pvL (e_api_Re y120))) [], ([] : List Nat).Nodup, Sim Tryz.prog GL0 31 [.val true (pvL (e_api_Re y120)), one (.str ([97, 120, 98] : List UInt8))] [] (one (.bool y121)) [], ([] : List Nat).Nodup]) (by kernel_rfl) (sound _ _) ⟨hb104, hb105, hb106, hb107, hb108, hb109, (F31_ok k _ _ _ hy110), (by decide), hb111, (F31_ok k _ _ _ hy112), (by decide), hb113, (F34_ok k _ hy114), (by decide), (F31_ok k _ _ _ hy115), (by decide), hb116, (F33_ok k _ _ hy117), (by decide), (F31_ok k _ _ _ hy118), (by decide), hb119, (F33_ok k _ _ hy120), (by decide), (F31_ok k _ _ _ hy121), (by decide), trivial⟩ ?_
                        exact ⟨(!y121), by kernel_rfl, by kernel_rfl, hF⟩
                      · have hF := cond_f hF hb119
                        refine WA.reg [0] [] [(2, .bool true), (7, .bool true), (12, .bool true), (17, .bool true), (21, .bool true), (25, .bool true), (27, .callR [] (one (.bool y110))), (29, .bool true), (31, .callR [] (one (.bool y112))), (34, .bool true), (35, .callR [] (.val true (pvL (e_api_Re y114)))), (36, .callR [] (one (.bool y115))), (38, .bool true), (39, .callR [] (.val true (pvL (e_api_Re y117)))), (40, .callR [] (one (.bool y118))), (42, .bool false)] (env' := [(0, one (.bool false))]) (os' := []) (O := [(y101.2 == 0) = true, (y101.1.f_Kind == 4) = true, (y101.1.f_Min == 2) = true, (y101.1.f_Max == 2) = true, (y102.2 == 3) = true, (y103.2 == 8) = true, Sim Tryz.prog GL0 31 [.val true (pvL (e_api_Re y101.1)), one (.str ([97, 97] : List UInt8))] [] (one (.bool y110)) [], ([] : List Nat).Nodup, y110 = true, Sim Tryz.prog GL0 31 [.val true (pvL (e_api_Re y101.1)), one (.str ([97] : List UInt8))] [] (one (.bool y112)) [], ([] : List Nat).Nodup, (!y112) = true, Sim Tryz.prog GL0 34 [] [] (.val true (pvL (e_api_Re y114))) [], ([] : List Nat).Nodup, Sim Tryz.prog GL0 31 [.val true (pvL (e_api_Re y114)), one (.str ([120, 195, 169] : List UInt8))] [] (one (.bool y115)) [], ([] : List Nat).Nodup, y115 = true, Sim Tryz.prog GL0 33 [one (.str ([97, 46, 98] : List UInt8))] [] (.val true (pvL (e_api_Re y117))) [], ([] : List Nat).Nodup, Sim Tryz.prog GL0 31 [.val true (pvL (e_api_Re y117)), one (.str ([97, 46, 98] : List UInt8))] [] (one (.bool y118)) [], ([] : List Nat).Nodup, y118 = false]) (by kernel_rfl) (sound _ _) ⟨hb104, hb105, hb106, hb107, hb108, hb109, (F31_ok k _ _ _ hy110), (by decide), hb111, (F31_ok k _ _ _ hy112), (by decide), hb113, (F34_ok k _ hy114), (by decide), (F31_ok k _ _ _ hy115), (by decide), hb116, (F33_ok k _ _ hy117), (by decide), (F31_ok k _ _ _ hy118), (by decide), hb119, trivial⟩ ?_
                        exact ⟨false, by kernel_rfl, by kernel_rfl, hF⟩
                    · have hF := cond_f hF hb116
                      refine WA.reg [0] [] [(2, .bool true), (7, .bool true), (12, .bool true), (17, .bool true), (21, .bool true), (25, .bool true), (27, .callR [] (one (.bool y110))), (29, .bool true), (31, .callR [] (one (.bool y112))), (34, .bool true), (35, .callR [] (.val true (pvL (e_api_Re y114)))), (36, .callR [] (one (.bool y115))), (38, .bool false)] (env' := [(0, one (.bool false))]) (os' := []) (O := [(y101.2 == 0) = true, (y101.1.f_Kind == 4) = true, (y101.1.f_Min == 2) = true, (y101.1.f_Max == 2) = true, (y102.2 == 3) = true, (y103.2 == 8) = true, Sim Tryz.prog GL0 31 [.val true (pvL (e_api_Re y101.1)), one (.str ([97, 97] : List UInt8))] [] (one (.bool y110)) [], ([] : List Nat).Nodup, y110 = true, Sim Tryz.prog GL0 31 [.val true (pvL (e_api_Re y101.1)), one (.str ([97] : List UInt8))] [] (one (.bool y112)) [], ([] : List Nat).Nodup, (!y112) = true, Sim Tryz.prog GL0 34 [] [] (.val true (pvL (e_api_Re y114))) [], ([] : List Nat).Nodup, Sim Tryz.prog GL0 31 [.val true (pvL (e_api_Re y114)), one (.str ([120, 195, 169] : List UInt8))] [] (one (.bool y115)) [], ([] : List Nat).Nodup, y115 = false]) (by kernel_rfl) (sound _ _) ⟨hb104, hb105, hb106, hb107, hb108, hb109, (F31_ok k _ _ _ hy110), (by decide), hb111, (F31_ok k _ _ _ hy112), (by decide), hb113, (F34_ok k _ hy114), (by decide), (F31_ok k _ _ _ hy115), (by decide), hb116, trivial⟩ ?_
                      exact ⟨false, by kernel_rfl, by kernel_rfl, hF⟩
                  · have hF := cond_f hF hb113
                    refine WA.reg [0] [] [(2, .bool true), (7, .bool true), (12, .bool true), (17, .bool true), (21, .bool true), (25, .bool true), (27, .callR [] (one (.bool y110))), (29, .bool true), (31, .callR [] (one (.bool y112))), (34, .bool false)] (env' := [(0, one (.bool false))]) (os' := []) (O := [(y101.2 == 0) = true, (y101.1.f_Kind == 4) = true, (y101.1.f_Min == 2) = true, (y101.1.f_Max == 2) = true, (y102.2 == 3) = true, (y103.2 == 8) = true, Sim Tryz.prog GL0 31 [.val true (pvL (e_api_Re y101.1)), one (.str ([97, 97] : List UInt8))] [] (one (.bool y110)) [], ([] : List Nat).Nodup, y110 = true, Sim Tryz.prog GL0 31 [.val true (pvL (e_api_Re y101.1)), one (.str ([97] : List UInt8))] [] (one (.bool y112)) [], ([] : List Nat).Nodup, (!y112) = false]) (by kernel_rfl) (sound _ _) ⟨hb104, hb105, hb106, hb107, hb108, hb109, (F31_ok k _ _ _ hy110), (by decide), hb111, (F31_ok k _ _ _ hy112), (by decide), hb113, trivial⟩ ?_
                    exact ⟨false, by kernel_rfl, by kernel_rfl, hF⟩
                · have hF := cond_f hF hb111
                  refine WA.reg [0] [] [(2, .bool true), (7, .bool true), (12, .bool true), (17, .bool true), (21, .bool true), (25, .bool true), (27, .callR [] (one (.bool y110))), (29, .bool false)] (env' := [(0, one (.bool false))]) (os' := []) (O := [(y101.2 == 0) = true, (y101.1.f_Kind == 4) = true, (y101.1.f_Min == 2) = true, (y101.1.f_Max == 2) = true, (y102.2 == 3) = true, (y103.2 == 8) = true, Sim Tryz.prog GL0 31 [.val true (pvL (e_api_Re y101.1)), one (.str ([97, 97] : List UInt8))] [] (one (.bool y110)) [], ([] : List Nat).Nodup, y110 = false]) (by kernel_rfl) (sound _ _) ⟨hb104, hb105, hb106, hb107, hb108, hb109, (F31_ok k _ _ _ hy110), (by decide), hb111, trivial⟩ ?_
                  exact ⟨false, by kernel_rfl, by kernel_rfl, hF⟩
              · have hF := cond_f hF hb109
                refine WA.reg [0] [] [(2, .bool true), (7, .bool true), (12, .bool true), (17, .bool true), (21, .bool true), (25, .bool false)] (env' := [(0, one (.bool false))]) (os' := []) (O := [(y101.2 == 0) = true, (y101.1.f_Kind == 4) = true, (y101.1.f_Min == 2) = true, (y101.1.f_Max == 2) = true, (y102.2 == 3) = true, (y103.2 == 8) = false]) (by kernel_rfl) (sound _ _) ⟨hb104, hb105, hb106, hb107, hb108, hb109, trivial⟩ ?_
                exact ⟨false, by kernel_rfl, by kernel_rfl, hF⟩
            · have hF := cond_f hF hb108
              refine WA.reg [0] [] [(2, .bool true), (7, .bool true), (12, .bool true), (17, .bool true), (21, .bool false)] (env' := [(0, one (.bool false))]) (os' := []) (O := [(y101.2 == 0) = true, (y101.1.f_Kind == 4) = true, (y101.1.f_Min == 2) = true, (y101.1.f_Max == 2) = true, (y102.2 == 3) = false]) (by kernel_rfl) (sound _ _) ⟨hb104, hb105, hb106, hb107, hb108, trivial⟩ ?_
              exact ⟨false, by kernel_rfl, by kernel_rfl, hF⟩
          · have hF := cond_f hF hb107
            refine WA.reg [0] [] [(2, .bool true), (7, .bool true), (12, .bool true), (17, .bool false)] (env' := [(0, one (.bool false))]) (os' := []) (O := [(y101.2 == 0) = true, (y101.1.f_Kind == 4) = true, (y101.1.f_Min == 2) = true, (y101.1.f_Max == 2) = false]) (by kernel_rfl) (sound _ _) ⟨hb104, hb105, hb106, hb107, trivial⟩ ?_
            exact ⟨false, by kernel_rfl, by kernel_rfl, hF⟩
        · have hF := cond_f hF hb106
          refine WA.reg [0] [] [(2, .bool true), (7, .bool true), (12, .bool false)] (env' := [(0, one (.bool false))]) (os' := []) (O := [(y101.2 == 0) = true, (y101.1.f_Kind == 4) = true, (y101.1.f_Min == 2) = false]) (by kernel_rfl) (sound _ _) ⟨hb104, hb105, hb106, trivial⟩ ?_
          exact ⟨false, by kernel_rfl, by kernel_rfl, hF⟩
      · have hF := cond_f hF hb105
        refine WA.reg [0] [] [(2, .bool true), (7, .bool false)] (env' := [(0, one (.bool false))]) (os' := []) (O := [(y101.2 == 0) = true, (y101.1.f_Kind == 4) = false]) (by kernel_rfl) (sound _ _) ⟨hb104, hb105, trivial⟩ ?_
        exact ⟨false, by kernel_rfl, by kernel_rfl, hF⟩
    · have hF := cond_f hF hb104
      refine WA.reg [0] [] [(2, .bool false)] (env' := [(0, one (.bool false))]) (os' := []) (O := [(y101.2 == 0) = false]) (by kernel_rfl) (sound _ _) ⟨hb104, trivial⟩ ?_
      exact ⟨false, by kernel_rfl, by kernel_rfl, hF⟩
/-! entrepot entrepotlaw10.RexQuotes -/
def F9_j1 (v113 : Bool) : Option Bool :=
  some v113
def F9_j3 (v132 : Bool) : Option Bool :=
  some v132
def F9_j2 (k : Nat) (v0 : List UInt8) (v1 : List UInt8) (v119 : Bool) : Option Bool :=
  cond v119 ((some false)) ((F26 k).bind fun y121 => cond y121 ((F34 k).bind fun y123 => (F31 k y123 v0).bind fun y124 => cond y124 ((F34 k).bind fun y126 => (F31 k y126 v1).bind fun y127 => (F25 k v1).bind fun y128 => cond (y127 == y128) ((F34 k).bind fun y130 => (F30 k y130).bind fun y131 => (F9_j3 y131)) ((F9_j3 false))) ((F9_j3 false))) ((F9_j3 false)))
def F9_j0 (k : Nat) (v0 : List UInt8) (v1 : List UInt8) (v102 : Bool) : Option Bool :=
  cond v102 ((F26 k).bind fun y104 => (some y104)) ((F33 k v0).bind fun y105 => (F25 k v0).bind fun y106 => (cond (!y106) ((F26 k).bind fun y108 => cond y108 ((F31 k y105 ([] : List UInt8)).bind fun y110 => cond y110 ((F31 k y105 v0).bind fun y112 => (F9_j1 (!y112))) ((F9_j1 false))) ((F9_j1 false))) ((F30 k y105).bind fun y114 => cond (!y114) ((F9_j2 k v0 v1 true)) ((F31 k y105 v0).bind fun y116 => cond (!y116) ((F9_j2 k v0 v1 true)) ((F31 k y105 v1).bind fun y118 => (F9_j2 k v0 v1 (!(y118 == (v0 == v1)))))))))
def F9 (k : Nat) (v0 : List UInt8) (v1 : List UInt8) : Option Bool :=
  (cond (decide ((v0.length : Int) > 60)) ((F9_j0 k v0 v1 true)) ((F9_j0 k v0 v1 (decide ((v1.length : Int) > 60)))))
theorem F9_ok (k : Nat) (v0 : List UInt8) (v1 : List UInt8) (r : Bool) (hF : F9 k v0 v1 = some r) : Sim Tryz.prog GL0 9 [one (.str v0), one (.str v1)] [] (one (.bool r)) [] := by
  refine sim_of [] Tryz.func9 rfl (by kernel_rfl) (by kernel_rfl) ?_
  show WA _ _ 67 _ _ _
  refine WA.seq ?_
  refine WA.reg [0, 1] [] [] (env' := [(0, one (.str v0)), (1, one (.str v1))]) (os' := []) (O := []) (by kernel_rfl) (sound _ _) trivial ?_
  refine WA.seq ?_
  refine WA.join (fun s_ => ∃ (v102 : Bool), pickE s_.env [0, 1, 13] = [(0, one (.str v0)), (1, one (.str v1)), (13, one (.bool v102))] ∧ pickE s_.os [] = [] ∧ F9_j0 k v0 v1 v102 = some r) ?_ ?_
  · rintro s_ ⟨v102, he, ho, hF⟩
    refine WA.keep _ _ he ho ?_
    clear he ho
    refine WA.cond (b := v102) rfl (fun hb103 => ?_) (fun hb103 => ?_)
    · have hF := cond_t hF hb103
      refine WA.seq ?_
      obtain ⟨y104, hy104, hF⟩ := bind_some hF
      refine WA.reg [4] [] [(0, .callR [] (one (.bool y104)))] (env' := [(4, one (.bool y104))]) (os' := []) (O := [Sim Tryz.prog GL0 26 [] [] (one (.bool y104)) [], ([] : List Nat).Nodup]) (by kernel_rfl) (sound _ _) ⟨(F26_ok k _ hy104), (by decide), trivial⟩ ?_
      refine WA.ret ?_
      obtain rfl := Option.some.inj hF
      exact out_ret (one (.bool y104)) [] (by kernel_rfl) (by kernel_rfl) (by kernel_rfl) (by kernel_rfl) (by decide) rfl rfl
    · have hF := cond_f hF hb103
      refine WA.skip ?_
      refine WA.seq ?_
      obtain ⟨y105, hy105, hF⟩ := bind_some hF
      refine WA.reg [0, 1, 5] [105] [(1, .callR [] (.val true (pvL (e_api_Re y105)))), (2, .obj 105)] (env' := [(0, one (.str v0)), (1, one (.str v1)), (5, .val false [.ptr 105 1 0 0])]) (os' := [(105, .box (pvL (e_api_Re y105)))]) (O := [Sim Tryz.prog GL0 33 [one (.str v0)] [] (.val true (pvL (e_api_Re y105))) [], ([] : List Nat).Nodup]) (by kernel_rfl) (sound _ _) ⟨(F33_ok k _ _ hy105), (by decide), trivial⟩ ?_
      refine WA.seq ?_
      refine WA.seq ?_
      obtain ⟨y106, hy106, hF⟩ := bind_some hF
      refine WA.reg [0, 1, 5, 19] [105] [(1, .callR [] (one (.bool y106)))] (env' := [(0, one (.str v0)), (1, one (.str v1)), (5, .val false [.ptr 105 1 0 0]), (19, one (.bool (!y106)))]) (os' := [(105, .box (pvL (e_api_Re y105)))]) (O := [Sim Tryz.prog GL0 25 [one (.str v0)] [] (one (.bool y106)) [], ([] : List Nat).Nodup]) (by kernel_rfl) (sound _ _) ⟨(F25_ok k _ _ hy106), (by decide), trivial⟩ ?_
      refine WA.cond (b := (!y106)) rfl (fun hb107 => ?_) (fun hb107 => ?_)
      · have hF := cond_t hF hb107
        refine WA.join (fun s_ => ∃ (v113 : Bool), pickE s_.env [4] = [(4, one (.bool v113))] ∧ pickE s_.os [] = [] ∧ F9_j1 v113 = some r) ?_ ?_
        · rintro s_ ⟨v113, he, ho, hF⟩
          refine WA.keep _ _ he ho ?_
          clear he ho
          refine WA.ret ?_
          obtain rfl := Option.some.inj hF
          exact out_ret (one (.bool v113)) [] (by kernel_rfl) (by kernel_rfl) (by kernel_rfl) (by kernel_rfl) (by decide) rfl rfl
        · obtain ⟨y108, hy108, hF⟩ := bind_some hF
          rcases Bool.eq_false_or_eq_true y108 with hb109 | hb109
          · have hF := cond_t hF hb109
            obtain ⟨y110, hy110, hF⟩ := bind_some hF
            rcases Bool.eq_false_or_eq_true y110 with hb111 | hb111
            · have hF := cond_t hF hb111
              obtain ⟨y112, hy112, hF⟩ := bind_some hF
              refine WA.reg [4] [] [(0, .callR [] (one (.bool y108))), (1, .bool true), (3, .callR [] (one (.bool y110))), (5, .bool true), (8, .callR [] (one (.bool y112)))] (env' := [(4, one (.bool (!y112)))]) (os' := []) (O := [Sim Tryz.prog GL0 26 [] [] (one (.bool y108)) [], ([] : List Nat).Nodup, y108 = true, Sim Tryz.prog GL0 31 [.val true (pvL (e_api_Re y105)), one (.str ([] : List UInt8))] [] (one (.bool y110)) [], ([] : List Nat).Nodup, y110 = true, Sim Tryz.prog GL0 31 [.val true (pvL (e_api_Re y105)), one (.str v0)] [] (one (.bool y112)) [], ([] : List Nat).Nodup]) (by kernel_rfl) (sound _ _) ⟨(F26_ok k _ hy108), (by decide), hb109, (F31_ok k _ _ _ hy110), (by decide), hb111, (F31_ok k _ _ _ hy112), (by decide), trivial⟩ ?_
              exact ⟨(!y112), by kernel_rfl, by kernel_rfl, hF⟩
            · have hF := cond_f hF hb111
              refine WA.reg [4] [] [(0, .callR [] (one (.bool y108))), (1, .bool true), (3, .callR [] (one (.bool y110))), (5, .bool false)] (env' := [(4, one (.bool false))]) (os' := []) (O := [Sim Tryz.prog GL0 26 [] [] (one (.bool y108)) [], ([] : List Nat).Nodup, y108 = true, Sim Tryz.prog GL0 31 [.val true (pvL (e_api_Re y105)), one (.str ([] : List UInt8))] [] (one (.bool y110)) [], ([] : List Nat).Nodup, y110 = false]) (by kernel_rfl) (sound _ _) ⟨(F26_ok k _ hy108), (by decide), hb109, (F31_ok k _ _ _ hy110), (by decide), hb111, trivial⟩ ?_
              exact ⟨false, by kernel_rfl, by kernel_rfl, hF⟩
          · have hF := cond_f hF hb109
            refine WA.reg [4] [] [(0, .callR [] (one (.bool y108))), (1, .bool false)] (env' := [(4, one (.bool false))]) (os' := []) (O := [Sim Tryz.prog GL0 26 [] [] (one (.bool y108)) [], ([] : List Nat).Nodup, y108 = false]) (by kernel_rfl) (sound _ _) ⟨(F26_ok k _ hy108), (by decide), hb109, trivial⟩ ?_
            exact ⟨false, by kernel_rfl, by kernel_rfl, hF⟩
      · have hF := cond_f hF hb107
        refine WA.skip ?_
        refine WA.seq ?_
        refine WA.join (fun s_ => ∃ (v119 : Bool), pickE s_.env [0, 1, 48] = [(0, one (.str v0)), (1, one (.str v1)), (48, one (.bool v119))] ∧ pickE s_.os [] = [] ∧ F9_j2 k v0 v1 v119 = some r) ?_ ?_
        · rintro s_ ⟨v119, he, ho, hF⟩
          refine WA.keep _ _ he ho ?_
          clear he ho
          refine WA.cond (b := v119) rfl (fun hb120 => ?_) (fun hb120 => ?_)
          · have hF := cond_t hF hb120
            refine WA.seq ?_
            refine WA.reg [4] [] [] (env' := [(4, one (.bool false))]) (os' := []) (O := []) (by kernel_rfl) (sound _ _) trivial ?_
            refine WA.ret ?_
            obtain rfl := Option.some.inj hF
            exact out_ret (one (.bool false)) [] (by kernel_rfl) (by kernel_rfl) (by kernel_rfl) (by kernel_rfl) (by decide) rfl rfl
          · have hF := cond_f hF hb120
            refine WA.skip ?_
            refine WA.join (fun s_ => ∃ (v132 : Bool), pickE s_.env [4] = [(4, one (.bool v132))] ∧ pickE s_.os [] = [] ∧ F9_j3 v132 = some r) ?_ ?_
            · rintro s_ ⟨v132, he, ho, hF⟩
              refine WA.keep _ _ he ho ?_
              clear he ho
              refine WA.ret ?_
              obtain rfl := Option.some.inj hF
              exact out_ret (one (.bool v132)) [] (by kernel_rfl) (by kernel_rfl) (by kernel_rfl) (by kernel_rfl) (by decide) rfl rfl
            · obtain ⟨y121, hy121, hF⟩ := bind_some hF
              rcases Bool.eq_false_or_eq_true y121 with hb122 | hb122
              · have hF := cond_t hF hb122
                obtain ⟨y123, hy123, hF⟩ := bind_some hF
                obtain ⟨y124, hy124, hF⟩ := bind_some hF
                rcases Bool.eq_false_or_eq_true y124 with hb125 | hb125
                · have hF := cond_t hF hb125
                  obtain ⟨y126, hy126, hF⟩ := bind_some hF
                  obtain ⟨y127, hy127, hF⟩ := bind_some hF
                  obtain ⟨y128, hy128, hF⟩ := bind_some hF
                  rcases Bool.eq_false_or_eq_true (y127 == y128) with hb129 | hb129
                  · have hF := cond_t hF hb129
                    obtain ⟨y130, hy130, hF⟩ := bind_some hF
                    obtain ⟨y131, hy131, hF⟩ := bind_some hF
                    refine WA.reg [4] [] [(0, .callR [] (one (.bool y121))), (1, .bool true), (2, .callR [] (.val true (pvL (e_api_Re y123)))), (4, .callR [] (one (.bool y124))), (6, .bool true), (7, .callR [] (.val true (pvL (e_api_Re y126)))), (9, .callR [] (one (.bool y127))), (11, .callR [] (one (.bool y128))), (14, .bool true), (15, .callR [] (.val true (pvL (e_api_Re y130)))), (16, .callR [] (one (.bool y131)))] (env' := [(4, one (.bool y131))]) (os' := []) (O := [Sim Tryz.prog GL0 26 [] [] (one (.bool y121)) [], ([] : List Nat).Nodup, y121 = true, Sim Tryz.prog GL0 34 [] [] (.val true (pvL (e_api_Re y123))) [], ([] : List Nat).Nodup, Sim Tryz.prog GL0 31 [.val true (pvL (e_api_Re y123)), one (.str v0)] [] (one (.bool y124)) [], ([] : List Nat).Nodup, y124 = true, Sim Tryz.prog GL0 34 [] [] (.val true (pvL (e_api_Re y126))) [], ([] : List Nat).Nodup, Sim Tryz.prog GL0 31 [.val true (pvL (e_api_Re y126)), one (.str v1)] [] (one (.bool y127)) [], ([] : List Nat).Nodup, Sim Tryz.prog GL0 25 [one (.str v1)] [] (one (.bool y128)) [], ([] : List Nat).Nodup, (y127 == y128) = true, Sim Tryz.prog GL0 34 [] [] (.val true (pvL (e_api_Re y130))) [], ([] : List Nat).Nodup, Sim Tryz.prog GL0 30 [.val true (pvL (e_api_Re y130))] [] (one (.bool y131)) [], ([] : List Nat).Nodup]) (by kernel_rfl) (sound _ _) ⟨(F26_ok k _ hy121), (by decide), hb122, (F34_ok k _ hy123), (by decide), (F31_ok k _ _ _ hy124), (by decide), hb125, (F34_ok k _ hy126), (by decide), (F31_ok k _ _ _ hy127), (by decide), (F25_ok k _ _ hy128), (by decide), hb129, (F34_ok k _ hy130), (by decide), (F30_ok k _ _ hy131), (by decide), trivial⟩ ?_
                    exact ⟨y131, by kernel_rfl, by kernel_rfl, hF⟩
                  · have hF := cond_f hF hb129
                    refine WA.reg [4] [] [(0, .callR [] (one (.bool y121))), (1, .bool true), (2, .callR [] (.val true (pvL (e_api_Re y123)))), (4, .callR [] (one (.bool y124))), (6, .bool true), (7, .callR [] (.val true (pvL (e_api_Re y126)))), (9, .callR [] (one (.bool y127))), (11, .callR [] (one (.bool y128))), (14, .bool false)] (env' := [(4, one (.bool false))]) (os' := []) (O := [Sim Tryz.prog GL0 26 [] [] (one (.bool y121)) [], ([] : List Nat).Nodup, y121 = true, Sim Tryz.prog GL0 34 [] [] (.val true (pvL (e_api_Re y123))) [], ([] : List Nat).Nodup, Sim Tryz.prog GL0 31 [.val true (pvL (e_api_Re y123)), one (.str v0)] [] (one (.bool y124)) [], ([] : List Nat).Nodup, y124 = true, Sim Tryz.prog GL0 34 [] [] (.val true (pvL (e_api_Re y126))) [], ([] : List Nat).Nodup, Sim Tryz.prog GL0 31 [.val true (pvL (e_api_Re y126)), one (.str v1)] [] (one (.bool y127)) [], ([] : List Nat).Nodup, Sim Tryz.prog GL0 25 [one (.str v1)] [] (one (.bool y128)) [], ([] : List Nat).Nodup, (y127 == y128) = false]) (by kernel_rfl) (sound _ _) ⟨(F26_ok k _ hy121), (by decide), hb122, (F34_ok k _ hy123), (by decide), (F31_ok k _ _ _ hy124), (by decide), hb125, (F34_ok k _ hy126), (by decide), (F31_ok k _ _ _ hy127), (by decide), (F25_ok k _ _ hy128), (by decide), hb129, trivial⟩ ?_
                    exact ⟨false, by kernel_rfl, by kernel_rfl, hF⟩
                · have hF := cond_f hF hb125
                  refine WA.reg [4] [] [(0, .callR [] (one (.bool y121))), (1, .bool true), (2, .callR [] (.val true (pvL (e_api_Re y123)))), (4, .callR [] (one (.bool y124))), (6, .bool false)] (env' := [(4, one (.bool false))]) (os' := []) (O := [Sim Tryz.prog GL0 26 [] [] (one (.bool y121)) [], ([] : List Nat).Nodup, y121 = true, Sim Tryz.prog GL0 34 [] [] (.val true (pvL (e_api_Re y123))) [], ([] : List Nat).Nodup, Sim Tryz.prog GL0 31 [.val true (pvL (e_api_Re y123)), one (.str v0)] [] (one (.bool y124)) [], ([] : List Nat).Nodup, y124 = false]) (by kernel_rfl) (sound _ _) ⟨(F26_ok k _ hy121), (by decide), hb122, (F34_ok k _ hy123), (by decide), (F31_ok k _ _ _ hy124), (by decide), hb125, trivial⟩ ?_
                  exact ⟨false, by kernel_rfl, by kernel_rfl, hF⟩
              · have hF := cond_f hF hb122
                refine WA.reg [4] [] [(0, .callR [] (one (.bool y121))), (1, .bool false)] (env' := [(4, one (.bool false))]) (os' := []) (O := [Sim Tryz.prog GL0 26 [] [] (one (.bool y121)) [], ([] : List Nat).Nodup, y121 = false]) (by kernel_rfl) (sound _ _) ⟨(F26_ok k _ hy121), (by decide), hb122, trivial⟩ ?_
                exact ⟨false, by kernel_rfl, by kernel_rfl, hF⟩
        · obtain ⟨y114, hy114, hF⟩ := bind_some hF
          rcases Bool.eq_false_or_eq_true (!y114) with hb115 | hb115
          · have hF := cond_t hF hb115
            refine WA.reg [0, 1, 48] [] [(1, .callR [] (one (.bool y114))), (3, .bool true)] (env' := [(0, one (.str v0)), (1, one (.str v1)), (48, one (.bool true))]) (os' := []) (O := [Sim Tryz.prog GL0 30 [.val true (pvL (e_api_Re y105))] [] (one (.bool y114)) [], ([] : List Nat).Nodup, (!y114) = true]) (by kernel_rfl) (sound _ _) ⟨(F30_ok k _ _ hy114), (by decide), hb115, trivial⟩ ?_
            exact ⟨true, by kernel_rfl, by kernel_rfl, hF⟩
          · have hF := cond_f hF hb115
            obtain ⟨y116, hy116, hF⟩ := bind_some hF
            rcases Bool.eq_false_or_eq_true (!y116) with hb117 | hb117
            · have hF := cond_t hF hb117
              refine WA.reg [0, 1, 48] [] [(1, .callR [] (one (.bool y114))), (3, .bool false), (6, .callR [] (one (.bool y116))), (9, .bool true)] (env' := [(0, one (.str v0)), (1, one (.str v1)), (48, one (.bool true))]) (os' := []) (O := [Sim Tryz.prog GL0 30 [.val true (pvL (e_api_Re y105))] [] (one (.bool y114)) [], ([] : List Nat).Nodup, (!y114) = false, Sim Tryz.prog GL0 31 [.val true (pvL (e_api_Re y105)), one (.str v0)] [] (one (.bool y116)) [], ([] : List Nat).Nodup, (!y116) = true]) (by kernel_rfl) (sound _ _) ⟨(F30_ok k _ _ hy114), (by decide), hb115, (F31_ok k _ _ _ hy116), (by decide), hb117, trivial⟩ ?_
              exact ⟨true, by kernel_rfl, by kernel_rfl, hF⟩
            · have hF := cond_f hF hb117
              obtain ⟨y118, hy118, hF⟩ := bind_some hF
              refine WA.reg [0, 1, 48] [] [(1, .callR [] (one (.bool y114))), (3, .bool false), (6, .callR [] (one (.bool y116))), (9, .bool false), (12, .callR [] (one (.bool y118)))] (env' := [(0, one (.str v0)), (1, one (.str v1)), (48, one (.bool (!(y118 == (v0 == v1)))))]) (os' := []) (O := [Sim Tryz.prog GL0 30 [.val true (pvL (e_api_Re y105))] [] (one (.bool y114)) [], ([] : List Nat).Nodup, (!y114) = false, Sim Tryz.prog GL0 31 [.val true (pvL (e_api_Re y105)), one (.str v0)] [] (one (.bool y116)) [], ([] : List Nat).Nodup, (!y116) = false, Sim Tryz.prog GL0 31 [.val true (pvL (e_api_Re y105)), one (.str v1)] [] (one (.bool y118)) [], ([] : List Nat).Nodup]) (by kernel_rfl) (sound _ _) ⟨(F30_ok k _ _ hy114), (by decide), hb115, (F31_ok k _ _ _ hy116), (by decide), hb117, (F31_ok k _ _ _ hy118), (by decide), trivial⟩ ?_
              exact ⟨(!(y118 == (v0 == v1))), by kernel_rfl, by kernel_rfl, hF⟩
  · rcases Bool.eq_false_or_eq_true (decide ((v0.length : Int) > 60)) with hb101 | hb101
    · have hF := cond_t hF hb101
      refine WA.reg [0, 1, 13] [] [(3, .bool true)] (env' := [(0, one (.str v0)), (1, one (.str v1)), (13, one (.bool true))]) (os' := []) (O := [(decide ((v0.length : Int) > 60)) = true]) (by kernel_rfl) (sound _ _) ⟨hb101, trivial⟩ ?_
      exact ⟨true, by kernel_rfl, by kernel_rfl, hF⟩
    · have hF := cond_f hF hb101
      refine WA.reg [0, 1, 13] [] [(3, .bool false)] (env' := [(0, one (.str v0)), (1, one (.str v1)), (13, one (.bool (decide ((v1.length : Int) > 60))))]) (os' := []) (O := [(decide ((v0.length : Int) > 60)) = false]) (by kernel_rfl) (sound _ _) ⟨hb101, trivial⟩ ?_
      exact ⟨(decide ((v1.length : Int) > 60)), by kernel_rfl, by kernel_rfl, hF⟩
end Go.Proofs.YthilboheomikjaaGreatDoor
end

section
namespace Go.Proofs.YthilboheomikjaaGreatDoor
open Go.AL Go.Lib
set_option linter.unusedVariables false
set_option linter.unusedSimpArgs false
set_option maxRecDepth 100000

theorem pts_len : ∀ (n : Nat) (s : List UInt8), s.length ≤ n → (pts s).length ≤ s.length ∧ (s ≠ [] → 0 < (pts s).length)
  | n, s, hn => by
    by_cases e : s = []
    · subst e; exact ⟨Nat.le_refl _, fun h => absurd rfl h⟩
    · have hl : 0 < s.length := List.length_pos_iff.2 e
      have hw := decodeL_width s
      have hle := decodeL_le s e
      obtain ⟨n, rfl⟩ : ∃ q, n = q + 1 := ⟨n - 1, by omega⟩
      have ih := pts_len n (s.drop (decodeL s).2) (by rw [List.length_drop]; omega)
      rw [pts_step e]
      simp only [List.length_cons]
      have := ih.1
      rw [List.length_drop] at this
      exact ⟨by omega, fun _ => by omega⟩

theorem pts_point : ∀ (n : Nat) {s : List UInt8}, s.length ≤ n → validD s = true → ∀ c ∈ pts s, isPoint c
  | n, s, hn, hv, c, hc => by
    by_cases e : s = []
    · subst e; rw [pts_nil] at hc; cases hc
    · have hl : 0 < s.length := List.length_pos_iff.2 e
      have hw := decodeL_width s
      have hle := decodeL_le s e
      obtain ⟨h1, h2⟩ := valid_step e hv
      obtain ⟨n, rfl⟩ : ∃ q, n = q + 1 := ⟨n - 1, by omega⟩
      rw [pts_step e] at hc
      rcases List.mem_cons.1 hc with rfl | hc
      · exact point_of h1
      · exact pts_point n (by rw [List.length_drop]; omega) h2 c hc

theorem quote_loop {k : Nat} {s : List UInt8} (hs : s.length ≤ 100000) (hv : validD s = true) : ∀ (m i : Nat) (acc : List Int), i ≤ s.length → s.length - i < m → validD (s.drop i) = true → acc ++ pts (s.drop i) = pts s →
    F33_l2 k s m (acc.map sg) (i : Int) = some (mkQ (pts s))
  | 0, i, acc, hi, hm, _, _ => by omega
  | m + 1, i, acc, hi, hm, hd, he => by
    show F33_b2 _ _ _ _ _ = _
    unfold F33_b2
    simp only [F49, F72]
    rw [if_pos (by omega)]
    simp only [Option.bind_some, hv, cond]
    by_cases h : i < s.length
    · have hne : s.drop i ≠ [] := fun h' => by have := congrArg List.length h'; rw [List.length_drop] at this; simp at this; omega
      have hw := decodeL_width (s.drop i)
      have hle := decodeL_le (s.drop i) hne
      rw [List.length_drop] at hle
      obtain ⟨hb, hv'⟩ := valid_step hne hd
      have hacc : acc.length ≤ s.length := by
        have h1 := (pts_len _ s (Nat.le_refl _)).1
        have := congrArg List.length he
        rw [List.length_append] at this; omega
      rw [dt (by omega)]
      unfold F33_j3
      simp only [cond]
      rw [F55_at h (by omega)]
      simp only [Option.bind_some, nxt]
      rw [if_neg hb]
      simp only [F58, Option.bind_some]
      rw [if_pos (by simp; omega), w64_id (by omega) (by omega)]
      have := quote_loop (k := k) hs hv m (i + (decodeL (s.drop i)).2) (acc ++ [((decodeL (s.drop i)).1 : Int)]) (by omega) (by omega) (by rw [← List.drop_drop]; exact hv') (by rw [← he, pts_step hne, ← List.drop_drop]; simp)
      rw [List.map_append] at this
      exact this
    · rw [df (by omega)]
      unfold F33_j3
      simp only [cond]
      have e : s.drop i = [] := List.drop_eq_nil_of_le (by omega)
      rw [e, pts_nil, List.append_nil] at he
      subst he
      unfold mkQ
      by_cases h1 : (pts s).length = 1
      · obtain ⟨c, hc⟩ := List.length_eq_one_iff.1 h1
        rw [dif_pos h1]
        have hb : ((((pts s).map sg).length : Int) == 1) = true := by rw [List.length_map, h1]; rfl
        rw [hb]
        simp only
        rw [if_pos (by rw [List.length_map, h1]; exact ⟨by omega, by omega⟩)]
        simp only [hc, List.map_cons, idx_z, Option.bind_some]
        rfl
      · rw [dif_neg h1]
        have hb : ((((pts s).map sg).length : Int) == 1) = false := by rw [List.length_map]; exact beq_f (by omega)
        rw [hb]

theorem quote_ok {k : Nat} {s : List UInt8} (hs : s.length ≤ 100000) (hk : s.length < k) (hv : validD s = true) : F33 k s = some (mkQ (pts s)) := by
  unfold F33
  exact quote_loop hs hv k 0 [] (Nat.zero_le _) (by omega) (by rw [List.drop_zero]; exact hv) (by rw [List.drop_zero]; rfl)
theorem quote_bad {k : Nat} {s : List UInt8} (hs : s.length ≤ 100000) (hk : 0 < k) (hv : validD s = false) : F33 k s = some (mkQ []) := by
  obtain ⟨k, rfl⟩ : ∃ q, k = q + 1 := ⟨k - 1, by omega⟩
  unfold F33
  show F33_b2 _ _ _ _ _ = _
  unfold F33_b2
  simp only [F49, F72]
  rw [if_pos (by omega)]
  simp only [Option.bind_some, hv, cond]
  rfl

def anyR : api_Re := ⟨4, [], [⟨1, ptsR, [], 0, 0⟩], 0, -1⟩
theorem any_eq (k : Nat) : F34 k = some anyR := rfl
theorem any_may : F30 3000 anyR = some true := by kernel_rfl
theorem any_wf : WF anyR := by
  refine ⟨⟨.inr (.inr (.inr rfl)), fun _ => ⟨rfl, Int.le_refl _, by decide, by decide, .inl rfl⟩, by simp [anyR], by simp [anyR]⟩, ⟨⟨.inl rfl, fun h => absurd (show (1 : Int) = 4 from h) (by decide), by simp [ptsR], by simp⟩, trivial⟩, trivial⟩
theorem any_lang {w : List Int} (h : ∀ c ∈ w, isPoint c) : Lang anyR w := by
  unfold anyR
  rw [rep_lang]
  refine ⟨w.length, by omega, .inl (by decide), ?_⟩
  induction w with
  | nil => rfl
  | cons c w ih =>
    refine ⟨[c], w, rfl, ?_, ih fun d hd => h d (List.mem_cons_of_mem _ hd)⟩
    rw [Lang_mk]
    refine .inl ⟨rfl, c, rfl, ?_⟩
    have := h c List.mem_cons_self
    unfold isPoint at this
    by_cases h' : c ≤ 55295
    · exact ⟨⟨0, 55295⟩, by simp [ptsR], by show (0 : Int) ≤ c; omega, h'⟩
    · exact ⟨⟨57344, 1114111⟩, by simp [ptsR], by show (57344 : Int) ≤ c; omega, by show c ≤ (1114111 : Int); omega⟩

theorem told_ok : F26 3000 = some true := by kernel_rfl

theorem any_match {s : List UInt8} (hs : s.length ≤ 60) : F31 3000 anyR s = some (validD s) := by
  cases hv : validD s
  · exact match_bad (by omega) any_may hv
  · obtain ⟨b, e, hb⟩ := match_ok (k := 3000) (r := anyR) (s := s) (by omega) any_wf (by decide) (by decide) (by omega) any_may hv
    rw [e, hb.2 (any_lang (pts_point _ (Nat.le_refl _) hv))]

theorem mkQ_match {ps : List Int} {s : List UInt8} (hp : ∀ c ∈ ps, isPoint c) (hl : ps.length ≤ 60) (hs : s.length ≤ 60) (hv : validD s = true) : F31 3000 (mkQ ps) s = some (decide (pts s = ps)) := by
  obtain ⟨b, e, hb⟩ := match_ok (k := 3000) (r := mkQ ps) (s := s) (by omega) (mkQ_wf (by omega)) (by have := mkQ_fu ps; omega) (by have := mkQ_cnt ps; omega) (by omega) (mkQ_may hp hl (by omega)) hv
  rw [mkQ_lang] at hb
  rw [e]
  congr 1
  by_cases h : pts s = ps
  · rw [dt h]; exact hb.2 h
  · rw [df h]
    cases b
    · rfl
    · exact absurd (hb.1 rfl) h

theorem quotes_end {a b : List UInt8} (ha : a.length ≤ 60) (hb : b.length ≤ 60) (hva : validD a = true) : F9_j2 3000 a b false = some true := by
  unfold F9_j2
  simp only [cond, told_ok, Option.bind_some, any_eq, any_match ha, any_match hb, hva, F25_eq (k := 3000) (s := b) (by omega) (by omega) (by omega), beq_self_eq_true, any_may, F9_j3]

theorem quotes_short {a b : List UInt8} (ha : a.length ≤ 60) (hb : b.length ≤ 60) : F9_j0 3000 a b false = some true := by
  unfold F9_j0
  simp only [cond]
  rw [F25_eq (k := 3000) (s := a) (by omega) (by omega) (by omega)]
  cases hva : validD a
  · rw [quote_bad (by omega) (by omega) hva]
    have hm : F30 3000 (mkQ []) = some true := mkQ_may (fun c h => by cases h) (by simp) (by omega)
    have h0 : F31 3000 (mkQ []) [] = some true := by
      rw [mkQ_match (fun c h => by cases h) (by simp) (by simp) rfl]; rfl
    simp only [Option.bind_some, Bool.not_false, told_ok, h0, match_bad (k := 3000) (s := a) (by omega) hm hva, F9_j1]
  · rw [quote_ok (by omega) (by omega) hva]
    have hp := pts_point _ (Nat.le_refl _) hva
    have hl : (pts a).length ≤ 60 := Nat.le_trans (pts_len _ a (Nat.le_refl _)).1 ha
    simp only [Option.bind_some, Bool.not_true, mkQ_may hp hl (k := 3000) (by omega), mkQ_match hp hl ha hva, decide_true]
    have : ∃ b', F31 3000 (mkQ (pts a)) b = some b' ∧ b' = (a == b) := by
      cases hvb : validD b
      · refine ⟨false, match_bad (by omega) (mkQ_may hp hl (by omega)) hvb, ?_⟩
        symm
        rw [beq_eq_false_iff_ne]
        rintro rfl
        rw [hva] at hvb; cases hvb
      · refine ⟨_, mkQ_match hp hl hb hvb, ?_⟩
        by_cases e : a = b
        · subst e; rw [dt rfl]; simp
        · rw [df fun h => e (pts_inj _ (Nat.le_refl _) hva hvb h.symm)]
          symm; rw [beq_eq_false_iff_ne]; exact e
    obtain ⟨b', e1, e2⟩ := this
    rw [e1]
    simp only [Option.bind_some, e2, beq_self_eq_true, Bool.not_true]
    exact quotes_end ha hb hva
end Go.Proofs.YthilboheomikjaaGreatDoor
namespace Go.Proofs.YthilboheomikjaaGreatDoor.Pure
open Go.AL
theorem RexQuotes (a b : List UInt8) (_ : a.length ≤ 140737488351232) (_ : b.length ≤ 140737488351232) : ∃ k, F9 k a b = some true := by
  refine ⟨3000, ?_⟩
  unfold F9
  have long : F9_j0 3000 a b true = some true := by
    unfold F9_j0
    simp only [cond, told_ok, Option.bind_some]
  by_cases ha : a.length ≤ 60
  · rw [df (by omega)]
    by_cases hb : b.length ≤ 60
    · rw [df (by omega)]; exact quotes_short ha hb
    · rw [dt (by omega)]; exact long
  · rw [dt (by omega)]; exact long
end Go.Proofs.YthilboheomikjaaGreatDoor.Pure
end
