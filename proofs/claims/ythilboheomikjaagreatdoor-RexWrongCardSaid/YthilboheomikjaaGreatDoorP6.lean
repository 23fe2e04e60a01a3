/- rex.Parse: behind the defer. -/
import Derived.Test.YthilboheomikjaaGreatDoorP5
namespace Go.Proofs.YthilboheomikjaaGreatDoor
open Go.AL Go.RowKit
set_option linter.unusedVariables false
set_option maxRecDepth 100000

def zRe : api_Re := ⟨0, [], [], 0, 0⟩

def F27_e (k : Nat) (s : List UInt8) (p : api_Re) (r : rex_reader) : Option (api_Re × Int) :=
  cond r.f_over (some (zRe, 8)) ((F32 k p).bind fun n => cond (decide (n > 200)) (some (zRe, 8)) ((F50 k p).bind fun d => cond (decide (d > 14)) (some (zRe, 8)) (some (p, 0))))
def F27_t (k : Nat) (s : List UInt8) (p : api_Re) (r : rex_reader) : Option (api_Re × Int) :=
  cond (decide (r.f_at < (s.length : Int))) (some (zRe, 3)) ((F49 k s).bind fun b => cond b (F27_e k s p r) (some (zRe, 3)))
def F27_r (k : Nat) (s : List UInt8) : Option (api_Re × Int) := (F48 k ⟨s, 0, false⟩).bind fun y => match y with
  | none => some (zRe, 3)
  | some (p, r) => F27_t k s p r
def F27 (k : Nat) (s : List UInt8) : Option (api_Re × Int) := cond (decide ((s.length : Int) > 400)) (some (zRe, 8)) (F27_r k s)

def ptrs : List (Nat × AT) := [(2, .val false [.ptr 0 1 0 0]), (3, .val false [.ptr 1 1 0 0])]

/-- how the code behind the defer ends -/
def FR (res : api_Re × Int) : Exit → S → Prop
  | .ret, s => pickE s.env [2, 3] = ptrs ∧ pickE s.os [0, 1] = [(0, .box (pvL (e_api_Re res.1))), (1, .box (pvL [.int .i64 res.2]))]
  | .panic ch, s => ch = thrown badV ∧ res = (zRe, 3) ∧ pickE s.env [2, 3] = ptrs ∧ ∃ (p : api_Re) (n : Int), pickE s.os [0, 1] = [(0, .box (pvL (e_api_Re p))), (1, .box (pvL [.int .i64 n]))]
  | _, _ => False

/-- the code behind the defer -/
def tail27 : Option Code → Option Code
  | some (.seq _ (.seq _ (.seq _ c))) => some c
  | _ => none

/-- the region that throws, in it -/
def bad27 : Option Code → Code
  | some (.seq _ (.seq _ (.seq (.seq _ (.cond _ c _)) _))) => c
  | _ => .skip

def end27 : Option Code → Code
  | some (.seq _ (.seq _ (.seq _ c))) => c
  | _ => .skip

def lim27 : Option Code → Code
  | some (.seq _ (.seq _ (.seq _ (.seq (.seq _ (.cond _ c _)) _)))) => c
  | _ => .skip
def cond27 : Option Code → Code
  | some (.seq _ (.seq _ (.seq _ (.seq (.seq _ c) _)))) => c
  | _ => .skip
def fin27 : Option Code → Code
  | some (.seq _ (.seq _ (.seq _ (.seq _ c)))) => c
  | _ => .skip

theorem rest_ok (k : Nat) (s : List UInt8) (res : api_Re × Int) (hF : F27_r k s = some res) (c : Code) (hc : tail27 Tryz.f27.body = some c) :
    WA Tryz.prog GL0 45 c ⟨(0, one (.str s)) :: ptrs, [(0, .box (pvL (e_api_Re zRe))), (1, .box (pvL [.int .i64 0]))]⟩ (FR res) := by
  cases hc
  refine WA.seq ?_
  refine WA.reg [0, 2, 3, 4] [0, 1, 112] [(2, .obj 112)] (env' := (0, one (.str s)) :: ptrs ++ [(4, .val false [.ptr 112 1 0 0])]) (os' := [(0, .box (pvL (e_api_Re zRe))), (1, .box (pvL [.int .i64 0])), (112, .box (pvL (e_rex_reader ⟨s, 0, false⟩)))]) (O := []) (by kernel_rfl) (sound _ _) trivial ?_
  refine WA.seq ?_
  obtain ⟨y, hy, hF⟩ := bind_some hF
  cases y with
  | none =>
    obtain rfl := Option.some.inj hF
    refine WA.regP 1 [112] [2, 3] [] badV (f := 48) (args := [.val false [.ptr 0 1 0 0]]) (os := [.box (pvL (e_rex_reader ⟨s, 0, false⟩))]) (env1 := ptrs) (os1 := [(0, .box (pvL (e_api_Re zRe))), (1, .box (pvL [.int .i64 0])), (112, .box (pvL (e_rex_reader ⟨s, 0, false⟩)))]) (O := []) (by kernel_rfl) (sound _ _) trivial (by decide) (F48_ok k _ _ hy) (fun psl hpsl => ?_)
    obtain ⟨ps, rfl⟩ := one_of_len hpsl
    exact ⟨rfl, rfl, by kernel_rfl, zRe, 0, by kernel_rfl⟩
  | some y =>
    obtain ⟨p, r⟩ := y
    have hF : F27_t k s p r = some res := hF
    refine WA.reg [0, 2, 3, 4] [0, 1, 112] [(1, .call [112] (.val true (pvL (e_api_Re p))) [.box (pvL (e_rex_reader r))] [])] (env' := (0, one (.str s)) :: ptrs ++ [(4, .val false [.ptr 112 1 0 0])]) (os' := [(0, .box (pvL (e_api_Re p))), (1, .box (pvL [.int .i64 0])), (112, .box (pvL (e_rex_reader r)))]) (O := [Sim Tryz.prog GL0 48 [.val false [.ptr 0 1 0 0]] [.box (pvL (e_rex_reader ⟨s, 0, false⟩))] (.val true (pvL (e_api_Re p))) [.box (pvL (e_rex_reader r))], ([112] : List Nat).Nodup]) (by kernel_rfl) (sound _ _) ⟨F48_ok k _ _ hy, by decide, trivial⟩ ?_
    refine WA.seq ?_
    refine WA.seq ?_
    have hbad : some (zRe, 3) = some res → WA Tryz.prog GL0 45 (bad27 (tail27 Tryz.f27.body)) ⟨ptrs ++ [(4, .val false [.ptr 112 1 0 0])], [(0, .box (pvL (e_api_Re p))), (1, .box (pvL [.int .i64 0])), (112, .box (pvL (e_rex_reader r)))]⟩ (FR res) := fun hF => by
      obtain rfl := Option.some.inj hF
      show WA Tryz.prog GL0 45 (.region 7 _ _) _ _
      refine WA.bad [2, 3] (t := 70) (env1 := ptrs) (os1 := [(0, .box (pvL (e_api_Re p))), (1, .box (pvL [.int .i64 0])), (112, .box (pvL (e_rex_reader r)))]) (O := []) (by kernel_rfl) (sound _ _) trivial ?_
      exact ⟨rfl, rfl, by kernel_rfl, p, 0, by kernel_rfl⟩
    have hrest : F27_e k s p r = some res → WA Tryz.prog GL0 45 (end27 (tail27 Tryz.f27.body)) ⟨ptrs ++ [(4, .val false [.ptr 112 1 0 0])], [(0, .box (pvL (e_api_Re p))), (1, .box (pvL [.int .i64 0])), (112, .box (pvL (e_rex_reader r)))]⟩ (FR res) := fun hF => by
      have hlim : some (zRe, 8) = some res → WA Tryz.prog GL0 45 (lim27 (tail27 Tryz.f27.body)) ⟨ptrs, [(0, .box (pvL (e_api_Re p))), (1, .box (pvL [.int .i64 0]))]⟩ (FR res) := fun hF => by
        obtain rfl := Option.some.inj hF
        show WA Tryz.prog GL0 45 (.seq (.region 9 _ _) .ret) _ _
        refine WA.seq ?_
        refine WA.reg [2, 3] [0, 1] [] (env' := ptrs) (os' := [(0, .box (pvL (e_api_Re zRe))), (1, .box (pvL [.int .i64 8]))]) (O := []) (by kernel_rfl) (sound _ _) trivial ?_
        refine WA.ret ?_
        exact ⟨by kernel_rfl, by kernel_rfl⟩
      have hend : some (p, 0) = some res → WA Tryz.prog GL0 45 (fin27 (tail27 Tryz.f27.body)) ⟨ptrs, [(0, .box (pvL (e_api_Re p))), (1, .box (pvL [.int .i64 0]))]⟩ (FR res) := fun hF => by
        obtain rfl := Option.some.inj hF
        show WA Tryz.prog GL0 45 (.seq (.region 10 _ _) .ret) _ _
        refine WA.seq ?_
        refine WA.reg [2, 3] [0, 1] [] (env' := ptrs) (os' := [(0, .box (pvL (e_api_Re p))), (1, .box (pvL [.int .i64 0]))]) (O := []) (by kernel_rfl) (sound _ _) trivial ?_
        refine WA.ret ?_
        exact ⟨by kernel_rfl, by kernel_rfl⟩
      have hB : ∀ b : Bool, (b = true → some (zRe, 8) = some res) → (b = false → some (p, 0) = some res) → WA Tryz.prog GL0 45 (cond27 (tail27 Tryz.f27.body)) ⟨ptrs ++ [(42, one (.bool b))], [(0, .box (pvL (e_api_Re p))), (1, .box (pvL [.int .i64 0]))]⟩ (Then Tryz.prog GL0 45 (fin27 (tail27 Tryz.f27.body)) (FR res)) := fun b h1 h2 => by
        show WA Tryz.prog GL0 45 (.cond (.tmp 42) _ _) _ _
        refine WA.cond (b := b) rfl (fun hb => ?_) (fun hb => ?_)
        · refine WA.keep [2, 3] [0, 1] (env' := ptrs) (os' := [(0, .box (pvL (e_api_Re p))), (1, .box (pvL [.int .i64 0]))]) (by kernel_rfl) (by kernel_rfl) ?_
          exact (hlim (h1 hb)).mono fun e s h => by cases e <;> first | exact h | exact h.elim
        · refine WA.skip ?_
          refine WA.keep [2, 3] [0, 1] (env' := ptrs) (os' := [(0, .box (pvL (e_api_Re p))), (1, .box (pvL [.int .i64 0]))]) (by kernel_rfl) (by kernel_rfl) ?_
          exact hend (h2 hb)
      show WA Tryz.prog GL0 45 (.seq (.seq (.region 8 _ _) _) _) _ _
      refine WA.seq (WA.seq ?_)
      unfold F27_e at hF
      rcases Bool.eq_false_or_eq_true r.f_over with hb | hb
      · have hF := cond_t hF hb
        refine WA.reg [2, 3, 42] [0, 1] [(4, .bool true)] (env' := ptrs ++ [(42, one (.bool true))]) (os' := [(0, .box (pvL (e_api_Re p))), (1, .box (pvL [.int .i64 0]))]) (O := [r.f_over = true]) (by kernel_rfl) (sound _ _) ⟨hb, trivial⟩ ?_
        exact hB true (fun _ => hF) (fun h => by cases h)
      · have hF := cond_f hF hb
        obtain ⟨n, hn, hF⟩ := bind_some hF
        rcases Bool.eq_false_or_eq_true (decide (n > 200)) with hb2 | hb2
        · have hF := cond_t hF hb2
          refine WA.reg [2, 3, 42] [0, 1] [(4, .bool false), (6, .callR [] (one (.int .i64 n))), (9, .bool true)] (env' := ptrs ++ [(42, one (.bool true))]) (os' := [(0, .box (pvL (e_api_Re p))), (1, .box (pvL [.int .i64 0]))]) (O := [r.f_over = false, Sim Tryz.prog GL0 32 [.val true (pvL (e_api_Re p))] [] (one (.int .i64 n)) [], ([] : List Nat).Nodup, decide (n > 200) = true]) (by kernel_rfl) (sound _ _) ⟨hb, F32_ok k _ _ hn, by decide, hb2, trivial⟩ ?_
          exact hB true (fun _ => hF) (fun h => by cases h)
        · have hF := cond_f hF hb2
          obtain ⟨d, hd, hF⟩ := bind_some hF
          refine WA.reg [2, 3, 42] [0, 1] [(4, .bool false), (6, .callR [] (one (.int .i64 n))), (9, .bool false), (11, .callR [] (one (.int .i64 d)))] (env' := ptrs ++ [(42, one (.bool (decide (d > 14))))]) (os' := [(0, .box (pvL (e_api_Re p))), (1, .box (pvL [.int .i64 0]))]) (O := [r.f_over = false, Sim Tryz.prog GL0 32 [.val true (pvL (e_api_Re p))] [] (one (.int .i64 n)) [], ([] : List Nat).Nodup, decide (n > 200) = false, Sim Tryz.prog GL0 50 [.val true (pvL (e_api_Re p))] [] (one (.int .i64 d)) [], ([] : List Nat).Nodup]) (by kernel_rfl) (sound _ _) ⟨hb, F32_ok k _ _ hn, by decide, hb2, F50_ok k _ _ hd, by decide, trivial⟩ ?_
          exact hB (decide (d > 14)) (fun h => cond_t hF h) (fun h => cond_f hF h)
    unfold F27_t at hF
    rcases Bool.eq_false_or_eq_true (decide (r.f_at < (s.length : Int))) with hb | hb
    · have hF := cond_t hF hb
      refine WA.reg [2, 3, 4, 26] [0, 1, 112] [(7, .bool true)] (env' := ptrs ++ [(4, .val false [.ptr 112 1 0 0]), (26, one (.bool true))]) (os' := [(0, .box (pvL (e_api_Re p))), (1, .box (pvL [.int .i64 0])), (112, .box (pvL (e_rex_reader r)))]) (O := [decide (r.f_at < (s.length : Int)) = true]) (by kernel_rfl) (sound _ _) ⟨hb, trivial⟩ ?_
      refine WA.cond (b := true) rfl (fun _ => ?_) (fun h => by cases h)
      refine WA.keep [2, 3, 4] [0, 1, 112] (env' := ptrs ++ [(4, .val false [.ptr 112 1 0 0])]) (os' := [(0, .box (pvL (e_api_Re p))), (1, .box (pvL [.int .i64 0])), (112, .box (pvL (e_rex_reader r)))]) (by kernel_rfl) (by kernel_rfl) ?_
      exact (hbad hF).mono fun e s h => by cases e <;> first | exact h | exact h.elim
    · have hF := cond_f hF hb
      obtain ⟨y, hy, hF⟩ := bind_some hF
      refine WA.reg [2, 3, 4, 26] [0, 1, 112] [(7, .bool false), (9, .callR [] (one (.bool y)))] (env' := ptrs ++ [(4, .val false [.ptr 112 1 0 0]), (26, one (.bool (!y)))]) (os' := [(0, .box (pvL (e_api_Re p))), (1, .box (pvL [.int .i64 0])), (112, .box (pvL (e_rex_reader r)))]) (O := [decide (r.f_at < (s.length : Int)) = false, Sim Tryz.prog GL0 49 [one (.str s)] [] (one (.bool y)) [], ([] : List Nat).Nodup]) (by kernel_rfl) (sound _ _) ⟨hb, F49_ok k _ _ hy, by decide, trivial⟩ ?_
      refine WA.cond (b := !y) rfl (fun hy' => ?_) (fun hy' => ?_)
      · have hF := cond_f hF (by simpa using hy')
        refine WA.keep [2, 3, 4] [0, 1, 112] (env' := ptrs ++ [(4, .val false [.ptr 112 1 0 0])]) (os' := [(0, .box (pvL (e_api_Re p))), (1, .box (pvL [.int .i64 0])), (112, .box (pvL (e_rex_reader r)))]) (by kernel_rfl) (by kernel_rfl) ?_
        exact (hbad hF).mono fun e s h => by cases e <;> first | exact h | exact h.elim
      · have hF := cond_t hF (by simpa using hy')
        refine WA.skip ?_
        refine WA.keep [2, 3, 4] [0, 1, 112] (env' := ptrs ++ [(4, .val false [.ptr 112 1 0 0])]) (os' := [(0, .box (pvL (e_api_Re p))), (1, .box (pvL [.int .i64 0])), (112, .box (pvL (e_rex_reader r)))]) (by kernel_rfl) (by kernel_rfl) ?_
        exact hrest hF
end Go.Proofs.YthilboheomikjaaGreatDoor
