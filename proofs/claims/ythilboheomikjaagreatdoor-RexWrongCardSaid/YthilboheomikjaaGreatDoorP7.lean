/- rex.Parse. -/
import Derived.Test.YthilboheomikjaaGreatDoorP6
import Derived.Test.YthilboheomikjaaGreatDoorA25
namespace Go.Proofs.YthilboheomikjaaGreatDoor
open Go.AL
set_option linter.unusedVariables false
set_option maxRecDepth 100000

abbrev os27 (p : api_Re) (n : Int) : Objs := [(0, .box (pvL (e_api_Re p))), (1, .box (pvL [.int .i64 n]))]
abbrev hos27 (p : api_Re) (n : Int) : Objs := [(102, .box (pvL (e_api_Re p))), (103, .box (pvL [.int .i64 n]))]
def hptrs : List (Nat × AT) := [(2, .val false [.ptr 102 1 0 0]), (3, .val false [.ptr 103 1 0 0])]
def G01 (G : Nat → Option Nat) : Nat → Option Nat := fun k => ([102, 103][k]?).bind G

/-- behind the deferred closure: what the results' variables hold -/
theorem leave27 {w0 w : World} {I0 I : Nat → Prop} {G0 G : Nat → Option Nat} {os0 : Objs} {D : List Deferred} {a : Act} {p : api_Re} {n : Int} (h1 : Ext w0 w I0 I (Mine G0 os0) (Mine G (os27 p n))) (hh : ∀ k, I0 k → w.heap[k]? = w0.heap[k]?)
    (h3 : Sr GL0 w I G (os27 p n)) (h4 : Fr D w I G (Go.AL.shape (os27 p n)) 45 a ptrs) :
    ∃ v, (results Tryz.f27 a.tmps).run Tryz.prog w = .ok v w ∧ ∃ v' I' G', Ending.returned v = .returned v' ∧ Ext w0 w I0 I' (Mine G0 os0) (Mine G' (number [])) ∧ Sr GL0 w I' G' (number []) ∧
      ATr w I' G' (Go.AL.shape (number [])) (.tup [(true, pvL (e_api_Re p)), (false, [.pv (.int .i64 n)])]) v' ∧ Keeps (· < 0) w0 w I0 I' G0 G' (Go.AL.shape os0) (Go.AL.shape (number [])) := by
  obtain ⟨v, hv, hr⟩ := resA_run (fn := Tryz.f27) (st := ⟨ptrs, os27 p n⟩) (x := .tup [(true, pvL (e_api_Re p)), (false, [.pv (.int .i64 n)])]) h3 h4 (by kernel_rfl)
  obtain ⟨s1, k1⟩ := h3.sub (os' := number []) fun k o h => by rw [look_number] at h; simp at h
  refine ⟨v, hv, v, I, G, rfl, ⟨h1.size, h1.os, h1.tape, h1.output, h1.keep, h1.imm, h1.inew, fun k ⟨id, o, q1, q2⟩ => by rw [look_number] at q1; simp at q1⟩, s1, ?_, ⟨hh, h1.imm, fun id s m h => absurd h (Nat.not_lt_zero _)⟩⟩
  exact hr.mono (R := NoRef) (keeps_noref (fun _ _ => rfl) fun _ h => h) ⟨⟨trivial, trivial, trivial, trivial, trivial, trivial⟩, ⟨trivial, trivial⟩, trivial⟩

/-- the results' variables under the names 0 and 1 -/
theorem to01 {D : List Deferred} {w : World} {I : Nat → Prop} {G : Nat → Option Nat} {a : Act} {p : api_Re} {n : Int} (h3 : Sr GL0 w I G (hos27 p n)) (h4 : Fr D w I G (Go.AL.shape (hos27 p n)) 45 a hptrs) :
    Sr GL0 w I (G01 G) (os27 p n) ∧ Fr D w I (G01 G) (Go.AL.shape (os27 p n)) 45 a ptrs ∧ ∀ k, Mine (G01 G) (os27 p n) k ↔ Mine G (hos27 p n) k := by
  have hr := h3.ren (st := ⟨[], hos27 p n⟩) (ids := [102, 103]) (os := [.box (pvL (e_api_Re p)), .box (pvL [.int .i64 n])]) ⟨_, rfl, rfl⟩ (by decide) rfl
  refine ⟨hr, ⟨h4.size, h4.defers, fun t x hx => ?_⟩, fun k => ⟨fun ⟨id, o, q1, q2⟩ => ?_, fun ⟨id, o, q1, q2⟩ => ?_⟩⟩
  · simp only [ptrs, look_cons] at hx
    split at hx
    · rename_i e; subst e; cases hx
      obtain ⟨q1, q2⟩ := h4.slot 2 _ rfl
      obtain ⟨r1, r2⟩ := atr_one q2
      exact ⟨q1, _, rfl, r1, fun s m h => r2 s m h⟩
    · split at hx
      · rename_i e; subst e; cases hx
        obtain ⟨q1, q2⟩ := h4.slot 3 _ rfl
        obtain ⟨r1, r2⟩ := atr_one q2
        exact ⟨q1, _, rfl, r1, fun s m h => r2 s m h⟩
      · cases hx
  · simp only [os27, look_cons] at q1
    split at q1
    · rename_i e; subst e; exact ⟨102, _, rfl, q2⟩
    · split at q1
      · rename_i e; subst e; exact ⟨103, _, rfl, q2⟩
      · cases q1
  · simp only [hos27, look_cons] at q1
    split at q1
    · rename_i e; subst e; exact ⟨0, _, rfl, q2⟩
    · split at q1
      · rename_i e; subst e; exact ⟨1, _, rfl, q2⟩
      · cases q1

theorem look_ptrs {l : List (Nat × AT)} (hl : l = ptrs ∨ l = hptrs) {s : List UInt8} {t : Nat} {x : AT} (h : Go.AL.look l t = some x) : Go.AL.look ((0, one (.str s)) :: l) t = some x := by
  rw [look_cons]
  split
  · rename_i e; subst e; rcases hl with rfl | rfl <;> cases h
  · exact h

theorem to01s {D : List Deferred} {w : World} {I : Nat → Prop} {G : Nat → Option Nat} {a : Act} {p : api_Re} {n : Int} {s : List UInt8} (h3 : Sr GL0 w I G (hos27 p n)) (h4 : Fr D w I G (Go.AL.shape (hos27 p n)) 45 a ((0, one (.str s)) :: hptrs)) :
    Sr GL0 w I (G01 G) (os27 p n) ∧ Fr D w I (G01 G) (Go.AL.shape (os27 p n)) 45 a ((0, one (.str s)) :: ptrs) ∧ ∀ k, Mine (G01 G) (os27 p n) k ↔ Mine G (hos27 p n) k := by
  obtain ⟨q1, q2, q3⟩ := to01 h3 ⟨h4.size, h4.defers, fun t x hx => h4.slot t x (look_ptrs (.inr rfl) hx)⟩
  refine ⟨q1, ⟨q2.size, q2.defers, fun t x hx => ?_⟩, q3⟩
  rw [look_cons] at hx
  split at hx
  · rename_i e; subst e; cases hx
    obtain ⟨r1, r2⟩ := h4.slot 0 _ rfl
    exact ⟨r1, r2.mono (keeps_noref (fun _ _ => rfl) fun _ h => h) ⟨trivial, trivial⟩⟩
  · exact q2.slot t x hx

/-- the closure's two addresses -/
theorem ptr27 {D : List Deferred} {w : World} {I : Nat → Prop} {G : Nat → Option Nat} {a : Act} {p : api_Re} {n : Int} (h3 : Sr GL0 w I G (os27 p n)) (h4 : Fr D w I G (Go.AL.shape (os27 p n)) 45 a ptrs) :
    ∃ b c, G 0 = some b ∧ G 1 = some c ∧ a.tmps.getD 2 undef = .pointer (some ⟨b, 0, none⟩) ∧ a.tmps.getD 3 undef = .pointer (some ⟨c, 0, none⟩) := by
  obtain ⟨_, q2⟩ := h4.slot 2 _ rfl
  obtain ⟨_, q3⟩ := h4.slot 3 _ rfl
  have r2 := ((atr_one q2).2 _ _ rfl).2 rfl
  have r3 := ((atr_one q3).2 _ _ rfl).2 rfl
  cases hb : G 0 with
  | none => have := h3.none_ 0 _ rfl hb; simp [Obj.els] at this
  | some b =>
    cases hc : G 1 with
    | none => have := h3.none_ 1 _ rfl hc; simp [Obj.els] at this
    | some c => exact ⟨b, c, rfl, rfl, r2 b hb, r3 c hc⟩

def regA27 : Option Code → Code
  | some (.seq a _) => a
  | _ => .skip
def lenB27 : Option Code → Code
  | some (.seq _ (.seq b _)) => b
  | _ => .skip
def defer27 : Option Code → Code
  | some (.seq _ (.seq _ (.seq c _))) => c
  | _ => .skip

def FA (s : List UInt8) : Exit → S → Prop
  | .normal, st => st = ⟨(0, one (.str s)) :: hptrs, hos27 zRe 0⟩
  | _, _ => False
def FB (k : Nat) (s : List UInt8) (res : api_Re × Int) : Exit → S → Prop
  | .normal, st => st = ⟨(0, one (.str s)) :: hptrs, hos27 zRe 0⟩ ∧ F27_r k s = some res
  | .ret, st => st = ⟨hptrs, hos27 res.1 res.2⟩
  | _, _ => False

theorem regA_ok (s : List UInt8) : WA Tryz.prog GL0 45 (regA27 Tryz.f27.body) ⟨[(0, one (.str s))], []⟩ (FA s) := by
  show WA Tryz.prog GL0 45 (.region 0 _ _) _ _
  exact WA.reg [0, 2, 3] [102, 103] [(0, .obj 102), (1, .obj 103)] (env' := (0, one (.str s)) :: hptrs) (os' := hos27 zRe 0) (O := []) (by kernel_rfl) (sound _ _) trivial rfl

theorem lenB_ok (k : Nat) (s : List UInt8) (res : api_Re × Int) (hF : F27 k s = some res) :
    WA Tryz.prog GL0 45 (lenB27 Tryz.f27.body) ⟨(0, one (.str s)) :: hptrs, hos27 zRe 0⟩ (FB k s res) := by
  show WA Tryz.prog GL0 45 (.seq _ (.cond (.tmp 7) _ _)) _ _
  refine WA.seq ?_
  refine WA.reg [0, 2, 3, 7] [102, 103] [] (env' := (0, one (.str s)) :: hptrs ++ [(7, one (.bool (decide ((s.length : Int) > 400))))]) (os' := hos27 zRe 0) (O := []) (by kernel_rfl) (sound _ _) trivial ?_
  refine WA.cond (b := decide ((s.length : Int) > 400)) rfl (fun hb => ?_) (fun hb => ?_)
  · have hF := cond_t hF hb
    obtain rfl := Option.some.inj hF
    refine WA.seq ?_
    refine WA.reg [2, 3] [102, 103] [] (env' := hptrs) (os' := hos27 zRe 8) (O := []) (by kernel_rfl) (sound _ _) trivial ?_
    refine WA.ret ?_
    rfl
  · have hF := cond_f hF hb
    refine WA.keep [0, 2, 3] [102, 103] (env' := (0, one (.str s)) :: hptrs) (os' := hos27 zRe 0) (by kernel_rfl) (by kernel_rfl) ?_
    refine WA.skip ?_
    exact ⟨rfl, hF⟩

/-- the deferred closure, with what it captures -/
def defd (x y : Value) : Deferred := ⟨.fn (.func 47) #[x, y], #[]⟩

theorem defer_ok {a : Act} {w : World} {Q : Exit → Act → World → Prop} (ha : a.defers = []) (h : Q .normal { tmps := (a.tmps.setIfInBounds 9 (.func (.func 47) #[] #[a.tmps.getD 2 undef, a.tmps.getD 3 undef])), defers := [defd (a.tmps.getD 2 undef) (a.tmps.getD 3 undef)] } w) (hs : a.tmps.size = 45) :
    (defer27 Tryz.f27.body).wp Tryz.prog Q a w := by
  show (Code.region 3 _ _).wp _ _ _ _
  refine wp_region_list ?_
  obtain ⟨tm, df⟩ := a
  simp only at ha hs h; subst ha
  simp only [wpList, Region.wanted]
  refine .inl ?_
  simp only [Oper.wp, execOp]
  have e1 : Sem.run Tryz.prog (do
        let x ← Instr.makeFunc (Fn.func 47) (Array.map (Act.eval { tmps := tm, defers := [] }) #[]) (Array.map (Act.eval { tmps := tm, defers := [] }) #[Operand.tmp 2, Operand.tmp 3])
        pure (Next.value x)) w = .ok (.value (.func (.func 47) #[] #[tm.getD 2 undef, tm.getD 3 undef])) w := by simp [Instr.makeFunc, Act.eval]
  rw [e1, Oper.upon_value, if_pos trivial]
  refine .inl ?_
  have h9 : (tm.setIfInBounds 9 (Value.func (Fn.func 47) #[] #[tm.getD 2 undef, tm.getD 3 undef])).getD 9 undef = Value.func (Fn.func 47) #[] #[tm.getD 2 undef, tm.getD 3 undef] := by
    rw [Array.getD_eq_getD_getElem?, Array.getElem?_setIfInBounds]; simp [hs]
  have e2 : Sem.run Tryz.prog (do
        let x ← resolve (Act.eval { tmps := tm.setIfInBounds 9 (Value.func (Fn.func 47) #[] #[tm.getD 2 undef, tm.getD 3 undef]), defers := [] }) { callee := Callee.value (Operand.tmp 9), args := #[], argTypes := #[] } 0
        pure (Next.defer x)) w = .ok (.defer (defd (tm.getD 2 undef) (tm.getD 3 undef))) w := by
    simp only [resolve, Act.eval, h9, Deferred.ofValue]
    simp [defd]
  simp only [Act.put]
  rw [e2, Oper.upon_defer]
  exact h

theorem F27_ok (k : Nat) (s : List UInt8) (res : api_Re × Int) (hF : F27 k s = some res) :
    Sim Tryz.prog GL0 27 [one (.str s)] [] (.tup [(true, pvL (e_api_Re res.1)), (false, [.pv (.int .i64 res.2)])]) [] := by
  intro w I G vs hs ha
  obtain ⟨v, _, rfl, hv, rfl⟩ := ha
  refine calls_of_wp_defers Tryz.func27 rfl ?_
  refine wp_seq (wp_mono (regA_ok s [] w I G (number []) w I G _ (.refl _ _ _) (.refl _ _ _ _ _) hs ?_) ?_)
  · refine ⟨by simp [Tryz.ntmps27], rfl, fun t x hx => ?_⟩
    simp only [look_cons] at hx
    split at hx
    · rename_i e; subst e; cases hx
      refine ⟨by omega, ?_⟩
      rw [Array.getD_eq_getD_getElem?, Array.getElem?_append_left (by simp)]
      exact hv
    · cases hx
  rintro e a1 w1 ⟨I1, G1, s1, e1, k1, r1, f1, q1⟩
  cases e with
  | normal =>
    cases q1
    refine wp_seq (wp_mono (lenB_ok k s res hF [] w I G (number []) w1 I1 G1 a1 e1 k1 r1 f1) ?_)
    rintro e a2 w2 ⟨I2, G2, s2, e2, k2, r2, f2, q2⟩
    cases e with
    | normal =>
      obtain ⟨rfl, hF2⟩ := q2
      obtain ⟨r3, f3, m3⟩ := to01s r2 f2
      obtain ⟨b, c, gb, gc, vb, vc⟩ := ptr27 r3 ⟨f3.size, f3.defers, fun t x hx => f3.slot t x (look_ptrs (.inl rfl) hx)⟩
      refine wp_seq (defer_ok f2.defers ?_ f2.size)
      rw [vb, vc]
      refine wp_mono (rest_ok k s res hF2 _ rfl [defd (.pointer (some ⟨b, 0, none⟩)) (.pointer (some ⟨c, 0, none⟩))] w2 I2 (G01 G2) (os27 zRe 0) w2 I2 (G01 G2) _ (.refl _ _ _) (.refl _ _ _ _ _) r3 ⟨by simp [f3.size], rfl, fun t x hx => ?_⟩) ?_
      · obtain ⟨x1, x2⟩ := f3.slot t x hx
        have ht : t ≠ 9 := fun e => by subst e; cases hx
        refine ⟨x1, ?_⟩
        rw [Array.getD_eq_getD_getElem?] at x2 ⊢
        rw [Array.getElem?_setIfInBounds, if_neg (fun e => ht e.symm)]; exact x2
      have gl : ∀ {w4 I4 G4} {p : api_Re} {n : Int}, Ext w2 w4 I2 I4 (Mine (G01 G2) (os27 zRe 0)) (Mine G4 (os27 p n)) →
          Ext w w4 I I4 (Mine G (number [])) (Mine G4 (os27 p n)) := fun e4 =>
        ⟨Nat.le_trans e2.size e4.size, e4.os.trans e2.os, e4.tape.trans e2.tape, e4.output.trans e2.output, fun k h h' => by
            rw [e4.keep k (Nat.lt_of_lt_of_le h e2.size) (fun h2 => ((e2.mnew k ((m3 k).1 h2)).elim h' (fun h3 => by omega))), e2.keep k h h'],
          fun k h => e4.imm k (e2.imm k h), fun k h => by
            rcases e4.inew k h with h | h | h
            · exact e2.inew k h
            · exact (e2.mnew k ((m3 k).1 h)).elim (fun h => .inr (.inl h)) (fun h => .inr (.inr h))
            · exact .inr (.inr (Nat.le_trans e2.size h)),
          fun k h => (e4.mnew k h).elim (fun h => (e2.mnew k ((m3 k).1 h)).elim .inl .inr) (fun h => .inr (Nat.le_trans e2.size h))⟩
      rintro e a4 w4 ⟨I4, G4, ⟨env4, os4⟩, e4, k4, r4, f4, q4⟩
      -- what is left of the state
      have sub : ∀ {p : api_Re} {n : Int}, pickE env4 [2, 3] = ptrs → pickE os4 [0, 1] = os27 p n → Sr GL0 w4 I4 G4 (os27 p n) ∧ Fr [defd (.pointer (some ⟨b, 0, none⟩)) (.pointer (some ⟨c, 0, none⟩))] w4 I4 G4 (Go.AL.shape (os27 p n)) 45 a4 ptrs ∧
          Ext w2 w4 I2 I4 (Mine (G01 G2) (os27 zRe 0)) (Mine G4 (os27 p n)) ∧ G4 0 = some b ∧ G4 1 = some c := fun {p n} he ho => by
        have hl : ∀ k o, Go.AL.look (os27 p n) k = some o → Go.AL.look os4 k = some o := fun k o h => by rw [← ho] at h; exact look_pickE h
        obtain ⟨r5, k5⟩ := r4.sub (os' := os27 p n) hl
        refine ⟨r5, ⟨f4.size, f4.defers, fun t x hx => ?_⟩, ⟨e4.size, e4.os, e4.tape, e4.output, e4.keep, e4.imm, e4.inew, fun k ⟨id, o, q1, q2⟩ => e4.mnew k ⟨id, o, hl id o q1, q2⟩⟩, ?_, ?_⟩
        · rw [← he] at hx
          obtain ⟨x1, x2⟩ := f4.slot t x (look_pickE hx)
          exact ⟨x1, x2.mono k5 (AT.refs_any x)⟩
        · obtain ⟨m0, j1, j2, j3⟩ := (k4.trans (k5.weaken fun _ _ => trivial)).objs 0 _ _ (by omega) rfl
          cases j1
          rw [(j3 rfl).1]; exact gb
        · obtain ⟨m0, j1, j2, j3⟩ := (k4.trans (k5.weaken fun _ _ => trivial)).objs 1 _ _ (by omega) rfl
          cases j1
          rw [(j3 rfl).1]; exact gc
      have inv : ∀ w, (Go.invoke (defd (.pointer (some ⟨b, 0, none⟩)) (.pointer (some ⟨c, 0, none⟩))).target #[]).run Tryz.prog w = .ok (.enter 47 #[.pointer (some ⟨b, 0, none⟩), .pointer (some ⟨c, 0, none⟩)]) w := fun w => by kernel_rfl
      have hh : ∀ k, I k → w4.heap[k]? = w.heap[k]? := fun k hk => by rw [k4.heap k (k2.imm k hk), k2.heap k hk]
      cases e with
      | ret =>
        obtain ⟨he, ho⟩ := q4
        obtain ⟨r5, f5, e5, g0, g1⟩ := sub he ho
        show Leaves _ _ _ _ a4.defers _ _
        rw [f5.defers]
        refine ⟨by simp, _, _, 47, _, rfl, inv w4, fun c0 cs hm => ?_⟩
        obtain ⟨e', u', w', fr, ⟨rfl, rfl, rfl⟩, hc⟩ := catch_idle ⟨b, 0, none⟩ ⟨c, 0, none⟩ w4 c0 cs hm
        refine ⟨_, _, _, _, ?_, hc⟩
        obtain ⟨p1, p2, p3⟩ := r5.imm (.cells #[] 70)
        exact leave27 (gl (e5.trans p3)) (fun k hk => by rw [p2.heap k (e4.imm k (e2.imm k hk)), hh k hk]) p1 ⟨f5.size, f5.defers, fun t x hx => ⟨(f5.slot t x hx).1, (f5.slot t x hx).2.mono p2 (AT.refs_any x)⟩⟩
      | panic ch =>
        obtain ⟨rfl, rfl, he, p, n, ho⟩ := q4
        obtain ⟨r5, f5, e5, g0, g1⟩ := sub he ho
        show Leaves _ _ _ _ a4.defers _ _
        rw [f5.defers]
        refine ⟨by simp, _, _, 47, _, rfl, inv w4, fun c0 cs hm => ?_⟩
        obtain ⟨p1, p2, p3⟩ := r5.imm (.cells #[] 70)
        have f6 : Fr _ _ _ G4 (Go.AL.shape (os27 p n)) 45 a4 ptrs := ⟨f5.size, f5.defers, fun t x hx => ⟨(f5.slot t x hx).1, (f5.slot t x hx).2.mono p2 (AT.refs_any x)⟩⟩
        obtain ⟨b', c', gb', gc', vb', vc'⟩ := ptr27 p1 f6
        rw [g0] at gb'; cases gb'
        rw [g1] at gc'; cases gc'
        have hx0 := (f6.slot 2 _ rfl).2
        have hx1 := (f6.slot 3 _ rfl).2
        rw [vb'] at hx0; rw [vc'] at hx1
        obtain ⟨_, w6, G6, st6, x6, s6, mv6⟩ := ok_store (P := Tryz.prog) (st := ⟨[], os27 p n⟩) (t := 35) (x := .val false [.ptr 0 1 0 0]) (y := .val true (pvL (e_api_Re zRe))) (h := none) (z := .tup []) (os' := os27 zRe n) (O := []) (by kernel_rfl) trivial p1 hx0
          (v := .agg #[.int .i64 0, .slice none 0 0, .slice none 0 0, .int .i64 0, .int .i64 0]) ⟨_, rfl, _, _, rfl, PVr.int _ _, _, _, rfl, PVr.sl0 _ _, _, _, rfl, PVr.sl0 _ _, _, _, rfl, PVr.int _ _, _, _, rfl, PVr.int _ _, rfl⟩
        have hx1' := hx1.mono mv6.keeps ⟨show (1 : Nat) < 100 by omega, trivial⟩
        obtain ⟨_, w7, G7, st7, x7, s7, mv7⟩ := ok_store (P := Tryz.prog) (st := ⟨[], os27 zRe n⟩) (t := 3) (x := .val false [.ptr 1 1 0 0]) (y := one (.int .i64 3)) (h := none) (z := .tup []) (os' := os27 zRe 3) (O := []) (by kernel_rfl) trivial s6 hx1'
          (v := .int .i64 3) ⟨_, rfl, PVr.int _ _⟩
        obtain ⟨e', u', w', fr, ⟨rfl, rfl, rfl⟩, hc⟩ := catch_bad ⟨b, 0, none⟩ ⟨c, 0, none⟩ w4 w6 w7 st6 st7 c0 cs hm
        refine ⟨_, _, _, _, ?_, hc⟩
        have k7 := mv6.keeps.trans mv7.keeps
        refine leave27 (p := zRe) (n := 3) (gl (e5.trans (p3.trans (x6.trans x7)))) (fun k hk => ?_) s7 ⟨f6.size, f6.defers, fun t x hx => ⟨(f6.slot t x hx).1, ?_⟩⟩
        · have h4 := e4.imm k (e2.imm k hk)
          rw [k7.heap k (p2.imm k h4), p2.heap k h4, hh k hk]
        · refine (f6.slot t x hx).2.mono k7 ?_
          simp only [ptrs, look_cons] at hx
          split at hx
          · cases hx; exact ⟨show (0 : Nat) < 100 by omega, trivial⟩
          · split at hx
            · cases hx; exact ⟨show (1 : Nat) < 100 by omega, trivial⟩
            · cases hx
      | _ => exact q4.elim
    | ret =>
      cases q2
      obtain ⟨r3, f3, m3⟩ := to01 r2 f2
      show Leaves _ _ _ _ a2.defers _ _
      rw [f2.defers]
      refine leave27 ⟨e2.size, e2.os, e2.tape, e2.output, e2.keep, e2.imm, e2.inew, fun k h => e2.mnew k ((m3 k).1 h)⟩ k2.heap r3 f3
    | _ => exact q2.elim
  | _ => exact q1.elim
end Go.Proofs.YthilboheomikjaaGreatDoor
