/- A function keeps its promise if its code does. -/
import Derived.Test.YthilboheomikjaaGreatDoorA13
namespace Go.AL
variable {D : List Deferred}
set_option linter.unusedVariables false
set_option linter.unusedSimpArgs false
variable {P : Program} {GL : List (Nat × List PV)} {C : Spec} {st : S} {w : World} {I : Nat → Prop} {G : Nat → Option Nat} {N : Nat} {a : Act}

def resV (P : Program) (st : S) : ResultVar → Option (Bool × List AC)
  | .tmp t => match look st.env t with
    | some (.val g cs) => some (g, cs)
    | _ => none
  | .cell t ty => match look st.env t with
    | some (.val false [.ptr id n i j]) => match look st.os id, Nat.beq n 1, Nat.beq i 0 with
      | some (.box cs), true, true => match partA P ty cs j with
        | some (.val g cs) => some (g, cs)
        | _ => none
      | _, _, _ => none
    | _ => none

def resL (P : Program) (st : S) : List ResultVar → Option (List (Bool × List AC))
  | [] => some []
  | r :: l => match resV P st r, resL P st l with
    | some x, some y => some (x :: y)
    | _, _ => none

def resA (P : Program) (st : S) (l : List ResultVar) : Option AT :=
  match resL P st l with
  | some [(g, cs)] => some (.val g cs)
  | some l => some (.tup l)
  | none => none

def rvSem (tmps : Array Value) : ResultVar → Sem Value
  | .tmp t => pure (tmps.getD t undef)
  | .cell a t => do loadVar t (← asAddr (tmps.getD a undef))

theorem results_eq (fn : Func) (tmps : Array Value) : results fn tmps = (do
    let vs ← fn.results.mapM (rvSem tmps)
    pure (if h : vs.size = 1 then vs[0] else .tuple vs)) := by
  unfold results
  congr 1

theorem resV_run (hs : Sr GL w I G st.os) (hf : Fr D w I G (shape st.os) N a st.env) {r : ResultVar} {g : Bool} {cs : List AC} (h : resV P st r = some (g, cs)) :
    ∃ v, (rvSem a.tmps r).run P w = .ok v w ∧ Vr w I G (shape st.os) g cs v := by
  cases r with
  | tmp t =>
    simp only [resV] at h
    split at h
    · rename_i g' cs' ht
      cases h
      exact ⟨_, rfl, (hf.slot t _ ht).2⟩
    · cases h
  | cell t ty =>
    simp only [resV] at h
    split at h
    · rename_i id n i j ht
      split at h
      · rename_i cs0 hl h1 h2
        have h1 := Nat.eq_of_beq_eq_true h1; have h2 := Nat.eq_of_beq_eq_true h2
        subst h1; subst h2
        split at h
        · rename_i g' cs' hp
          cases h
          obtain ⟨b, hb⟩ := some_of_els hs hl (i := 0) (es := cs0) rfl
          have hv := ((atr_one (hf.slot t _ ht).2).2 _ _ (shape_look hl)).2 rfl b hb
          have hc := obj_cells hs hl hb (i := 0) (es := cs0) rfl
          simp only [Nat.zero_mul, Nat.zero_add] at hv hc
          obtain ⟨u, hu, hr⟩ := partA_load (o := 0) hp (by simpa using hc)
          refine ⟨u, ?_, hr⟩
          simp only [rvSem, hv, asAddr, Sem.run_bind, Sem.run_pure, Result.andThen_ok]
          simpa using hu
        · cases h
      · cases h
    · cases h

theorem resL_run (hs : Sr GL w I G st.os) (hf : Fr D w I G (shape st.os) N a st.env) : ∀ {rs : List ResultVar} {l : List (Bool × List AC)}, resL P st rs = some l →
    ∃ vs, (rs.mapM (rvSem a.tmps)).run P w = .ok vs w ∧ Ts w I G (shape st.os) l vs ∧ vs.length = l.length
  | [], l, h => by cases h; exact ⟨[], rfl, rfl, rfl⟩
  | r :: rs, l, h => by
    simp only [resL] at h
    split at h
    · rename_i x y h1 h2
      obtain ⟨g, cs⟩ := x
      cases h
      obtain ⟨v, hv, hr⟩ := resV_run hs hf h1
      obtain ⟨vs, hvs, ht, hl⟩ := resL_run hs hf h2
      refine ⟨v :: vs, ?_, ⟨v, vs, rfl, hr, ht⟩, by simp [hl]⟩
      rw [List.mapM_cons, Sem.run_bind, hv, Result.andThen_ok, Sem.run_bind, hvs, Result.andThen_ok]; rfl
    · cases h

theorem resA_run {fn : Func} {x : AT} (hs : Sr GL w I G st.os) (hf : Fr D w I G (shape st.os) N a st.env) (h : resA P st fn.results.toList = some x) :
    ∃ v, (results fn a.tmps).run P w = .ok v w ∧ ATr w I G (shape st.os) x v := by
  unfold resA at h
  cases hl : resL P st fn.results.toList with
  | none => simp [hl] at h
  | some l =>
    rw [hl] at h
    obtain ⟨vs, hvs, ht, hlen⟩ := resL_run hs hf hl
    have hrun : (fn.results.mapM (rvSem a.tmps)).run P w = .ok ⟨vs⟩ w := by
      rw [Array.mapM_eq_mapM_toList, Sem.run_map, hvs]; rfl
    refine ⟨if h : (⟨vs⟩ : Array Value).size = 1 then (⟨vs⟩ : Array Value)[0] else .tuple ⟨vs⟩, ?_, ?_⟩
    · rw [results_eq, Sem.run_bind, hrun]; rfl
    · split at h
      · rename_i g cs hq
        cases hq; cases h
        obtain ⟨v, vs', rfl, hv, hn⟩ := ht
        have : vs' = [] := hn
        subst this
        exact hv
      · rename_i l' hne heq
        cases heq; cases h
        have hl1 : ¬ (⟨vs⟩ : Array Value).size = 1 := by
          intro e
          have e' : vs.length = 1 := e
          rw [e'] at hlen
          match l, hlen with
          | [(g, cs)], _ => exact hne g cs rfl
        rw [dif_neg hl1]
        exact ⟨vs, rfl, ht⟩
      · rename_i heq; cases heq

def numA : Nat → List AT → List (Nat × AT)
  | _, [] => []
  | k, x :: l => (k, x) :: numA (k + 1) l

theorem look_numA : ∀ (l : List AT) (k i : Nat), look (numA k l) i = if k ≤ i then l[i - k]? else none
  | [], k, i => by simp [numA, look]
  | o :: os, k, i => by
    simp only [numA, look_cons, look_numA os (k + 1) i]
    by_cases h : k = i
    · subst h; simp
    · rw [if_neg h]
      by_cases h2 : k + 1 ≤ i
      · rw [if_pos h2, if_pos (by omega), show i - k = (i - (k + 1)) + 1 from by omega, List.getElem?_cons_succ]
      · rw [if_neg h2, if_neg (by omega)]

theorem As.get {sh : Sh} : ∀ {l : List AT} {vs : List Value}, As w I G sh l vs → vs.length = l.length ∧ ∀ (i : Nat) (x : AT), l[i]? = some x → ∃ v, vs[i]? = some v ∧ ATr w I G sh x v
  | [], vs, h => by rw [show vs = [] from h]; exact ⟨rfl, fun i x h => by simp at h⟩
  | y :: l, vs, h => by
    obtain ⟨v, vs', rfl, hv, hr⟩ := h
    obtain ⟨q1, q2⟩ := hr.get
    refine ⟨by simp [q1], fun i x hx => ?_⟩
    cases i with
    | zero => simp at hx; subst hx; exact ⟨v, rfl, hv⟩
    | succ i => simpa using q2 i x (by simpa using hx)

/-- what holds where a function returns -/
def Out (P : Program) (rv : List ResultVar) (outs : List Nat) (m : Nat) (res : AT) (os' : List Obj) : Exit → S → Prop
  | .normal, s | .ret, s => ∃ r, resA P s rv = some r ∧ renA outs res = some r ∧ Eqs (renOs outs os') (lookAll s.os outs) ∧ outs.Nodup ∧ outs.length = os'.length ∧ outs.take m = List.range m
  | _, _ => False

theorem sim_of {f : FuncId} {fn : Func} {code : Code} {args : List AT} {os os' : List Obj} {res : AT} (outs : List Nat) (hf : P.funcs[f]? = some fn) (hb : fn.body = some code) (hn : Nat.ble args.length fn.ntmps = true)
    (hm : Nat.ble os.length 100 = true) (h : WA P GL fn.ntmps code ⟨numA 0 args, number os⟩ (Out P fn.results.toList outs os.length res os')) : Sim P GL f args os res os' := by
  have hn := Nat.le_of_ble_eq_true hn
  have hm := Nat.le_of_ble_eq_true hm
  intro w I G vs hs ha
  obtain ⟨hal, hag⟩ := ha.get
  refine calls_of_wp hf hb (wp_mono (h [] w I G (number os) w I G _ (.refl _ _ _) (.refl _ _ _ _ _) hs ?_) ?_)
  · refine ⟨by simp [hal]; omega, rfl, fun t x hx => ?_⟩
    simp only [look_numA, Nat.zero_le, if_true, Nat.sub_zero] at hx
    obtain ⟨v, hv, hr⟩ := hag t x hx
    have hlt := (List.getElem?_eq_some_iff.1 hx).1
    refine ⟨by omega, ?_⟩
    rw [Array.getD_eq_getD_getElem?, Array.getElem?_append_left (by simp [hal]; omega)]
    simp only [List.getElem?_toArray, hv]; exact hr
  · rintro e a' w' ⟨I', G', s, q1, q2, q3, q4, q5⟩
    have key : (∃ r, resA P s fn.results.toList = some r ∧ renA outs res = some r ∧ Eqs (renOs outs os') (lookAll s.os outs) ∧ outs.Nodup ∧ outs.length = os'.length ∧ outs.take os.length = List.range os.length) →
        a'.defers = [] ∧ ∃ v, (results fn a'.tmps).run P w' = .ok v w' ∧ ∃ v' I'' G'', Ending.returned v = .returned v' ∧ Ext w w' I I'' (Mine G (number os)) (Mine G'' (number os')) ∧ Sr GL w' I'' G'' (number os') ∧
          ATr w' I'' G'' (shape (number os')) res v' ∧ Keeps (· < os.length) w w' I I'' G G'' (shape (number os)) (shape (number os')) := by
      rintro ⟨r, r1, r2, r3, r4, r5, r6⟩
      obtain ⟨v, hv, hr⟩ := resA_run q3 q4 r1
      obtain ⟨hin, hsh⟩ := ren_in r3
      have hG : ∀ (p k : Nat), outs[p]? = some k → (fun k => (outs[k]?).bind G') p = G' k := fun p k h => by simp [h]
      refine ⟨q4.defers, v, hv, v, I', fun k => (outs[k]?).bind G', rfl, ?_, q3.ren r3 r4 r5, renA_back hG hsh r2 hr, ?_⟩
      · refine ⟨q1.size, q1.os, q1.tape, q1.output, q1.keep, q1.imm, q1.inew, fun b hb => ?_⟩
        obtain ⟨p, o, h1, h2⟩ := hb
        rw [look_number] at h1
        cases hk : outs[p]? with
        | none => simp [hk] at h2
        | some k =>
          obtain ⟨_, o', _, _, h3⟩ := hin p k hk
          exact q1.mnew b ⟨k, o', h3, by simpa [hk] using h2⟩
      · refine ⟨q2.heap, q2.imm, fun p s' m hp hsp => ?_⟩
        have hp' : p < os.length := hp
        have hk : outs[p]? = some p := by
          have := congrArg (fun l => l[p]?) r6
          simp only [List.getElem?_take_of_lt hp', List.getElem?_range hp'] at this
          exact this
        rw [hsh p p hk] at hsp
        obtain ⟨m0, e1, e2, e3⟩ := q2.objs p s' m (by show p < 100; omega) hsp
        refine ⟨m0, e1, e2, fun e => ?_⟩
        have := e3 e
        simpa [hk] using this
    cases e with
    | normal => exact key q5
    | ret => exact key q5
    | _ => exact q5.elim
end Go.AL
