/- The region whose order Go leaves open: the theorem. -/
import Derived.Test.YthilboheomikjaaGreatDoorA17
namespace Go.AL
variable {D : List Deferred}
set_option linter.unusedVariables false
set_option linter.unusedSimpArgs false
variable {P : Program} {GL : List (Nat × List PV)} {C : Spec} {N : Nat}

/-- what one operation did, in the order of the text -/
def StepOk (P : Program) (GL : List (Nat × List PV)) (C : Spec) (N : Nat) (ops : List Oper) (hs : List (Nat × Hint)) (f : Nat → S) (x : Nat → AT) (i : Nat) (o : Oper) : Prop :=
  dstOk N o = true ∧ (f (i + 1)).env = putE (f i).env o.dst (x i) ∧
    ((wantedA ops (f i) o = some false ∧ x i = .tup [] ∧ (f (i + 1)).os = (f i).os) ∨ (wantedA ops (f i) o = some true ∧ ∃ O, evalOpH P GL C (f i) o (look hs i) = some (x i, (f (i + 1)).os, O) ∧ All O))

theorem trace_of {ops : List Oper} {hs : List (Nat × Hint)} : ∀ (rest : List Oper) (i : Nat) (st st' : S) (O : List Prop), evalOps P GL C N ops hs i rest st = some (st', O) → All O →
    ∃ (f : Nat → S) (x : Nat → AT), f i = st ∧ f (i + rest.length) = st' ∧ ∀ (k : Nat) (o : Oper), rest[k]? = some o → StepOk P GL C N ops hs f x (i + k) o ∧ (traceL P GL C N ops hs i rest st)[k]? = some (f (i + k), x (i + k))
  | [], i, st, st', O, h, hO => by cases h; exact ⟨fun _ => st, fun _ => .tup [], rfl, rfl, fun k o h => by simp at h⟩
  | o :: rest, i, st, st', O, h, hO => by
    simp only [evalOps] at h
    have go : ∀ (y : AT) (s1 : S) (O' : List Prop), evalOps P GL C N ops hs (i + 1) rest s1 = some (st', O') → All O' → (dstOk N o = true ∧ s1.env = putE st.env o.dst y ∧
        ((wantedA ops st o = some false ∧ y = .tup [] ∧ s1.os = st.os) ∨ (wantedA ops st o = some true ∧ ∃ O, evalOpH P GL C st o (look hs i) = some (y, s1.os, O) ∧ All O))) →
        traceL P GL C N ops hs i (o :: rest) st = (st, y) :: traceL P GL C N ops hs (i + 1) rest s1 →
        ∃ (f : Nat → S) (x : Nat → AT), f i = st ∧ f (i + (o :: rest).length) = st' ∧ ∀ (k : Nat) (o' : Oper), (o :: rest)[k]? = some o' → StepOk P GL C N ops hs f x (i + k) o' ∧ (traceL P GL C N ops hs i (o :: rest) st)[k]? = some (f (i + k), x (i + k)) := by
      intro y s1 O' h1 h2 h3 h4
      obtain ⟨f, x, e1, e2, e3⟩ := trace_of rest (i + 1) s1 st' O' h1 h2
      refine ⟨fun j => if j = i then st else f j, fun j => if j = i then y else x j, by simp, ?_, fun k o' hk => ?_⟩
      · simp only [List.length_cons]
        rw [if_neg (by omega), show i + (rest.length + 1) = i + 1 + rest.length from by omega]; exact e2
      · cases k with
        | zero =>
          simp at hk; subst hk
          rw [h4]
          refine ⟨?_, by simp⟩
          unfold StepOk
          simp only [Nat.add_zero, if_true]
          rw [if_neg (by omega), e1]
          exact h3
        | succ k =>
          obtain ⟨this, htr⟩ := e3 k o' (by simpa using hk)
          rw [h4]
          refine ⟨?_, by
            rw [List.getElem?_cons_succ, htr]
            simp only
            rw [if_neg (by omega), if_neg (by omega), show i + (k + 1) = i + 1 + k from by omega]⟩
          unfold StepOk at this ⊢
          simp only
          rw [if_neg (by omega), if_neg (by omega), if_neg (by omega), show i + (k + 1) = i + 1 + k from by omega]
          exact this
    split at h
    · rename_i hw hd
      exact go (.tup []) _ O h hO ⟨hd, rfl, .inl ⟨hw, rfl, rfl⟩⟩ (by simp only [traceL, hw])
    · rename_i hw hd
      split at h
      · cases h
      · rename_i y os1 O1 he
        split at h
        · cases h
        · rename_i st2 O2 h2
          cases h
          obtain ⟨q1, q2⟩ := hO.append
          exact go y _ O2 h2 q2 ⟨hd, rfl, .inr ⟨hw, O1, he, q1⟩⟩ (by simp only [traceL, hw, he])
    · cases h

section
variable {ops : List Oper} {hs : List (Nat × Hint)} {f : Nat → S} {x : Nat → AT} {st : S}

/-- the last one that wrote a slot -/
theorem env_look (h0 : f 0 = st) (hst : ∀ (k : Nat) (o : Oper), ops[k]? = some o → StepOk P GL C N ops hs f x k o) : ∀ (j : Nat), j ≤ ops.length → ∀ t y, look (f j).env t = some y →
    (∃ (i : Nat) (o : Oper), i < j ∧ ops[i]? = some o ∧ o.dst = some t ∧ y = x i ∧ ∀ (i' : Nat) (o' : Oper), i < i' → i' < j → ops[i']? = some o' → o'.dst ≠ some t) ∨
    ((∀ (i : Nat) (o : Oper), i < j → ops[i]? = some o → o.dst ≠ some t) ∧ look st.env t = some y)
  | 0, _, t, y, h => .inr ⟨fun i o hi => by omega, by rw [← h0]; exact h⟩
  | j + 1, hj, t, y, h => by
    have ho := List.getElem?_eq_getElem (l := ops) (i := j) (by omega)
    obtain ⟨_, he, _⟩ := hst j _ ho
    rw [he] at h
    cases hd : (ops[j]).dst with
    | none =>
      rw [hd] at h
      simp only [putE] at h
      rcases env_look h0 hst j (by omega) t y h with ⟨i, o, h1, h2, h3, h4, h5⟩ | ⟨h1, h2⟩
      · refine .inl ⟨i, o, by omega, h2, h3, h4, fun i' o' q1 q2 q3 => ?_⟩
        by_cases e : i' = j
        · subst e; rw [ho] at q3; cases q3; rw [hd]; simp
        · exact h5 i' o' q1 (by omega) q3
      · refine .inr ⟨fun i o q1 q2 => ?_, h2⟩
        by_cases e : i = j
        · subst e; rw [ho] at q2; cases q2; rw [hd]; simp
        · exact h1 i o (by omega) q2
    | some d =>
      rw [hd] at h
      simp only [putE, look_cons] at h
      by_cases e : d = t
      · subst e
        rw [if_pos rfl] at h; cases h
        exact .inl ⟨j, _, by omega, ho, hd, rfl, fun i' o' q1 q2 => by omega⟩
      · rw [if_neg e] at h
        rcases env_look h0 hst j (by omega) t y h with ⟨i, o, h1, h2, h3, h4, h5⟩ | ⟨h1, h2⟩
        · refine .inl ⟨i, o, by omega, h2, h3, h4, fun i' o' q1 q2 q3 => ?_⟩
          by_cases e' : i' = j
          · subst e'; rw [ho] at q3; cases q3; rw [hd]; simpa using e
          · exact h5 i' o' q1 (by omega) q3
        · refine .inr ⟨fun i o q1 q2 => ?_, h2⟩
          by_cases e' : i = j
          · subst e'; rw [ho] at q2; cases q2; rw [hd]; simpa using e
          · exact h1 i o (by omega) q2

/-- nothing turns objects between: they are the same -/
theorem os_const (hst : ∀ (k : Nat) (o : Oper), ops[k]? = some o → StepOk P GL C N ops hs f x k o) :
    ∀ (d j : Nat), j + d ≤ ops.length → (∀ (i : Nat) (o : Oper), j ≤ i → i < j + d → ops[i]? = some o → kindOp o (look hs i) ≤ 1) → (f (j + d)).os = (f j).os
  | 0, j, _, _ => rfl
  | d + 1, j, hj, h => by
    have ho := List.getElem?_eq_getElem (l := ops) (i := j + d) (by omega)
    have ih := os_const hst d j (by omega) (fun i o h1 h2 => h i o h1 (by omega))
    obtain ⟨_, _, hw⟩ := hst (j + d) _ ho
    rw [show j + (d + 1) = j + d + 1 from rfl, ← ih]
    rcases hw with ⟨_, _, e⟩ | ⟨_, O, e, _⟩
    · exact e
    · exact evalOpH_same (h (j + d) _ (by omega) (by omega) ho) e

theorem evalOpH_obj {st : S} {o : Oper} {id : Nat} : evalOpH P GL C st o (some (.obj id)) = evalOp P GL C st o (some (.obj id)) := rfl

/-- but for new ones -/
theorem os_look (hst : ∀ (k : Nat) (o : Oper), ops[k]? = some o → StepOk P GL C N ops hs f x k o) (hk4 : ∀ (k : Nat) (o : Oper), ops[k]? = some o → kindOp o (look hs k) < 4) (id : Nat) :
    ∀ (d j : Nat), j + d ≤ ops.length → (∀ (i : Nat) (o : Oper), j ≤ i → i < j + d → ops[i]? = some o → (kindOp o (look hs i) = 2 → norefOp id GL (f i) o (look hs i) = true ∨ look (f i).os id = none) ∧ (kindOp o (look hs i) = 3 → look hs i ≠ some (.obj id))) → look (f (j + d)).os id = look (f j).os id
  | 0, j, _, _ => rfl
  | d + 1, j, hj, h => by
    have ho := List.getElem?_eq_getElem (l := ops) (i := j + d) (by omega)
    have ih := os_look hst hk4 id d j (by omega) (fun i o h1 h2 => h i o h1 (by omega))
    obtain ⟨_, _, hw⟩ := hst (j + d) _ ho
    rw [show j + (d + 1) = j + d + 1 from rfl, ← ih]
    rcases hw with ⟨_, _, e⟩ | ⟨_, O, e, _⟩
    · rw [e]
    · have h1 := hk4 _ _ ho
      obtain ⟨h2, h3⟩ := h (j + d) _ (by omega) (by omega) ho
      by_cases hk : kindOp ops[j + d] (look hs (j + d)) = 3
      · have hh : ∃ i', look hs (j + d) = some (.obj i') := by
          cases hq : look hs (j + d) with
          | none => rw [hq] at hk; obtain ⟨_, _, h', _⟩ := evalOp_crt (e2 := []) (os := (f (j + d)).os) (e1 := (f (j + d)).env) hk (by rw [hq] at e; exact e); cases h'
          | some q =>
            rw [hq] at hk e
            cases q with
            | obj i' => exact ⟨i', rfl⟩
            | bool b =>
              rw [kind_H] at hk
              unfold evalOpH at e
              simp only at e
              split at e
              · rename_i he
                obtain ⟨_, _, h', _⟩ := evalOp_crt (e2 := []) (os := (f (j + d)).os) (e1 := (f (j + d)).env) hk he; cases h'
              · cases e
            | _ => obtain ⟨_, _, h', _⟩ := evalOp_crt (e2 := []) (os := (f (j + d)).os) (e1 := (f (j + d)).env) hk e; cases h'
        obtain ⟨i', hi'⟩ := hh
        have hne := h3 hk
        rw [hi'] at hk e hne
        obtain ⟨i2, ob, h4, h5, _⟩ := evalOp_crt (e2 := []) (os := (f (j + d)).os) (e1 := (f (j + d)).env) hk e
        cases h4
        rw [h5, look_cons, if_neg (fun e => hne (by rw [e]))]
      · by_cases hk2 : kindOp ops[j + d] (look hs (j + d)) = 2
        · exact evalOpH_mod hk2 e (h2 hk2)
        · rw [evalOpH_same (by omega) e]

end

theorem look_pickE_mem {α : Type} {env : List (Nat × α)} : ∀ {l : List Nat} {t : Nat}, t ∈ l → look (pickE env l) t = look env t
  | [], t, h => by simp at h
  | k :: l, t, h => by
    simp only [pickE]
    by_cases e : k = t
    · subst e
      cases hk : look env k with
      | some x => simp [look_cons]
      | none =>
        simp only
        cases hq : look (pickE env l) k with
        | none => rfl
        | some y => rw [look_pickE hq] at hk; cases hk
    · have ht : t ∈ l := by simpa [Ne.symm e] using h
      have ih := look_pickE_mem (env := env) ht
      split
      · rw [look_cons, if_neg e]; exact ih
      · exact ih

theorem opd_of_looks {ops : List Oper} {o : Oper} {e1 e2 : List (Nat × AT)} {os1 os2 : Objs} (h : ∀ t, t ∈ o.looksAt ops.toArray → look e2 t = look e1 t) : ∀ y, y ∈ o.op.operands.toList → opd GL ⟨e2, os2⟩ y = opd GL ⟨e1, os1⟩ y := by
  intro y hy
  cases y with
  | tmp t =>
    exact h t (List.mem_append.2 (.inl (List.mem_filterMap.2 ⟨_, hy, rfl⟩)))
  | const v => rfl
  | func f => rfl
  | global g => rfl

theorem wanted_looks {ops : List Oper} {o : Oper} {s1 s2 : S} (h : ∀ t, t ∈ o.looksAt ops.toArray → look s2.env t = look s1.env t) : wantedA ops s2 o = wantedA ops s1 o := by
  unfold wantedA
  cases hg : o.guard with
  | none => rfl
  | some gw =>
    obtain ⟨g, want⟩ := gw
    simp only
    cases hd : (ops[g]?).bind (·.dst) with
    | none => rfl
    | some t =>
      have : look s2.env t = look s1.env t := h t (List.mem_append.2 (.inr (by simp only [hg]; simp only [List.getElem?_toArray, hd]; simp)))
      simp only [this]

/-- the state of a run through a region, some operations done -/
structure Inv (D : List Deferred) (GL : List (Nat × List PV)) (N : Nat) (ops : List Oper) (hs : List (Nat × Hint)) (f : Nat → S) (x : Nat → AT) (st : S) (w0 : World) (I0 : Nat → Prop) (G0 : Nat → Option Nat) (L : Nat → Prop) (k : Nat) (w : World) (I : Nat → Prop) (G : Nat → Option Nat) (a : Act) : Prop where
  closed : Closed ops L
  cut : k ≤ ops.length ∧ ∀ (i : Nat) (o : Oper), ops[i]? = some o → 2 ≤ kindOp o (look hs i) → (L i ↔ i < k)
  ext : Ext w0 w I0 I (Mine G0 st.os) (Mine G (f k).os)
  keeps : Keeps (· < 100) w0 w I0 I G0 G (shape st.os) (shape (f k).os)
  sr : Sr GL w I G (f k).os
  size : a.tmps.size = N
  defers : a.defers = D
  wrote : ∀ (i : Nat) (o : Oper) (t : Nat), ops[i]? = some o → L i → o.dst = some t → (∀ (i' : Nat) (o' : Oper), ops[i']? = some o' → L i' → o'.dst = some t → i' ≤ i) → t < N ∧ ATr w I G (shape (f k).os) (x i) (a.tmps.getD t undef)
  was : ∀ (t : Nat) (y : AT), (∀ (i : Nat) (o : Oper), ops[i]? = some o → L i → o.dst ≠ some t) → look st.env t = some y → t < N ∧ ATr w I G (shape (f k).os) y (a.tmps.getD t undef)

theorem any_mem {l : List Nat} {d : Nat} (h : d ∈ l) : l.any (Nat.beq d) = true := List.any_eq_true.2 ⟨d, h, Nat.beq_refl d⟩

section
variable {ops : List Oper} {hs : List (Nat × Hint)} {f : Nat → S} {x : Nat → AT} {st : S} {w0 : World} {I0 : Nat → Prop} {G0 : Nat → Option Nat}

theorem look_mem {α : Type} {t : Nat} {y : α} : ∀ {env : List (Nat × α)}, look env t = some y → (t, y) ∈ env
  | [], h => by cases h
  | (k, z) :: env, h => by
    rw [look_cons] at h
    split at h
    · cases h; subst_vars; exact List.mem_cons_self ..
    · exact List.mem_cons_of_mem _ (look_mem h)

/-- what clashes is in order -/
structure Ordered (GL : List (Nat × List PV)) (ops : List Oper) (hs : List (Nat × Hint)) (f : Nat → S) (x : Nat → AT) (st : S) : Prop where
  kind : ∀ (k : Nat) (o : Oper), ops[k]? = some o → kindOp o (look hs k) < 4
  low : ∀ (k : Nat) (o : Oper), ops[k]? = some o → ∀ p, p ∈ preds o → p < k
  ord : ∀ (i j : Nat) (a b : Oper), i < j → ops[i]? = some a → ops[j]? = some b → clash ops a b (look hs i) (look hs j) = true → ((clo ops []).getD j 0).testBit i = true
  crt : ∀ (j : Nat) (o : Oper) (id : Nat), ops[j]? = some o → kindOp o (look hs j) = 3 → look hs j = some (.obj id) → norefEnv id st.env = true ∧ ∀ (i : Nat), i < ops.length → i = j ∨ ((clo ops []).getD i 0).testBit j = true ∨ norefA id (x i) = true
  read : ∀ (j : Nat) (o : Oper), ops[j]? = some o → kindOp o (look hs j) = 1 → ∀ (c : Nat) (b : Oper), ops[c]? = some b → ((clo ops []).getD j 0).testBit c = true ∨ ((clo ops []).getD c 0).testBit j = true ∨
    ((∀ id, look hs c = some (.obj id) → norefOp id GL (f j) o (look hs j) = true) ∧ (kindOp b (look hs c) = 2 → ∀ id, look (f c).os id ≠ none → norefOp id GL (f c) b (look hs c) = true ∨ norefOp id GL (f j) o (look hs j) = true))

theorem drawOk_spec {tr : List (S × AT)} (htr : ∀ (k : Nat), k < ops.length → tr[k]? = some (f k, x k)) (h : drawOk GL ops hs tr st = true) : Ordered GL ops hs f x st := by
  unfold drawOk at h
  rw [List.all_eq_true] at h
  have key : ∀ (j : Nat) (y : Oper), ops[j]? = some y → kindOp y (look hs j) < 4 ∧ (∀ p, p ∈ preds y → p < j) ∧ (∀ (i : Nat) (a : Oper), i < j → ops[i]? = some a → clash ops a y (look hs i) (look hs j) = true → ((clo ops []).getD j 0).testBit i = true) ∧
      (∀ id, kindOp y (look hs j) = 3 → look hs j = some (.obj id) → crtOk ops hs tr st j id = true) ∧ (kindOp y (look hs j) = 1 → readOk GL ops hs tr j y = true) := by
    intro j y hy
    have := h j (List.mem_range.2 (List.getElem?_eq_some_iff.1 hy).1)
    rw [hy] at this
    simp only [Bool.and_eq_true, List.all_eq_true] at this
    obtain ⟨⟨⟨⟨h1, h2⟩, h3⟩, h4⟩, h5⟩ := this
    refine ⟨Nat.le_of_ble_eq_true h1, fun p hp => Nat.le_of_ble_eq_true (h2 p hp), fun i a hi ha hc => ?_, fun id hk hh => ?_, fun hk => ?_⟩
    · have := h3 i (List.mem_range.2 hi)
      rw [ha] at this
      simpa [hc] using this
    · rw [hk, hh] at h4; exact h4
    · rw [hk] at h5; exact h5
  refine ⟨fun k o ho => (key k o ho).1, fun k o ho => (key k o ho).2.1, fun i j a b hij ha hb => (key j b hb).2.2.1 i a hij ha, fun j o id ho hk hh => ?_, fun j o ho hk c b hc => ?_⟩
  · have := (key j o ho).2.2.2.1 id hk hh
    unfold crtOk at this
    simp only [Bool.and_eq_true, List.all_eq_true] at this
    refine ⟨this.1, fun i hi => ?_⟩
    have h2 := this.2 i (List.mem_range.2 hi)
    rw [htr i hi] at h2
    simp only [Bool.or_eq_true] at h2
    rcases h2 with (h2 | h2) | h2
    · exact .inl (Nat.eq_of_beq_eq_true h2)
    · exact .inr (.inl h2)
    · exact .inr (.inr h2)
  · have := (key j o ho).2.2.2.2 hk
    unfold readOk at this
    rw [htr j (List.getElem?_eq_some_iff.1 ho).1] at this
    simp only [List.all_eq_true] at this
    have hcl := (List.getElem?_eq_some_iff.1 hc).1
    have h2 := this c (List.mem_range.2 hcl)
    rw [hc, htr c hcl] at h2
    simp only [Bool.and_eq_true] at h2
    obtain ⟨h2, h3⟩ := h2
    by_cases b1 : ((clo ops []).getD j 0).testBit c = true
    · exact .inl b1
    by_cases b2 : ((clo ops []).getD c 0).testBit j = true
    · exact .inr (.inl b2)
    refine .inr (.inr ⟨fun id hh => ?_, fun hk2 id hne => ?_⟩)
    · rw [hh] at h2
      simp only [Bool.or_eq_true] at h2
      rcases h2 with (h2 | h2) | h2
      · exact absurd h2 b1
      · exact absurd h2 b2
      · exact h2
    · rw [hk2] at h3
      simp only [show Nat.beq 2 2 = true from rfl, Bool.or_eq_true, List.all_eq_true] at h3
      rcases h3 with (h3 | h3) | h3
      · exact absurd h3 b1
      · exact absurd h3 b2
      · cases hl : look (f c).os id with
        | none => exact absurd hl hne
        | some ob => exact h3 (id, ob) (look_mem hl)

theorem clo_lt (hlow : ∀ (k : Nat) (o : Oper), ops[k]? = some o → ∀ p, p ∈ preds o → p < k) : ∀ (j : Nat) (o : Oper), ops[j]? = some o → ∀ i, ((clo ops []).getD j 0).testBit i = true → i < j := by
  intro j
  induction j using Nat.strongRecOn with
  | _ j ih =>
    intro o ho i hb
    obtain ⟨p, hp, hr⟩ := (clo_spec ops []).2 j o ho i (by simpa using hb)
    have hpj := hlow j o ho p hp
    rcases hr with rfl | ⟨_, hr⟩
    · exact hpj
    · have hlt : p < ops.length := by have := (List.getElem?_eq_some_iff.1 ho).1; omega
      have := ih p hpj _ (List.getElem?_eq_getElem hlt) i hr
      omega

theorem norefEnv_mem {id : Nat} : ∀ {env : List (Nat × AT)}, norefEnv id env = true ↔ ∀ p, p ∈ env → norefA id p.2 = true
  | [] => by simp [norefEnv]
  | (t, x) :: env => by
    simp only [norefEnv]
    split
    · rename_i h
      rw [norefEnv_mem]
      constructor
      · intro h' p hp
        rcases List.mem_cons.1 hp with rfl | hp
        · exact h
        · exact h' p hp
      · intro h' p hp; exact h' p (List.mem_cons_of_mem _ hp)
    · rename_i h
      constructor
      · intro h'; cases h'
      · intro h'; have := h' _ (List.mem_cons_self ..); rw [h] at this; cases this

theorem norefEnv_pick {id : Nat} {env : List (Nat × AT)} (h : norefEnv id env = true) (l : List Nat) : norefEnv id (pickE env l) = true := by
  rw [norefEnv_mem]
  have h := norefEnv_mem.1 h
  have key : ∀ (l : List Nat) (p : Nat × AT), p ∈ pickE env l → p ∈ env := by
    intro l
    induction l with
    | nil => intro p hp; cases hp
    | cons t l ih =>
      intro p hp
      simp only [pickE] at hp
      split at hp
      · rename_i y hy
        rcases List.mem_cons.1 hp with rfl | hp
        · exact look_mem hy
        · exact ih p hp
      · exact ih p hp
  exact fun p hp => h p (key l p hp)

/-- the next one, whichever is ready -/
theorem inv_step (hC : Sound P GL C) (h0 : f 0 = st) (hst : ∀ (k : Nat) (o : Oper), ops[k]? = some o → StepOk P GL C N ops hs f x k o) (hord : Ordered GL ops hs f x st)
    {L : Nat → Prop} {k : Nat} {w : World} {I : Nat → Prop} {G : Nat → Option Nat} {a : Act} (inv : Inv D GL N ops hs f x st w0 I0 G0 L k w I G a) {j : Nat} {o : Oper} (ho : ops[j]? = some o) (hnl : ¬ L j) (hready : ∀ p, p ∈ preds o → L p)
    {K : Act → World → Prop} {Q : Exit → Act → World → Prop} (hK : ∀ a' w' I' G' k', Inv D GL N ops hs f x st w0 I0 G0 (fun i => L i ∨ i = j) k' w' I' G' a' → K a' w') :
    wpOp P ops.toArray Q j K a w := by
  have hlow : ∀ (k : Nat) (o' : Oper), ops[k]? = some o' → k ≤ j → ∀ p, p ∈ preds o' → p < k := fun k o' h _ => hord.low k o' h
  -- what clashes with j and stands above it is done; what stands below it isn't
  have above : ∀ (i : Nat) (b : Oper), i < j → ops[i]? = some b → clash ops b o (look hs i) (look hs j) = true → L i := fun i b hi hb hc =>
    clo_in inv.closed j o ho hready hlow i (hord.ord i j b o hi hb ho hc)
  have below : ∀ (i : Nat) (b : Oper), j < i → ops[i]? = some b → clash ops o b (look hs j) (look hs i) = true → ¬ L i := fun i b hi hb hc hl =>
    hnl (clo_in inv.closed i b hb (fun p hp => inv.closed i b hb hl p hp) (fun k o' h _ => hord.low k o' h) j (hord.ord j i o b hi ho hb hc))
  have hjn : j < ops.length := (List.getElem?_eq_some_iff.1 ho).1
  have cl1 : ∀ (b : Oper) (i t : Nat), b.dst = some t → t ∈ o.looksAt ops.toArray → clash ops b o (look hs i) (look hs j) = true := fun b i t hd ht => by
    simp [clash, hd, any_mem ht]
  have cl2 : ∀ (b : Oper) (i t : Nat), b.dst = some t → t ∈ o.looksAt ops.toArray → clash ops o b (look hs j) (look hs i) = true := fun b i t hd ht => by
    simp [clash, hd, any_mem ht]
  have cl3 : ∀ (b : Oper) (i t : Nat), b.dst = some t → o.dst = some t → clash ops o b (look hs j) (look hs i) = true := fun b i t hd ht => by
    simp [clash, hd, ht, Nat.beq_refl]
  have cl4 : ∀ (b : Oper) (i t : Nat), b.dst = some t → o.dst = some t → clash ops b o (look hs i) (look hs j) = true := fun b i t hd ht => by
    simp [clash, hd, ht, Nat.beq_refl]
  obtain ⟨hdst, henv, hw⟩ := hst j o ho
  let e2 := pickE (f j).env (o.looksAt ops.toArray)
  have hlook : ∀ t, t ∈ o.looksAt ops.toArray → look e2 t = look (f j).env t := fun t ht => look_pickE_mem ht
  -- the operands stand as they did in the text's order
  have hfr : Fr D w I G (shape (f k).os) N a e2 := by
    refine ⟨inv.size, inv.defers, fun t y hy => ?_⟩
    have hmem : t ∈ o.looksAt ops.toArray := by
      have : ∀ {l : List Nat}, look (pickE (f j).env l) t = some y → t ∈ l := by
        intro l
        induction l with
        | nil => intro h; cases h
        | cons q l ih =>
          intro h
          simp only [pickE] at h
          split at h
          · rw [look_cons] at h
            split at h
            · subst_vars; simp
            · exact List.mem_cons_of_mem _ (ih h)
          · exact List.mem_cons_of_mem _ (ih h)
      exact this hy
    rw [hlook t hmem] at hy
    rcases env_look h0 hst j (by omega) t y hy with ⟨i, b, h1, h2, h3, h4, h5⟩ | ⟨h1, h2⟩
    · subst h4
      refine inv.wrote i b t h2 (above i b h1 h2 (cl1 b i t h3 hmem)) h3 (fun i' b' q1 q2 q3 => ?_)
      rcases Nat.lt_trichotomy i' j with h | h | h
      · rcases Nat.lt_or_ge i i' with hh | hh
        · exact absurd q3 (h5 i' b' hh h q1)
        · exact hh
      · subst h; exact absurd q2 hnl
      · exact absurd q2 (below i' b' h q1 (cl2 b' i' t q3 hmem))
    · refine inv.was t y (fun i b q1 q2 q3 => ?_) h2
      rcases Nat.lt_trichotomy i j with h | h | h
      · exact h1 i b h q1 q3
      · subst h; exact hnl q2
      · exact below i b h q1 (cl2 b i t q3 hmem) q2
  -- what stands behind j's own
  have hkeep : ∀ (v : Value) (w' : World) (I' : Nat → Prop) (G' : Nat → Option Nat) (k' : Nat), k' ≤ ops.length → (∀ (i : Nat) (b : Oper), ops[i]? = some b → 2 ≤ kindOp b (look hs i) → ((L i ∨ i = j) ↔ i < k')) →
      Ext w w' I I' (Mine G (f k).os) (Mine G' (f k').os) → ∀ (R : Nat → Prop), Keeps R w w' I I' G G' (shape (f k).os) (shape (f k').os) → (∀ id, id < 100 → R id) → (∀ i, i < ops.length → L i → (x i).refs R) → (∀ t y, look st.env t = some y → y.refs R) → Sr GL w' I' G' (f k').os → ATr w' I' G' (shape (f k').os) (x j) v →
      Inv D GL N ops hs f x st w0 I0 G0 (fun i => L i ∨ i = j) k' w' I' G' (a.put o.dst v) := by
    intro v w' I' G' k' hk' hcut e1 R ks hR1 hR2 hR3 s1 x1
    have hput : ∀ t, (a.put o.dst v).tmps.getD t undef = if o.dst = some t ∧ t < N then v else a.tmps.getD t undef := by
      intro t
      cases hd : o.dst with
      | none => simp [Act.put]
      | some d =>
        simp only [Act.put]
        by_cases hdt : d = t
        · subst hdt
          by_cases hlt : d < N
          · rw [if_pos ⟨rfl, hlt⟩, Array.getD_eq_getD_getElem?, Array.getElem?_setIfInBounds_self_of_lt (by rw [inv.size]; exact hlt)]; rfl
          · rw [if_neg (by simp [hlt]), Array.getD_eq_getD_getElem?, Array.getD_eq_getD_getElem?]
            have hge : N ≤ d := Nat.le_of_not_lt hlt
            rw [Array.getElem?_eq_none (by simp [inv.size]; exact hge), Array.getElem?_eq_none (by simp [inv.size]; exact hge)]
        · rw [if_neg (by simp [hdt]), Array.getD_eq_getD_getElem?, Array.getElem?_setIfInBounds_ne hdt, ← Array.getD_eq_getD_getElem?]
    refine ⟨fun i b hb hl p hp => ?_, ⟨hk', hcut⟩, inv.ext.trans e1, inv.keeps.trans (ks.weaken fun i h => hR1 i h), s1, ?_, ?_, fun i b t hb hl hd hmax => ?_, fun t y hno hy => ?_⟩
    · rcases hl with hl | rfl
      · exact .inl (inv.closed i b hb hl p hp)
      · rw [ho] at hb; cases hb; exact .inl (hready p hp)
    · cases hd : o.dst <;> simp [Act.put, inv.size]
    · cases hd : o.dst <;> simp [Act.put, inv.defers]
    · rw [hput]
      rcases hl with hl | rfl
      · have hne : ¬ (o.dst = some t ∧ t < N) := by
          rintro ⟨hd', _⟩
          have h1 := hmax j o ho (.inr rfl) hd'
          rcases Nat.lt_or_eq_of_le h1 with h | h
          · exact below i b h hb (cl3 b i t hd hd') hl
          · exact hnl (h ▸ hl)
        rw [if_neg hne]
        obtain ⟨q1, q2⟩ := inv.wrote i b t hb hl hd (fun i' b' r1 r2 r3 => hmax i' b' r1 (.inl r2) r3)
        exact ⟨q1, q2.mono ks (hR2 i (List.getElem?_eq_some_iff.1 hb).1 hl)⟩
      · rw [ho] at hb; cases hb
        have hlt : t < N := by unfold dstOk at hdst; rw [hd] at hdst; exact Nat.le_of_ble_eq_true hdst
        rw [if_pos ⟨hd, hlt⟩]
        exact ⟨hlt, x1⟩
    · rw [hput, if_neg (fun h => hno j o ho (.inr rfl) h.1)]
      obtain ⟨q1, q2⟩ := inv.was t y (fun i b r1 r2 => hno i b r1 (.inl r2)) hy
      exact ⟨q1, q2.mono ks (hR3 t y hy)⟩
  have hw2 : wantedA ops ⟨e2, (f k).os⟩ o = wantedA ops (f j) o := wanted_looks hlook
  have hcut0 : ¬ 2 ≤ kindOp o (look hs j) → ∀ (i : Nat) (b : Oper), ops[i]? = some b → 2 ≤ kindOp b (look hs i) → ((L i ∨ i = j) ↔ i < k) := fun hne i b hb hkb => by
    rw [← inv.cut.2 i b hb hkb]
    refine ⟨fun h => h.elim id fun h => ?_, .inl⟩
    subst h; rw [ho] at hb; cases hb; exact absurd hkb hne
  have hkj := hord.kind j o ho
  -- where j turns objects, what turns objects is as it was in the text's order
  have hos2 : 2 ≤ kindOp o (look hs j) → ∀ (i : Nat) (b : Oper), ops[i]? = some b → 2 ≤ kindOp b (look hs i) → i ≠ j → (i < j ↔ i < k) := fun h2 i b hb hkb hij => by
    have hkb' := hord.kind i b hb
    rw [← inv.cut.2 i b hb hkb]
    constructor
    · intro hi
      exact above i b hi hb (clash_l hkb h2)
    · intro hl
      rcases Nat.lt_trichotomy i j with h | h | h
      · exact h
      · exact absurd h hij
      · exact absurd hl (below i b h hb (clash_l h2 hkb))
  have hjk2 : 2 ≤ kindOp o (look hs j) → (f k).os = (f j).os := fun h2 => by
    rcases Nat.le_total j k with h | h
    · obtain ⟨d, rfl⟩ := Nat.exists_eq_add_of_le h
      refine os_const hst d j inv.cut.1 (fun i b q1 q2 q3 => ?_)
      rcases Nat.lt_or_ge 1 (kindOp b (look hs i)) with q4 | q4
      · by_cases e : i = j
        · subst e
          exact absurd ((inv.cut.2 i b q3 q4).2 q2) hnl
        · have := (hos2 h2 i b q3 q4 e).2 q2; omega
      · exact q4
    · obtain ⟨d, rfl⟩ := Nat.exists_eq_add_of_le h
      refine (os_const hst d k (by omega) (fun i b q1 q2 q3 => ?_)).symm
      rcases Nat.lt_or_ge 1 (kindOp b (look hs i)) with q4 | q4
      · have := (hos2 h2 i b q3 q4 (by omega)).1 q2; omega
      · exact q4
  have hcut2 : 2 ≤ kindOp o (look hs j) → ∀ (i : Nat) (b : Oper), ops[i]? = some b → 2 ≤ kindOp b (look hs i) → ((L i ∨ i = j) ↔ i < j + 1) := fun h2 i b hb hkb => by
    by_cases e : i = j
    · subst e; exact ⟨fun _ => Nat.lt_succ_self _, fun _ => .inr rfl⟩
    · have h3 := hos2 h2 i b hb hkb e
      have h4 := inv.cut.2 i b hb hkb
      constructor
      · rintro (h | h)
        · have := h3.2 (h4.1 h); omega
        · exact absurd h e
      · intro h
        exact .inl (h4.2 (h3.1 (by omega)))
  have any1 : ∀ id, id < 100 → Any id := fun _ _ => trivial
  have any2 : ∀ i, i < ops.length → L i → (x i).refs Any := fun i _ _ => AT.refs_any _
  have any3 : ∀ t y, look st.env t = some y → y.refs Any := fun t y _ => AT.refs_any _
  unfold wpOp
  rw [List.getElem?_toArray, ho]
  simp only
  rcases hw with ⟨hwf, hx, hos⟩ | ⟨hwt, O, he, hO⟩
  · -- not carried out
    have := wanted_ok (ops := ops) (st := ⟨e2, (f k).os⟩) hfr (hw2.trans hwf)
    rw [this]
    simp only [Bool.false_eq_true, if_false]
    by_cases h2 : 2 ≤ kindOp o (look hs j)
    · -- one that would turn objects: the cut moves over it
      have e : (f (j + 1)).os = (f k).os := by rw [hos, hjk2 h2]
      exact hK _ w I G (j + 1) (hkeep undef w I G (j + 1) (by omega) (hcut2 h2) (by rw [e]; exact .refl _ _ _) Any (by rw [e]; exact .refl _ _ _ _ _) any1 any2 any3 (by rw [e]; exact inv.sr) (by rw [hx]; exact ⟨[], rfl, rfl⟩))
    · exact hK _ w I G k (hkeep undef w I G k inv.cut.1 (hcut0 h2) (.refl _ _ _) Any (.refl _ _ _ _ _) any1 any2 any3 inv.sr (by rw [hx]; exact ⟨[], rfl, rfl⟩))
  · have := wanted_ok (ops := ops) (st := ⟨e2, (f k).os⟩) hfr (hw2.trans hwt)
    rw [this]
    simp only [if_true]
    have hop : ∀ y, y ∈ o.op.operands.toList → opd GL ⟨e2, (f j).os⟩ y = opd GL ⟨(f j).env, (f j).os⟩ y := opd_of_looks hlook
    by_cases h3 : kindOp o (look hs j) = 3
    · -- a new object
      have hcrt : ∃ id ob, look hs j = some (.obj id) ∧ (f (j + 1)).os = (id, ob) :: (f j).os ∧ fresh id (f j) = true ∧ (fresh id ⟨e2, (f j).os⟩ = true → evalOpH P GL C ⟨e2, (f j).os⟩ o (look hs j) = some (x j, (f (j + 1)).os, O)) := by
        cases hq : look hs j with
        | none =>
          rw [hq] at h3 he
          obtain ⟨_, _, h', _⟩ := evalOp_crt (e2 := []) (os := (f j).os) (e1 := (f j).env) h3 he; cases h'
        | some q =>
          rw [hq] at h3 he
          cases q with
          | obj id =>
            obtain ⟨i2, ob, h4, h5, h6, h7⟩ := evalOp_crt (e2 := e2) (os := (f j).os) (e1 := (f j).env) h3 he
            cases h4
            exact ⟨id, ob, rfl, h5, h6, fun hf => h7 hop hf⟩
          | bool b =>
            rw [kind_H] at h3
            unfold evalOpH at he
            simp only at he
            split at he
            · rename_i he'
              obtain ⟨_, _, h', _⟩ := evalOp_crt (e2 := []) (os := (f j).os) (e1 := (f j).env) h3 he'; cases h'
            · cases he
          | _ => obtain ⟨_, _, h', _⟩ := evalOp_crt (e2 := []) (os := (f j).os) (e1 := (f j).env) h3 he; cases h'
      obtain ⟨id, ob, hid, hos', hfresh, hev⟩ := hcrt
      have hjk := hjk2 (by omega)
      have hf2 : fresh id ⟨e2, (f j).os⟩ = true := by
        unfold fresh at hfresh ⊢
        split at hfresh
        · cases hfresh
        · rename_i hl
          simp only [hl]
          split at hfresh
          · rename_i q1 q2
            rw [q1, norefEnv_pick q2 _]; exact hfresh
          · cases hfresh
      have he2 := hev hf2
      rw [← hjk] at he2
      obtain ⟨c1, c2⟩ := hord.crt j o id ho h3 hid
      obtain ⟨f0, _⟩ := fresh_ok hfresh
      refine .inl (op_wp (st := ⟨e2, (f k).os⟩) he2 hO hC inv.sr hfr fun v w' I' G' q1 q2 q3 q4 => ?_)
      have hmk : makes (look hs j) = [id] := by rw [hid]; rfl
      rw [hmk] at q4
      refine hK _ w' I' G' (j + 1) (hkeep v w' I' G' (j + 1) (by omega) (hcut2 (by omega)) q1 (· ≠ id) (q4.any_.weaken fun i h => by simpa using h) (fun i h => by omega) (fun i hi hl => ?_) (fun t y hy => norefEnv_ok c1 t y hy) q2 q3)
      rcases c2 i hi with h | h | h
      · subst h; exact absurd hl hnl
      · refine absurd (clo_in inv.closed i _ (List.getElem?_eq_getElem hi) (fun p hp => inv.closed i _ (List.getElem?_eq_getElem hi) hl p hp) (fun k o' h _ => hord.low k o' h) j h) hnl
      · exact norefA_ok h
    · have hk3 : kindOp o (look hs j) < 3 := by omega
      have hmk : makes (look hs j) = [] := by
        cases hh : look hs j with
        | none => rfl
        | some h =>
          rw [hh] at hk3
          cases h with
          | obj id => have := kind_obj (o := o) (id := id); omega
          | call a b c d =>
            cases d with
            | nil => rfl
            | cons d e => have := kind_call (o := o) (a := a) (b := b) (c := c) (d := d) (e := e); omega
          | _ => rfl
      have he1 : evalOpH P GL C ⟨e2, (f j).os⟩ o (look hs j) = some (x j, (f (j + 1)).os, O) := by rw [evalOpH_env hop hk3]; exact he
      by_cases hz : kindOp o (look hs j) = 0
      · obtain ⟨_, he2⟩ := evalOpH_zero hz (f k).os he1
        refine .inl (op_wp (st := ⟨e2, (f k).os⟩) he2 hO hC inv.sr hfr fun v w' I' G' q1 q2 q3 q4 => ?_)
        rw [hmk] at q4
        exact hK _ w' I' G' k (hkeep v w' I' G' k inv.cut.1 (hcut0 (by omega)) q1 Any (q4.any_.weaken fun _ _ => by simp) any1 any2 any3 q2 q3)
      · by_cases h2 : kindOp o (look hs j) = 2
        · have hjk := hjk2 (by omega)
          rw [← hjk] at he1
          refine .inl (op_wp (st := ⟨e2, (f k).os⟩) he1 hO hC inv.sr hfr fun v w' I' G' q1 q2 q3 q4 => ?_)
          rw [hmk] at q4
          exact hK _ w' I' G' (j + 1) (hkeep v w' I' G' (j + 1) (by omega) (hcut2 (by omega)) q1 Any (q4.any_.weaken fun _ _ => by simp) any1 any2 any3 q2 q3)
        · have hk1 : kindOp o (look hs j) = 1 := by omega
          -- a reader: new objects may be there or not
          have hnr : ∀ (c : Nat) (b : Oper), ops[c]? = some b → 2 ≤ kindOp b (look hs c) → ¬ (c < j ↔ c < k) →
              ((∀ id, look hs c = some (.obj id) → norefOp id GL (f j) o (look hs j) = true) ∧ (kindOp b (look hs c) = 2 → ∀ id, look (f c).os id ≠ none → norefOp id GL (f c) b (look hs c) = true ∨ norefOp id GL (f j) o (look hs j) = true)) := by
            intro c b hb hkb hne
            rcases hord.read j o ho hk1 c b hb with h | h | h
            · exfalso
              have h1 := clo_lt hord.low j o ho c h
              have h2 := clo_in inv.closed j o ho hready hlow c h
              exact hne ⟨fun _ => (inv.cut.2 c b hb hkb).1 h2, fun _ => h1⟩
            · exfalso
              have h1 := clo_lt hord.low c b hb j h
              refine hne ⟨fun h => by omega, fun h' => ?_⟩
              have h2 := (inv.cut.2 c b hb hkb).2 h'
              exact absurd (clo_in inv.closed c b hb (fun p hp => inv.closed c b hb h2 p hp) (fun k o' h _ => hord.low k o' h) j h) hnl
            · exact h
          have hmid : ∀ (id i : Nat) (b : Oper), norefOp id GL (f j) o (look hs j) = false → ops[i]? = some b → ¬ (i < j ↔ i < k) → (kindOp b (look hs i) = 2 → norefOp id GL (f i) b (look hs i) = true ∨ look (f i).os id = none) ∧ (kindOp b (look hs i) = 3 → look hs i ≠ some (.obj id)) := by
            intro id i b hid hb hne
            refine ⟨fun q4 => ?_, fun q4 q5 => ?_⟩
            · by_cases hl : look (f i).os id = none
              · exact .inr hl
              · rcases (hnr i b hb (by omega) hne).2 q4 id hl with h | h
                · exact .inl h
                · rw [h] at hid; cases hid
            · have := (hnr i b hb (by omega) hne).1 id q5
              rw [this] at hid; cases hid
          have hnor : ∀ id, norefOp id GL ⟨e2, (f j).os⟩ o (look hs j) = norefOp id GL (f j) o (look hs j) := fun id => by
            unfold norefOp
            split
            · rfl
            · rfl
            · rw [Bool.eq_iff_iff, List.all_eq_true, List.all_eq_true]
              constructor
              · intro h y hy; have := h y hy; rw [hop y hy] at this; exact this
              · intro h y hy; have := h y hy; rw [hop y hy]; exact this
          have hlk : ∀ id, norefOp id GL ⟨e2, (f j).os⟩ o (look hs j) = false → look (f k).os id = look (f j).os id := by
            intro id hid
            rw [hnor] at hid
            rcases Nat.le_total j k with h | h
            · obtain ⟨d, rfl⟩ := Nat.exists_eq_add_of_le h
              exact os_look hst hord.kind id d j inv.cut.1 (fun i b q1 q2 q3 => hmid id i b hid q3 (by omega))
            · obtain ⟨d, rfl⟩ := Nat.exists_eq_add_of_le h
              exact (os_look hst hord.kind id d k (by omega) (fun i b q1 q2 q3 => hmid id i b hid q3 (by omega))).symm
          have he2 := evalOpH_look (os2 := (f k).os) (by omega) he1 hlk
          refine .inl (op_wp (st := ⟨e2, (f k).os⟩) he2 hO hC inv.sr hfr fun v w' I' G' q1 q2 q3 q4 => ?_)
          rw [hmk] at q4
          exact hK _ w' I' G' k (hkeep v w' I' G' k inv.cut.1 (hcut0 (by omega)) q1 Any (q4.any_.weaken fun _ _ => by simp) any1 any2 any3 q2 q3)
end
end Go.AL
