/- The evaluator is right: the call, done. -/
import Derived.Test.YthilboheomikjaaGreatDoorA11
namespace Go.AL
variable {D : List Deferred}
set_option linter.unusedVariables false
set_option linter.unusedSimpArgs false
variable {P : Program} {GL : List (Nat × List PV)} {C : Spec} {st : S} {w : World} {I : Nat → Prop} {G : Nat → Option Nat} {N : Nat} {a : Act}

theorem Calls.imp {f : FuncId} {args : Array Value} {R R' : Ending → World → Prop} (h : Calls P f args w R) (hr : ∀ e w', R e w' → R' e w') : Calls P f args w R' :=
  Calls.mono h hr

/-- behind a call: the caller's objects -/
theorem back_home {ids new : List Nat} {os os' rs : List Obj} {w' : World} {I' : Nat → Prop} {G1 : Nat → Option Nat} {os2 : Objs}
    (hs : Sr GL w I G st.os) (hos : Eqs (renOs ids os) (lookAll st.os ids)) (hnd : ids.Nodup) (hlen : ids.length = os.length) (hle : ids.length ≤ os'.length) (h100 : ids.length ≤ 100)
    (hrs : renOs (ids ++ new) os' = some rs) (hadd : addAll st (setAll st.os ids (rs.take ids.length)) new (rs.drop ids.length) = some os2)
    (p1 : Ext w w' I I' (Mine (fun k => (ids[k]?).bind G) (number os)) (Mine G1 (number os'))) (p2 : Sr GL w' I' G1 (number os'))
    (p3 : Keeps (· < os.length) w w' I I' (fun k => (ids[k]?).bind G) G1 (shape (number os)) (shape (number os'))) :
    ∃ G2, (∀ (p k : Nat), (ids ++ new)[p]? = some k → G1 p = G2 k) ∧ (∀ (p k : Nat), (ids ++ new)[p]? = some k → shape (number os') p = shape os2 k) ∧
      Ext w w' I I' (Mine G st.os) (Mine G2 os2) ∧ Sr GL w' I' G2 os2 ∧ Moves new st os2 w w' I I' G G2 := by
  obtain ⟨zs, hz1, hz2⟩ := hos
  obtain ⟨zl, zg⟩ := renOs_get hz1
  obtain ⟨yl, yg⟩ := lookAll_get hz2
  obtain ⟨rl, rg⟩ := renOs_get hrs
  -- the caller's objects that were handed over
  have hin : ∀ (p k : Nat), ids[p]? = some k → ∃ o o', os[p]? = some o ∧ renO ids o = some o' ∧ look st.os k = some o' := by
    intro p k hk
    obtain ⟨o', h1, h2⟩ := yg p k hk
    obtain ⟨o, h3, h4⟩ := zg p o' h2
    exact ⟨o, o', h3, h4, h1⟩
  have hin' : ∀ i, i ∈ ids → ∃ o, look st.os i = some o := fun i hi => by
    obtain ⟨p, hp⟩ := List.mem_iff_getElem?.1 hi
    obtain ⟨_, o', _, _, h⟩ := hin p i hp
    exact ⟨o', h⟩
  have htl : ids.length = (rs.take ids.length).length := by simp [rl]; omega
  have hsa := look_setAll ids (rs.take ids.length) st.os hnd htl hin'
  obtain ⟨al, an, af, ak⟩ := look_addAll hadd
  have hnew : ∀ i, i ∈ new → i ∉ ids ∧ look st.os i = none := fun i hi => by
    obtain ⟨_, h1, _⟩ := fresh_ok (af i hi).1
    refine ⟨fun h => ?_, h1⟩
    obtain ⟨o, ho⟩ := hin' i h
    rw [h1] at ho; cases ho
  have hND : (ids ++ new).Nodup := List.nodup_append.2 ⟨hnd, an, fun x hx y hy e => (hnew y hy).1 (e ▸ hx)⟩
  have hlk : ∀ k, look os2 k = match posOf (ids ++ new) k with | some p => rs[p]? | none => look st.os k := by
    intro k
    rw [ak k, hsa k]
    cases h1 : posOf new k with
    | some q =>
      have hq := posOf_some h1
      have : posOf (ids ++ new) k = some (ids.length + q) := posOf_get hND (by rw [List.getElem?_append_right (by omega)]; simpa using hq)
      rw [this]; simp [List.getElem?_drop]
    | none =>
      have hn := posOf_none h1
      cases h2 : posOf ids k with
      | some p =>
        have hp := posOf_some h2
        have hlt := (List.getElem?_eq_some_iff.1 hp).1
        have : posOf (ids ++ new) k = some p := posOf_get hND (by rw [List.getElem?_append_left hlt]; exact hp)
        rw [this]; simp [List.getElem?_take_of_lt hlt]
      | none =>
        have hn2 := posOf_none h2
        have : posOf (ids ++ new) k = none := by
          cases h3 : posOf (ids ++ new) k with
          | none => rfl
          | some p =>
            have := List.mem_of_getElem? (posOf_some h3)
            rcases List.mem_append.1 this with h | h
            · exact absurd h hn2
            · exact absurd h hn
        rw [this]
  let G2 : Nat → Option Nat := fun k => match posOf (ids ++ new) k with | some p => G1 p | none => G k
  have hG2 : ∀ (p k : Nat), (ids ++ new)[p]? = some k → G1 p = G2 k := fun p k h => by simp only [G2, posOf_get hND h]
  have hsh2 : ∀ (p k : Nat), (ids ++ new)[p]? = some k → shape (number os') p = shape os2 k := by
    intro p k h
    simp only [shape, look_number, hlk k, posOf_get hND h]
    cases hr : rs[p]? with
    | none =>
      have : rs.length ≤ p := List.getElem?_eq_none_iff.1 hr
      rw [List.getElem?_eq_none (by omega)]
    | some r =>
      obtain ⟨o, ho, hro⟩ := rg p r hr
      obtain ⟨e1, e2⟩ := renO_shape hro
      simp [ho, e1, e2]
  have hGc : ∀ (p k : Nat), ids[p]? = some k → (fun k => (ids[k]?).bind G) p = G k := fun p k h => by simp [h]
  have hshc : ∀ (p k : Nat), ids[p]? = some k → shape (number os) p = shape st.os k := by
    intro p k h
    obtain ⟨o, o', h1, h2, h3⟩ := hin p k h
    obtain ⟨e1, e2⟩ := renO_shape h2
    simp [shape, look_number, h1, h3, e1, e2]
  have hmc : ∀ b, Mine (fun k => (ids[k]?).bind G) (number os) b → ∃ (p k : Nat) (o' : Obj), ids[p]? = some k ∧ look st.os k = some o' ∧ G k = some b := by
    rintro b ⟨p, o, h1, h2⟩
    rw [look_number] at h1
    cases hk : ids[p]? with
    | none => simp [hk] at h2
    | some k =>
      obtain ⟨_, o', _, _, h3⟩ := hin p k hk
      exact ⟨p, k, o', hk, h3, by simpa [hk] using h2⟩
  have hbl : ∀ k o' b, look st.os k = some o' → G k = some b → b < w.heap.size := fun k o' b h1 h2 => by
    obtain ⟨_, cs', E', h3, _⟩ := hs.blk k o' b h1 h2
    exact (Array.getElem?_eq_some_iff.1 h3).1
  -- an object that was not handed over lies as it lay
  have hout : ∀ k o b, posOf (ids ++ new) k = none → look st.os k = some o → G k = some b → w'.heap[b]? = w.heap[b]? := by
    intro k o b hp ho hb
    refine p1.keep b (hbl k o b ho hb) (fun h => ?_)
    obtain ⟨p, k', o', h1, h2, h3⟩ := hmc b h
    have := hs.inj k k' o o' b ho h2 hb h3
    subst this
    exact posOf_none hp (List.mem_append.2 (.inl (List.mem_of_getElem? h1)))
  have hk : Keeps (· ∉ new) w w' I I' G G2 (shape st.os) (shape os2) := by
    refine ⟨fun k h => p3.heap k h, p3.imm, fun id s m hid hsh => ?_⟩
    cases hp : posOf (ids ++ new) id with
    | some p =>
      have hg := posOf_some hp
      have hlt : p < ids.length := by
        rcases Nat.lt_or_ge p ids.length with h | h
        · exact h
        · rw [List.getElem?_append_right h] at hg; exact absurd (List.mem_of_getElem? hg) hid
      have hg' : ids[p]? = some id := by rw [List.getElem?_append_left hlt] at hg; exact hg
      rw [← hsh2 p id hg] at hsh
      obtain ⟨m0, e1, e2, e3⟩ := p3.objs p s m (by show p < os.length; omega) hsh
      rw [hshc p id hg'] at e1
      refine ⟨m0, e1, e2, fun e => ?_⟩
      obtain ⟨e4, e5⟩ := e3 e
      have : G2 id = G1 p := (hG2 p id hg).symm
      rw [this, e4]
      exact ⟨hGc p id hg', fun b hb => e5 b ((hGc p id hg').trans hb)⟩
    | none =>
      have e : shape os2 id = shape st.os id := by simp only [shape, hlk id, hp]
      rw [e] at hsh
      refine ⟨m, hsh, Nat.le_refl _, fun _ => ⟨by simp only [G2, hp], fun b hb => ?_⟩⟩
      cases ho : look st.os id with
      | none => simp [shape, ho] at hsh
      | some o => unfold bsize; rw [hout id o b hp ho hb]; exact Nat.le_refl _
  have hrefs : ∀ {R : Nat → Prop} (x : AT), (∀ i, i ∈ new → x.refs (· ≠ i)) → x.refs (· ∉ new) := by
    intro _ x h
    have hc : ∀ c : AC, (∀ i, i ∈ new → c.refs (· ≠ i)) → c.refs (· ∉ new) := by
      intro c h
      cases c with
      | ptr id n i j => intro hm; exact h id hm rfl
      | arr id n => intro hm; exact h id hm rfl
      | pv p => trivial
      | vp p => trivial
      | any => trivial
    have hl : ∀ l : List AC, (∀ i, i ∈ new → refsL (· ≠ i) l) → refsL (· ∉ new) l := by
      intro l
      induction l with
      | nil => intro _; trivial
      | cons c l ih => intro h; exact ⟨hc c fun i hi => (h i hi).1, ih fun i hi => (h i hi).2⟩
    cases x with
    | val g cs => exact hl cs h
    | tup l =>
      induction l with
      | nil => trivial
      | cons d l ih => obtain ⟨g, cs⟩ := d; exact ⟨hl cs fun i hi => (h i hi).1, ih fun i hi => (h i hi).2⟩
  have hcref : ∀ k o, look st.os k = some o → ∀ (i : Nat) (es : List AC), o.els[i]? = some es → ∀ (j : Nat) (c : AC), es[j]? = some c → c.refs (· ∉ new) := by
    intro k o ho i es he j c hc
    have := hrefs (R := Any) (.val false [c]) (fun q hq => ⟨refsL_get ((fresh_ok (af q hq).1).2.2.2 k o ho i es he) j c hc, trivial⟩)
    exact this.1
  refine ⟨G2, hG2, hsh2, ?_, ⟨p2.gl, fun k o ho hg => ?_, fun k o b ho hg => ?_, fun k k' o o' b h1 h2 g1 g2 => ?_, p2.lt⟩, ⟨hk.weaken fun id hid hm => ?_, fun t x u hx hr => hr.mono hk (hrefs (R := Any) x fun q hq => (fresh_ok (af q hq).1).2.2.1 t x hx), hk⟩⟩
  · refine ⟨p1.size, p1.os, p1.tape, p1.output, fun k hk hm => p1.keep k hk (fun h => ?_), p1.imm, fun k hk => ?_, fun b hb => ?_⟩
    · obtain ⟨p, k', o', h1, h2, h3⟩ := hmc k h
      exact hm ⟨k', o', h2, h3⟩
    · rcases p1.inew k hk with h | h | h
      · exact .inl h
      · obtain ⟨p, k', o', h1, h2, h3⟩ := hmc k h; exact .inr (.inl ⟨k', o', h2, h3⟩)
      · exact .inr (.inr h)
    · obtain ⟨k, o, h1, h2⟩ := hb
      rw [hlk k] at h1
      cases hp : posOf (ids ++ new) k with
      | some p =>
        simp only [G2, hp] at h1 h2
        obtain ⟨o1, h3, _⟩ := rg p o h1
        rcases p1.mnew b ⟨p, o1, by rw [look_number]; exact h3, h2⟩ with h | h
        · obtain ⟨p', k', o', e1, e2, e3⟩ := hmc b h; exact .inl ⟨k', o', e2, e3⟩
        · exact .inr h
      | none =>
        simp only [G2, hp] at h1 h2
        exact .inl ⟨k, o, h1, h2⟩
  · rw [hlk k] at ho
    cases hp : posOf (ids ++ new) k with
    | some p =>
      simp only [G2, hp] at ho hg
      obtain ⟨o1, h3, h4⟩ := rg p o ho
      have := p2.none_ p o1 (by rw [look_number]; exact h3) hg
      have e := (renO_shape h4).2
      rw [this] at e; exact List.length_eq_zero_iff.1 e
    | none =>
      simp only [G2, hp] at ho hg
      exact hs.none_ k o ho hg
  · rw [hlk k] at ho
    cases hp : posOf (ids ++ new) k with
    | some p =>
      simp only [G2, hp] at ho hg
      obtain ⟨o1, h3, h4⟩ := rg p o ho
      obtain ⟨q1, cs, E, q2, q3, q4, q5⟩ := p2.blk p o1 b (by rw [look_number]; exact h3) hg
      obtain ⟨e1, e2⟩ := renO_shape h4
      refine ⟨q1, cs, E, q2, by rw [e1, e2]; exact q3, fun i es he => ?_, fun i es j c he hc => ?_⟩
      · obtain ⟨es1, f1, f2, f3⟩ := renO_els h4 i es he
        rw [← f2, q4 i es1 f1, e1]
      · obtain ⟨es1, f1, f2, f3⟩ := renO_els h4 i es he
        obtain ⟨c1, g1, g2⟩ := f3 j c hc
        obtain ⟨v, hv, hr⟩ := q5 i es1 j c1 f1 g1
        exact ⟨v, by rw [e1]; exact hv, ren_fwd hG2 hsh2 g2 hr⟩
    | none =>
      simp only [G2, hp] at ho hg
      obtain ⟨q1, cs, E, q2, q3, q4, q5⟩ := hs.blk k o b ho hg
      have hmn : ¬ Mine (fun k => (ids[k]?).bind G) (number os) b := fun h => by
        obtain ⟨p, k', o', h1, h2, h3⟩ := hmc b h
        have := hs.inj k k' o o' b ho h2 hg h3
        subst this
        exact posOf_none hp (List.mem_append.2 (.inl (List.mem_of_getElem? h1)))
      refine ⟨fun h => ?_, cs, E, by rw [hout k o b hp ho hg]; exact q2, q3, q4, fun i es j c he hc => ?_⟩
      · rcases p1.inew b h with h | h | h
        · exact q1 h
        · exact hmn h
        · have := hbl k o b ho hg; omega
      · obtain ⟨v, hv, hr⟩ := q5 i es j c he hc
        exact ⟨v, hv, hr.mono hk (hcref k o ho i es he j c hc)⟩
  · rw [hlk k] at h1
    rw [hlk k'] at h2
    cases hp : posOf (ids ++ new) k with
    | some p =>
      simp only [G2, hp] at h1 g1
      obtain ⟨o1, h3, h4⟩ := rg p o h1
      cases hp' : posOf (ids ++ new) k' with
      | some p' =>
        simp only [G2, hp'] at h2 g2
        obtain ⟨o1', h3', h4'⟩ := rg p' o' h2
        have := p2.inj p p' o1 o1' b (by rw [look_number]; exact h3) (by rw [look_number]; exact h3') g1 g2
        subst this
        have e1 := posOf_some hp; have e2 := posOf_some hp'
        rw [e1] at e2; cases e2; rfl
      | none =>
        simp only [G2, hp'] at h2 g2
        exfalso
        rcases p1.mnew b ⟨p, o1, by rw [look_number]; exact h3, g1⟩ with h | h
        · obtain ⟨q, k2, o2, e1, e2, e3⟩ := hmc b h
          have := hs.inj k' k2 o' o2 b h2 e2 g2 e3
          subst this
          exact posOf_none hp' (List.mem_append.2 (.inl (List.mem_of_getElem? e1)))
        · have := hbl k' o' b h2 g2; omega
    | none =>
      simp only [G2, hp] at h1 g1
      cases hp' : posOf (ids ++ new) k' with
      | some p' =>
        simp only [G2, hp'] at h2 g2
        obtain ⟨o1', h3', h4'⟩ := rg p' o' h2
        exfalso
        rcases p1.mnew b ⟨p', o1', by rw [look_number]; exact h3', g2⟩ with h | h
        · obtain ⟨q, k2, o2, e1, e2, e3⟩ := hmc b h
          have := hs.inj k k2 o o2 b h1 e2 g1 e3
          subst this
          exact posOf_none hp (List.mem_append.2 (.inl (List.mem_of_getElem? e1)))
        · have := hbl k o b h1 g1; omega
      | none =>
        simp only [G2, hp'] at h2 g2
        exact hs.inj k k' o o' b h1 h2 g1 g2
  · have := (fresh_ok (af id hm).1).1; have hid : id < 100 := hid; omega

/-- objects under other names -/
theorem ren_in {ids : List Nat} {os : List Obj} (ho : Eqs (renOs ids os) (lookAll st.os ids)) :
    (∀ (p k : Nat), ids[p]? = some k → ∃ o o', os[p]? = some o ∧ renO ids o = some o' ∧ look st.os k = some o') ∧ (∀ (p k : Nat), ids[p]? = some k → shape (number os) p = shape st.os k) := by
  obtain ⟨zs, hz1, hz2⟩ := ho
  obtain ⟨zl, zg⟩ := renOs_get hz1
  obtain ⟨yl, yg⟩ := lookAll_get hz2
  have hin : ∀ (p k : Nat), ids[p]? = some k → ∃ o o', os[p]? = some o ∧ renO ids o = some o' ∧ look st.os k = some o' := by
    intro p k hk
    obtain ⟨o', h1, h2⟩ := yg p k hk
    obtain ⟨o, h3, h4⟩ := zg p o' h2
    exact ⟨o, o', h3, h4, h1⟩
  refine ⟨hin, fun p k h => ?_⟩
  obtain ⟨o, o', h1, h2, h3⟩ := hin p k h
  obtain ⟨e1, e2⟩ := renO_shape h2
  simp [shape, look_number, h1, h3, e1, e2]

theorem Sr.ren {ids : List Nat} {os : List Obj} (hs : Sr GL w I G st.os) (ho : Eqs (renOs ids os) (lookAll st.os ids)) (hnd : ids.Nodup) (hlen : ids.length = os.length) :
    Sr GL w I (fun k => (ids[k]?).bind G) (number os) := by
  obtain ⟨hin, hshc⟩ := ren_in ho
  have hGc : ∀ (p k : Nat), ids[p]? = some k → (fun k => (ids[k]?).bind G) p = G k := fun p k h => by simp [h]
  refine ⟨hs.gl, fun p o hp hg => ?_, fun p o b hp hg => ?_, fun p p' o o' b h1 h2 g1 g2 => ?_, hs.lt⟩
  · rw [look_number] at hp
    have hlt : p < ids.length := by rw [hlen]; exact (List.getElem?_eq_some_iff.1 hp).1
    have hk := List.getElem?_eq_getElem hlt
    obtain ⟨o1, o2, h1, h2, h3⟩ := hin p _ hk
    rw [hp] at h1; cases h1
    simp only [hk, Option.bind_some] at hg
    have := hs.none_ _ o2 h3 hg
    have e := (renO_shape h2).2
    rw [this] at e; exact List.length_eq_zero_iff.1 e.symm
  · rw [look_number] at hp
    have hlt : p < ids.length := by rw [hlen]; exact (List.getElem?_eq_some_iff.1 hp).1
    have hk := List.getElem?_eq_getElem hlt
    obtain ⟨o1, o2, h1, h2, h3⟩ := hin p _ hk
    rw [hp] at h1; cases h1
    simp only [hk, Option.bind_some] at hg
    obtain ⟨q1, cs, E, q2, q3, q4, q5⟩ := hs.blk _ o2 b h3 hg
    obtain ⟨e1, e2⟩ := renO_shape h2
    have hels : ∀ (i : Nat) (es : List AC), o.els[i]? = some es → ∃ es', o2.els[i]? = some es' := by
      intro i es he
      have := (List.getElem?_eq_some_iff.1 he).1
      exact ⟨_, List.getElem?_eq_getElem (by omega)⟩
    refine ⟨q1, cs, E, q2, by rw [← e1, ← e2]; exact q3, fun i es he => ?_, fun i es j c he hc => ?_⟩
    · obtain ⟨es', he'⟩ := hels i es he
      obtain ⟨es1, f1, f2, f3⟩ := renO_els h2 i es' he'
      rw [he] at f1; cases f1
      rw [f2, q4 i es' he', e1]
    · obtain ⟨es', he'⟩ := hels i es he
      obtain ⟨es1, f1, f2, f3⟩ := renO_els h2 i es' he'
      rw [he] at f1; cases f1
      have hj : j < es'.length := by rw [← f2]; exact (List.getElem?_eq_some_iff.1 hc).1
      obtain ⟨c1, g1, g2⟩ := f3 j _ (List.getElem?_eq_getElem hj)
      rw [hc] at g1; cases g1
      obtain ⟨v, hv, hr⟩ := q5 i es' j _ he' (List.getElem?_eq_getElem hj)
      exact ⟨v, by rw [← e1]; exact hv, ren_back hGc hshc g2 hr⟩
  · rw [look_number] at h1 h2
    have hlt : p < ids.length := by rw [hlen]; exact (List.getElem?_eq_some_iff.1 h1).1
    have hlt' : p' < ids.length := by rw [hlen]; exact (List.getElem?_eq_some_iff.1 h2).1
    have hk := List.getElem?_eq_getElem hlt
    have hk' := List.getElem?_eq_getElem hlt'
    obtain ⟨_, o2, _, _, h3⟩ := hin p _ hk
    obtain ⟨_, o2', _, _, h3'⟩ := hin p' _ hk'
    simp only [hk, hk', Option.bind_some] at g1 g2
    have := hs.inj _ _ o2 o2' b h3 h3' g1 g2
    exact (List.getElem_inj (h₀ := hlt) (h₁ := hlt') hnd).1 this

/-- a call by its promise -/
theorem ok_call {f : FuncId} {xs : List Operand} {h : Option Hint} {x : AT} {os2 : Objs} {O : List Prop} (he : evCall GL C st f xs h = some (x, os2, O)) (hO : All O)
    (hC : ∀ f args os res os', C f args os res os' → Sim P GL f args os res os') (hs : Sr GL w I G st.os) (hf : Fr D w I G (shape st.os) N a st.env) :
    Calls P f (xs.map a.eval).toArray w fun e w' => ∃ v I' G2, e = .returned v ∧ Ext w w' I I' (Mine G st.os) (Mine G2 os2) ∧ Sr GL w' I' G2 os2 ∧ ATr w' I' G2 (shape os2) x v ∧ Moves (makes h) st os2 w w' I I' G G2 := by
  have main : ∀ {ids new : List Nat} {args : List AT} {os os' rs : List Obj} {res : AT} {os2 : Objs}, (opds GL st xs).bind (unAs ids) = some args → (lookAll st.os ids).bind (unOs ids) = some os → renA (ids ++ new) res = some x →
      renOs (ids ++ new) os' = some rs → ids.length ≤ os'.length → ids.length ≤ 100 → addAll st (setAll st.os ids (rs.take ids.length)) new (rs.drop ids.length) = some os2 → Sim P GL f args os res os' → ids.Nodup →
      Calls P f (xs.map a.eval).toArray w fun e w' => ∃ v I' G2, e = .returned v ∧ Ext w w' I I' (Mine G st.os) (Mine G2 os2) ∧ Sr GL w' I' G2 os2 ∧ ATr w' I' G2 (shape os2) x v ∧ Moves new st os2 w w' I I' G G2 := by
    intro ids new args os os' rs res os2 ha ho hr hrs hle h100 hadd hsim hnd
    obtain ⟨as, ha1, ha2⟩ := bind_some ha
    obtain ⟨zs, hz1, hz2⟩ := bind_some ho
    obtain ⟨ho1, ho2⟩ := unOs_ren hz2
    have ho' : Eqs (renOs ids os) (lookAll st.os ids) := ⟨zs, ho1, hz1⟩
    obtain ⟨yl, yg⟩ := lookAll_get hz1
    have hlen : ids.length = os.length := by omega
    obtain ⟨hin, hshc⟩ := ren_in ho'
    have hGc : ∀ (p k : Nat), ids[p]? = some k → (fun k => (ids[k]?).bind G) p = G k := fun p k h => by simp [h]
    have hsc := hs.ren ho' hnd hlen
    have hargs := renAs_back hGc hshc (unAs_ren ha2) (opds_r hs hf ha1)
    refine Calls.imp (hsim w I (fun k => (ids[k]?).bind G) (xs.map a.eval) hsc hargs) ?_
    rintro e w' ⟨v, I', G1, rfl, p1, p2, pr, p3⟩
    obtain ⟨G2, q1, q2, q3, q4, q5⟩ := back_home hs ho' hnd hlen hle h100 hrs hadd p1 p2 p3
    exact ⟨v, I', G2, rfl, q3, q4, renA_fwd q1 q2 hr pr, q5⟩
  unfold evCall at he
  split at he
  · rename_i ids res os' new
    split at he
    · rename_i args os r rs ha ho hr hrs
      split at he
      · rename_i os3 hle h100 hadd
        cases he
        refine Calls.imp (main ha ho hr hrs (Nat.le_of_ble_eq_true hle) (Nat.le_of_ble_eq_true h100) hadd (hC _ _ _ _ _ hO.1) hO.2.1) ?_
        rintro e w' ⟨v, I', G2, h1, h2, h3, h4, h5⟩
        refine ⟨v, I', G2, h1, h2, h3, h4, ?_⟩
        exact h5
      · cases he
    · cases he
  · rename_i ids res
    split at he
    · rename_i args os r ha ho hr
      split at he
      · rename_i h100
        cases he
        obtain ⟨zs, hz1, hz2⟩ := bind_some ho
        obtain ⟨ho1, ho2⟩ := unOs_ren hz2
        obtain ⟨yl, yg⟩ := lookAll_get hz1
        have hnd := hO.2.1
        have htl : ids.length = zs.length := by omega
        have hpres : ∀ i, i ∈ ids → ∃ o, look st.os i = some o := fun i hi => by
          obtain ⟨p, hp⟩ := List.mem_iff_getElem?.1 hi
          obtain ⟨o, h, _⟩ := yg p i hp
          exact ⟨o, h⟩
        have hlk : ∀ k, look (setAll st.os ids zs) k = look st.os k := by
          intro k
          rw [look_setAll ids zs st.os hnd htl hpres k]
          cases hp : posOf ids k with
          | none => rfl
          | some p =>
            obtain ⟨o, h1, h2⟩ := yg p k (posOf_some hp)
            rw [h1]; exact h2
        have hadd : addAll st (setAll st.os ids (zs.take ids.length)) [] (zs.drop ids.length) = some (setAll st.os ids zs) := by
          rw [htl, List.take_length, List.drop_length]; rfl
        refine Calls.imp (main (new := []) (os' := os) (rs := zs) ha ho (by simpa using hr) (by simpa using ho1) (by omega) (Nat.le_of_ble_eq_true h100) hadd (hC _ _ _ _ _ hO.1) hnd) ?_
        rintro e w' ⟨v, I', G2, h1, h2, h3, h4, h5⟩
        have hsh : shape (setAll st.os ids zs) = shape st.os := by funext k; simp only [shape, hlk]
        refine ⟨v, I', G2, h1, ⟨h2.size, h2.os, h2.tape, h2.output, h2.keep, h2.imm, h2.inew, fun b ⟨k, o, q1, q2⟩ => h2.mnew b ⟨k, o, by rw [hlk]; exact q1, q2⟩⟩, h3.congr fun k => (hlk k).symm, by rw [← hsh]; exact h4, ?_⟩
        refine ⟨by rw [← hsh]; rw [hsh]; have := h5.keeps; rw [hsh] at this; exact this, fun t y u hy hr => by rw [← hsh]; exact h5.env t y u hy hr, by have := h5.any_; rw [hsh] at this; exact this⟩
      · cases he
    · cases he
  · cases he
end Go.AL
