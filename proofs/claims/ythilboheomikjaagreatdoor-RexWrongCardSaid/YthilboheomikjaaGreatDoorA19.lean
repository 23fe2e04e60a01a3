/- The region whose order Go leaves open: the rule. -/
import Derived.Test.YthilboheomikjaaGreatDoorA18
namespace Go.AL
variable {D : List Deferred}
set_option linter.unusedVariables false
set_option linter.unusedSimpArgs false
variable {P : Program} {GL : List (Nat × List PV)} {C : Spec} {N : Nat}

theorem least_not {n : Nat} {listed : Array Bool} (hsz : listed.size = n) (h : ∃ j, j < n ∧ listed.getD j true = false) : ∃ j, j < n ∧ listed.getD j true = false ∧ ∀ i, i < j → listed.getD i true = true := by
  obtain ⟨j, hj⟩ := h
  induction j using Nat.strongRecOn with
  | _ j ih =>
    by_cases hl : ∃ i, i < j ∧ listed.getD i true = false
    · obtain ⟨i, h1, h2⟩ := hl
      exact ih i h1 ⟨by omega, h2⟩
    · refine ⟨j, hj.1, hj.2, fun i hi => ?_⟩
      cases hb : listed.getD i true with
      | true => rfl
      | false => exact absurd ⟨i, hi, hb⟩ hl

section
variable {ops : List Oper} {hs : List (Nat × Hint)} {f : Nat → S} {x : Nat → AT} {st : S} {w0 : World} {I0 : Nat → Prop} {G0 : Nat → Option Nat}

def Listed (n : Nat) (listed : Array Bool) (i : Nat) : Prop := i < n ∧ listed.getD i false = true

theorem set_listed {n : Nat} {listed : Array Bool} (hsz : listed.size = n) {j : Nat} (hj : j < n) (i : Nat) : Listed n (listed.setIfInBounds j true) i ↔ (Listed n listed i ∨ i = j) := by
  unfold Listed
  by_cases e : i = j
  · subst e
    have : (listed.setIfInBounds i true).getD i false = true := by
      rw [Array.getD_eq_getD_getElem?, Array.getElem?_setIfInBounds_self_of_lt (by omega)]; rfl
    simp [this, hj]
  · have : (listed.setIfInBounds j true).getD i false = listed.getD i false := by
      rw [Array.getD_eq_getD_getElem?, Array.getElem?_setIfInBounds_ne (Ne.symm e), ← Array.getD_eq_getD_getElem?]
    simp [this, e]

theorem any_run (hC : Sound P GL C) (h0 : f 0 = st) (hst : ∀ (k : Nat) (o : Oper), ops[k]? = some o → StepOk P GL C N ops hs f x k o) (hord : Ordered GL ops hs f x st) {Q : Exit → Act → World → Prop}
    (hQ : ∀ w I G k a, Inv D GL N ops hs f x st w0 I0 G0 (fun i => i < ops.length) k w I G a → Q .normal a w) :
    ∀ (fuel : Nat) (listed : Array Bool) (k : Nat) (w : World) (I : Nat → Prop) (G : Nat → Option Nat) (a : Act), listed.size = ops.length → (listed.toList.filter (fun b => !b)).length ≤ fuel →
      Inv D GL N ops hs f x st w0 I0 G0 (Listed ops.length listed) k w I G a → wpAny P .any ops.toArray Q fuel listed a w := by
  have hdone : ∀ (listed : Array Bool) (k : Nat) (w : World) (I : Nat → Prop) (G : Nat → Option Nat) (a : Act), listed.size = ops.length → Inv D GL N ops hs f x st w0 I0 G0 (Listed ops.length listed) k w I G a →
      Region.ready .any ops.toArray listed = [] → Q .normal a w := by
    intro listed k w I G a hsz inv hr
    have hall : ∀ i, i < ops.length → listed.getD i true = true := by
      intro i hi
      cases hb : listed.getD i true with
      | true => rfl
      | false =>
        exfalso
        obtain ⟨j, h1, h2, h3⟩ := least_not hsz ⟨i, hi, hb⟩
        have hmem : j ∈ Region.ready .any ops.toArray listed := by
          rw [mem_ready]
          refine ⟨h2, ops[j], by simp [h1], fun e he hbd => ?_⟩
          have hp : e.on ∈ preds ops[j] := List.mem_map.2 ⟨e, List.mem_filter.2 ⟨by simpa using he, hbd⟩, rfl⟩
          have hlt := hord.low j _ (List.getElem?_eq_getElem h1) _ hp
          have := h3 e.on hlt
          rw [Array.getD_eq_getD_getElem?, Array.getElem?_eq_getElem (by omega)] at this ⊢
          exact this
        rw [hr] at hmem; cases hmem
    have hL : Listed ops.length listed = fun i => i < ops.length := by
      funext i
      apply propext
      refine ⟨fun h => h.1, fun h => ⟨h, ?_⟩⟩
      have := hall i h
      rw [Array.getD_eq_getD_getElem?, Array.getElem?_eq_getElem (by omega)] at this ⊢
      exact this
    rw [hL] at inv
    exact hQ w I G k a inv
  intro fuel
  induction fuel with
  | zero =>
    intro listed k w I G a hsz hc inv
    have hr : Region.ready .any ops.toArray listed = [] := by
      apply List.eq_nil_iff_forall_not_mem.2
      intro j hj
      rw [mem_ready] at hj
      obtain ⟨h1, o, h2, _⟩ := hj
      have hlt : j < ops.length := by
        rw [List.getElem?_toArray] at h2; exact (List.getElem?_eq_some_iff.1 h2).1
      have hmem : false ∈ listed.toList := by
        rw [Array.getD_eq_getD_getElem?, Array.getElem?_eq_getElem (by omega)] at h1
        have : listed[j]'(by omega) = false := h1
        rw [← this]; exact Array.mem_toList_iff.2 (Array.getElem_mem _)
      have : 0 < (listed.toList.filter (fun b => !b)).length := List.length_pos_of_mem (List.mem_filter.2 ⟨hmem, rfl⟩)
      omega
    exact ⟨hr, hdone listed k w I G a hsz inv hr⟩
  | succ fuel ih =>
    intro listed k w I G a hsz hc inv
    refine ⟨fun hr => hdone listed k w I G a hsz inv hr, fun j hj => ?_⟩
    rw [mem_ready] at hj
    obtain ⟨h1, o, h2, h3⟩ := hj
    rw [List.getElem?_toArray] at h2
    have hlt : j < ops.length := (List.getElem?_eq_some_iff.1 h2).1
    have hjl : listed[j]'(by omega) = false := by
      rw [Array.getD_eq_getD_getElem?, Array.getElem?_eq_getElem (by omega)] at h1; exact h1
    refine inv_step hC h0 hst hord inv h2 (fun h => ?_) (fun p hp => ?_) fun a' w' I' G' k' inv' => ?_
    · have := h.2
      rw [Array.getD_eq_getD_getElem?, Array.getElem?_eq_getElem (by omega)] at this
      have h' : listed[j]'(by omega) = true := this
      rw [hjl] at h'; cases h'
    · obtain ⟨e, he, rfl⟩ := List.mem_map.1 hp
      obtain ⟨he1, he2⟩ := List.mem_filter.1 he
      refine ⟨?_, h3 e (by simpa using he1) he2⟩
      have := hord.low j o h2 _ hp
      omega
    · refine ih (listed.setIfInBounds j true) k' w' I' G' a' (by simp [hsz]) ?_ ?_
      · have : (listed.setIfInBounds j true).toList = listed.toList.set j true := by simp
        rw [this]
        have key : ∀ (l : List Bool) (i : Nat), l[i]? = some false → ((l.set i true).filter (fun b => !b)).length + 1 = (l.filter (fun b => !b)).length := by
          intro l
          induction l with
          | nil => intro i h; simp at h
          | cons b l ihl =>
            intro i h
            cases i with
            | zero => simp at h; subst h; simp
            | succ i =>
              have := ihl i (by simpa using h)
              simp only [List.set_cons_succ, List.filter_cons]
              cases b <;> simp <;> omega
        have := key listed.toList j (by rw [Array.getElem?_toList, Array.getElem?_eq_getElem (by omega), hjl])
        omega
      · have : Listed ops.length (listed.setIfInBounds j true) = fun i => Listed ops.length listed i ∨ i = j := by
          funext i; exact propext (set_listed hsz hlt i)
        rw [this]; exact inv'

/-- whatever order is taken -/
theorem draw_wp {st' : S} {O : List Prop} {w : World} {I : Nat → Prop} {G : Nat → Option Nat} {a : Act} {Q : Exit → Act → World → Prop} (hC : Sound P GL C) (hord : drawOk GL ops hs (traceL P GL C N ops hs 0 ops st) st = true) (he : evalOps P GL C N ops hs 0 ops st = some (st', O)) (hO : All O)
    (hsr : Sr GL w I G st.os) (hf : Fr D w I G (shape st.os) N a st.env)
    (hQ : ∀ w' I' G' a', Ext w w' I I' (Mine G st.os) (Mine G' st'.os) → Keeps (· < 100) w w' I I' G G' (shape st.os) (shape st'.os) → Sr GL w' I' G' st'.os → Fr D w' I' G' (shape st'.os) N a' st'.env → Q .normal a' w') :
    wpAny P .any ops.toArray Q ops.length (Array.replicate ops.length false) a w := by
  obtain ⟨f, x, h0, hn, hst⟩ := trace_of ops 0 st st' O he hO
  have hst' : ∀ (k : Nat) (o : Oper), ops[k]? = some o → StepOk P GL C N ops hs f x k o := fun k o h => by simpa using (hst k o h).1
  have hord' := drawOk_spec (f := f) (x := x) (fun k hk => by have := (hst k _ (List.getElem?_eq_getElem hk)).2; simpa using this) hord
  rw [Nat.zero_add] at hn
  refine any_run (D := D) (w0 := w) (I0 := I) (G0 := G) (f := f) (x := x) (st := st) hC h0 hst' hord' ?_ ops.length (Array.replicate ops.length false) 0 w I G a (by simp) (by
    have : (Array.replicate ops.length false).toList = List.replicate ops.length false := by simp
    rw [this]; exact Nat.le_trans (List.length_filter_le _ _) (by simp)) ?_
  · intro w' I' G' k a' inv
    have hos : (f ops.length).os = (f k).os := by
      obtain ⟨d, hd⟩ := Nat.exists_eq_add_of_le inv.cut.1
      rw [hd]
      refine os_const hst' d k (by omega) (fun i o q1 q2 q3 => ?_)
      rcases Nat.lt_or_ge 1 (kindOp o (look hs i)) with q4 | q4
      · have := (inv.cut.2 i o q3 q4).1 (List.getElem?_eq_some_iff.1 q3).1
        omega
      · exact q4
    rw [hn] at hos
    refine hQ w' I' G' a' (by rw [hos]; exact inv.ext) (by rw [hos]; exact inv.keeps) (by rw [hos]; exact inv.sr) ⟨inv.size, inv.defers, fun t y hy => ?_⟩
    rw [hos]
    rw [← hn] at hy
    rcases env_look h0 hst' ops.length (Nat.le_refl _) t y hy with ⟨i, o, h1, h2, h3, h4, h5⟩ | ⟨h1, h2⟩
    · subst h4
      refine inv.wrote i o t h2 h1 h3 (fun i' o' q1 q2 q3 => ?_)
      rcases Nat.lt_or_ge i i' with h | h
      · exact absurd q3 (h5 i' o' h q2 q1)
      · exact h
    · exact inv.was t y (fun i o q1 q2 => h1 i o q2 q1) h2
  · have hno : ∀ i, ¬ Listed ops.length (Array.replicate ops.length false) i := fun i h => by
      have := h.2
      rw [Array.getD_eq_getD_getElem?, Array.getElem?_replicate] at this
      split at this <;> cases this
    refine ⟨fun j o _ h => absurd h (hno j), ⟨Nat.zero_le _, fun i o _ _ => ⟨fun h => absurd h (hno i), fun h => by omega⟩⟩, by rw [h0]; exact .refl _ _ _, by rw [h0]; exact .refl _ _ _ _ _, by rw [h0]; exact hsr, hf.size, hf.defers,
      fun i o t _ h => absurd h (hno i), fun t y _ hy => by rw [h0]; exact hf.slot t y hy⟩
end

theorem sr_drew {w : World} {I : Nat → Prop} {G : Nat → Option Nat} {os : Objs} (h : Sr GL w I G os) : Sr GL w.drew I G os ∧ Keeps Any w w.drew I I G G (shape os) (shape os) :=
  h.move (fun _ h => h) (fun _ _ => rfl) (Nat.le_refl _) (fun _ h => .inl h) h.lt

theorem WA.regD {st : S} {F : Exit → S → Prop} {id : Nat} {l : List Oper} (hm : P.follows .mixedOrders = true) (ts ids : List Nat) (hs_ : List (Nat × Hint)) {env' : List (Nat × AT)} {os' : Objs} {O : List Prop}
    (hd : drawOk GL l hs_ (traceL P GL C N l hs_ 0 l st) st = true) (he : (evalOps P GL C N l hs_ 0 l st).map (fun p => (pickE p.1.env ts, pickE p.1.os ids, p.2)) = some (env', os', O)) (hC : Sound P GL C) (hO : All O) (h : F .normal ⟨env', os'⟩) :
    WA P GL N (.region id l.toArray true) st F := fun D w0 I0 G0 os0 w I G a h1 h2 h3 h4 => by
  obtain ⟨⟨s, O'⟩, h5, h6⟩ := map_some he
  cases h6
  obtain ⟨s0, k0⟩ := sr_drew h3
  have f0 : Fr D w.drew I G (shape st.os) N a st.env := ⟨h4.size, h4.defers, fun t x hx => ⟨(h4.slot t x hx).1, (h4.slot t x hx).2.mono k0 (AT.refs_any x)⟩⟩
  refine wp_region_any hm ?_
  show wpAny P .any l.toArray _ l.toArray.size (Array.replicate l.toArray.size false) a w.drew
  rw [List.size_toArray]
  refine draw_wp hC hd h5 hO s0 f0 fun w' I' G' a' e k sr f => ?_
  have hsub : ∀ k o, look (pickE s.os ids) k = some o → look s.os k = some o := fun k o => look_pickE
  obtain ⟨s1, k1⟩ := sr.sub hsub
  have e' := (h1.trans (Ext.drew w I (Mine G st.os))).trans e
  exact ⟨I', G', _, ⟨e'.size, e'.os, e'.tape, e'.output, e'.keep, e'.imm, e'.inew, fun b ⟨k, o, q1, q2⟩ => e'.mnew b ⟨k, o, hsub k o q1, q2⟩⟩, ((h2.trans (k0.weaken fun _ _ => trivial)).trans k).trans (k1.weaken fun _ _ => trivial), s1,
    ⟨f.size, f.defers, fun t x hx => ⟨(f.slot t x (look_pickE hx)).1, (f.slot t x (look_pickE hx)).2.mono k1 (AT.refs_any x)⟩⟩, h⟩
end Go.AL
