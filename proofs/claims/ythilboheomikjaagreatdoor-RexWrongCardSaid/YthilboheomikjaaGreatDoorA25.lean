/- A variable with an array of its own becomes plain data; a call that is handed a nil slice to grow. -/
import Derived.Test.YthilboheomikjaaGreatDoorA24
namespace Go.AL
variable {D : List Deferred}
set_option linter.unusedVariables false
set_option linter.unusedSimpArgs false
variable {P : Program} {GL : List (Nat × List PV)} {st : S} {w : World} {I : Nat → Prop} {G : Nat → Option Nat} {N : Nat} {F : Exit → S → Prop} {code : Code}

theorem dropO_sub {os : Objs} {id k : Nat} {o : Obj} (h : look (dropO os id) k = some o) : look os k = some o := by
  rw [look_dropO] at h; split at h
  · cases h
  · exact h

/-- what an object lies on never changes any more -/
theorem freeze_obj {os : Objs} {id : Nat} {o : Obj} (h3 : Sr GL w I G os) (ho : look os id = some o) :
    Sr GL w (fun b => I b ∨ G id = some b) G (dropO os id) ∧ Keeps Any w w I (fun b => I b ∨ G id = some b) G G (shape os) (shape (dropO os id)) := by
  obtain ⟨s1, k1⟩ := h3.sub (os' := dropO os id) fun k o h => dropO_sub h
  have k2 : Keeps Any w w I (fun b => I b ∨ G id = some b) G G (shape (dropO os id)) (shape (dropO os id)) := ⟨fun _ _ => rfl, fun _ h => .inl h, fun i s m _ hs => ⟨m, hs, Nat.le_refl _, fun _ => ⟨rfl, fun _ _ => Nat.le_refl _⟩⟩⟩
  refine ⟨⟨fun g ps hg => ?_, s1.none_, fun k o b q1 q2 => ?_, s1.inj, fun k hk => ?_⟩, k1.trans k2⟩
  · obtain ⟨r1, r2⟩ := h3.gl g ps hg
    exact ⟨.inl r1, fun j p hp => by obtain ⟨u, hu, hr⟩ := r2 j p hp; exact ⟨u, hu, hr.mono (fun _ _ => rfl) (fun _ h => .inl h)⟩⟩
  · obtain ⟨r1, cs, E, r2, r3, r4, r5⟩ := s1.blk k o b q1 q2
    refine ⟨fun h => ?_, cs, E, r2, r3, r4, fun i es j c e1 e2 => ?_⟩
    · rcases h with h | h
      · exact r1 h
      · have := h3.inj k id o _ b (dropO_sub q1) ho q2 h
        subst this
        rw [look_dropO, if_pos rfl] at q1; cases q1
    · obtain ⟨v, hv, hr⟩ := r5 i es j c e1 e2
      exact ⟨v, hv, hr.mono k2 (AC.refs_any c)⟩
  · rcases hk with hk | hk
    · exact h3.lt k hk
    · obtain ⟨_, cs, E, hh, _⟩ := h3.blk id _ k ho hk
      exact (Array.getElem?_eq_some_iff.1 hh).1

theorem freezeM_core {os : Objs} {id a s n : Nat} {els : List (List PV)} {p : PV} {v : Value} (h3 : Sr GL w I G os) (hne : id ≠ a) (hb : look os id = some (.box [.arr a n, .pv p])) (ha : look os a = some (.arr s els)) (hn : n = els.length)
    (hx : ATr w I G (shape os) (.val false [.ptr id 1 0 0]) v) :
    ∃ I' : Nat → Prop, Sr GL w I' G (dropO (dropO os a) id) ∧ ATr w I' G (shape (dropO (dropO os a) id)) (.val false [.vp [.sl els, p]]) v ∧ Keeps Any w w I I' G G (shape os) (shape (dropO (dropO os a) id)) ∧ ∀ k, I' k → I k ∨ G id = some k ∨ G a = some k := by
  -- the variable's block
  have hsh := shape_look hb
  obtain ⟨⟨A, hA⟩, hp⟩ := atr_one hx
  have hp := (hp _ _ hsh).2 rfl
  cases hG : G id with
  | none => have := h3.none_ id _ hb hG; simp [Obj.els] at this
  | some b =>
    have hv := hp b hG
    obtain ⟨q1, cs, E, q2, q3, q4, q5⟩ := h3.blk id _ b hb hG
    obtain ⟨u, hu, hur⟩ := q5 0 [.arr a n, .pv p] 0 (.arr a n) rfl rfl
    obtain ⟨u1, hu1, hur1⟩ := q5 0 [.arr a n, .pv p] 1 (.pv p) rfl rfl
    obtain ⟨I1, s1, x1, k1, hI1⟩ := freeze_core h3 ha hn (v := u) ⟨_, rfl, hur⟩
    have hb' : look (dropO os a) id = some (.box [.arr a n, .pv p]) := by rw [look_dropO, if_neg hne]; exact hb
    obtain ⟨s2, k2⟩ := freeze_obj s1 hb'
    refine ⟨_, s2, ⟨_, rfl, b, 0, by simpa using hv, .inr hG, fun j q hq => ?_⟩, k1.trans k2, fun k hk => ?_⟩
    · match j, hq with
      | 0, hq =>
        cases hq
        refine ⟨u, ?_, PVr.mono (atr_one x1) k2.heap k2.imm⟩
        simp only [World.cell?, q2]; simpa using hu
      | 1, hq =>
        cases hq
        refine ⟨u1, ?_, PVr.mono hur1 (k1.trans k2).heap (k1.trans k2).imm⟩
        simp only [World.cell?, q2]; simpa using hu1
    · rcases hk with hk | hk
      · rcases hI1 k hk with h | h
        · exact .inl h
        · exact .inr (.inr h)
      · exact .inr (.inl (hG.symm.trans hk))

/-- a variable with an array of its own becomes plain data -/
theorem WA.freezeM (id a t : Nat) {s n : Nat} {els : List (List PV)} {p : PV} (ht : look st.env t = some (.val false [.ptr id 1 0 0])) (hb : look st.os id = some (.box [.arr a n, .pv p])) (ha : look st.os a = some (.arr s els)) (hn : n = els.length)
    (hne : id ≠ a) (h : WA P GL N code ⟨(t, .val false [.vp [.sl els, p]]) :: st.env, dropO (dropO st.os a) id⟩ F) : WA P GL N code st F := fun D w0 I0 G0 os0 w I G c h1 h2 h3 h4 => by
  obtain ⟨I', s2, x2, k3, hI⟩ := freezeM_core h3 hne hb ha hn (h4.slot t _ ht).2
  refine h D w0 I0 G0 os0 w I' G c ⟨h1.size, h1.os, h1.tape, h1.output, h1.keep, fun k hk => k3.imm k (h1.imm k hk), fun k hk => ?_, fun b ⟨k, o, q1, q2⟩ => h1.mnew b ⟨k, o, dropO_sub (dropO_sub q1), q2⟩⟩ (h2.trans (k3.weaken fun _ _ => trivial)) s2
    ⟨h4.size, h4.defers, fun t' x hx => ?_⟩
  · have hm : ∀ k, Mine G st.os k → I0 k ∨ Mine G0 os0 k ∨ w0.heap.size ≤ k := fun k hk => by
      rcases h1.mnew k hk with h | h
      · exact .inr (.inl h)
      · exact .inr (.inr h)
    rcases hI k hk with hk | hk | hk
    · exact h1.inew k hk
    · exact hm k ⟨id, _, hb, hk⟩
    · exact hm k ⟨a, _, ha, hk⟩
  · rw [look_cons] at hx
    split at hx
    · rename_i e; subst e; cases hx
      exact ⟨(h4.slot t _ ht).1, x2⟩
    · exact ⟨(h4.slot t' x hx).1, (h4.slot t' x hx).2.mono k3 (AT.refs_any x)⟩

def NoRef (_ : Nat) : Prop := False

theorem keeps_noref {w' : World} {I' : Nat → Prop} {G' : Nat → Option Nat} {sh sh' : Sh} (hh : ∀ k, I k → w'.heap[k]? = w.heap[k]?) (hi : ∀ k, I k → I' k) : Keeps NoRef w w' I I' G G' sh sh' := ⟨hh, hi, fun _ _ _ h => h.elim⟩

/-- a nil slice handed over to be grown: what comes back is plain data -/
theorem sim_nilnew {f : FuncId} {p0 p3 : AT} {n m s1 s2 : Nat} {els els' l' : List (List PV)} (hm : m = l'.length) (h0 : p0.refs NoRef) (h3 : p3.refs NoRef)
    (h : Sim P GL f [p0, .val false [.arr 0 0], .val false [.arr 1 n], p3] [.arr s1 [], .arr s2 els] (.val false [.arr 0 m]) [.arr s1 l', .arr s2 els']) :
    Sim P GL f [p0, one .nils, .val false [.arr 0 n], p3] [.arr s2 els] (one (.sl l')) [.arr s2 els'] := by
  intro w I G vs hs ha
  obtain ⟨v0, _, rfl, a0, v1, _, rfl, a1, v2, _, rfl, a2, v3, _, rfl, a3, rfl⟩ := ha
  let G2 : Nat → Option Nat := fun k => if k = 1 then G 0 else none
  have l1 : ∀ k, look (number [Obj.arr s2 els]) k = if k = 0 then some (Obj.arr s2 els) else none := fun k => by
    rw [look_number]; cases k with | zero => rfl | succ k => rfl
  have l2 : ∀ (x y : Obj) k, look (number [x, y]) k = if k = 0 then some x else if k = 1 then some y else none := fun x y k => by
    rw [look_number]; match k with | 0 => rfl | 1 => rfl | k + 2 => rfl
  have sr2 : Sr GL w I G2 (number [.arr s1 [], .arr s2 els]) := by
    refine ⟨hs.gl, fun k o q g => ?_, fun k o b q g => ?_, fun k k' o o' b q1 q2 g1 g2 => ?_, hs.lt⟩
    · rw [l2] at q
      by_cases e : k = 0
      · rw [if_pos e] at q; cases q; rfl
      · rw [if_neg e] at q
        by_cases e1 : k = 1
        · rw [if_pos e1] at q; cases q; subst e1
          exact hs.none_ 0 _ (by rw [l1]; rfl) g
        · rw [if_neg e1] at q; cases q
    · rw [l2] at q
      by_cases e1 : k = 1
      · subst e1
        cases q
        obtain ⟨r1, cs, E, r2, r3, r4, r5⟩ := hs.blk 0 _ b (by rw [l1]; rfl) g
        refine ⟨r1, cs, E, r2, r3, r4, fun i es j c z1 z2 => ?_⟩
        obtain ⟨v, hv, hr⟩ := r5 i es j c z1 z2
        refine ⟨v, hv, ?_⟩
        simp only [Obj.els, List.getElem?_map] at z1
        cases hq : els[i]? with
        | none => rw [hq] at z1; cases z1
        | some ps => rw [hq] at z1; cases z1; obtain ⟨p, _, rfl⟩ := pvL_get z2; exact hr
      · simp only [G2, if_neg e1] at g; cases g
    · have e1 : k = 1 := by
        by_cases e : k = 1
        · exact e
        · simp only [G2, if_neg e] at g1; cases g1
      have e2 : k' = 1 := by
        by_cases e : k' = 1
        · exact e
        · simp only [G2, if_neg e] at g2; cases g2
      rw [e1, e2]
  have k0 : ∀ {I' G' sh sh'}, (∀ k, I k → I' k) → Keeps NoRef w w I I' G G' sh sh' := fun hi => keeps_noref (fun _ _ => rfl) hi
  have nil1 : v1 = .slice none 0 0 := by
    obtain ⟨c, hc, hr⟩ := a1; cases hc; cases hr; rfl
  subst nil1
  have as2 : As w I G2 (shape (number [.arr s1 [], .arr s2 els])) [p0, .val false [.arr 0 0], .val false [.arr 1 n], p3] [v0, .slice none 0 0, v2, v3] := by
    refine ⟨v0, _, rfl, a0.mono (k0 fun _ h => h) h0, _, _, rfl, ⟨_, rfl, ⟨_, _, rfl⟩, fun s m hsm => ⟨Nat.zero_le _, fun _ => rfl⟩⟩, v2, _, rfl, ⟨_, rfl, ?_⟩, v3, _, rfl, a3.mono (k0 fun _ h => h) h3, rfl⟩
    obtain ⟨x1, x2⟩ := atr_one a2
    refine ⟨x1, fun s m hsm => ?_⟩
    have e : shape (number [Obj.arr s2 els]) 0 = some (s, m) := by
      simp only [shape, l2, l1] at hsm ⊢; exact hsm
    exact x2 s m e
  refine Calls.imp (h w I G2 _ sr2 as2) ?_
  rintro e w' ⟨v, I', G', rfl, e1, t1, x1, c1⟩
  have hl0 : look (number [Obj.arr s1 l', Obj.arr s2 els']) 0 = some (.arr s1 l') := by rw [l2]; rfl
  have hl1 : look (number [Obj.arr s1 l', Obj.arr s2 els']) 1 = some (.arr s2 els') := by rw [l2]; rfl
  obtain ⟨I2, t2, x2, c2, hI⟩ := freeze_core t1 hl0 hm x1
  let G3 : Nat → Option Nat := fun k => if k = 0 then G' 1 else none
  have hd1 : look (dropO (number [Obj.arr s1 l', Obj.arr s2 els']) 0) 1 = some (.arr s2 els') := by rw [look_dropO, if_neg (by omega)]; exact hl1
  have m1 : ∀ k, Mine G2 (number [.arr s1 [], .arr s2 els]) k → Mine G (number [.arr s2 els]) k := fun k ⟨id, o, q1, q2⟩ => by
    by_cases e : id = 1
    · subst e; exact ⟨0, _, by rw [l1]; rfl, q2⟩
    · simp only [G2, if_neg e] at q2; cases q2
  have m2 : ∀ k, Mine G (number [.arr s2 els]) k → Mine G2 (number [.arr s1 [], .arr s2 els]) k := fun k ⟨id, o, q1, q2⟩ => by
    rw [l1] at q1
    by_cases e : id = 0
    · subst e; exact ⟨1, _, by rw [l2]; rfl, q2⟩
    · rw [if_neg e] at q1; cases q1
  have l3 : ∀ k, look (number [Obj.arr s2 els']) k = if k = 0 then some (Obj.arr s2 els') else none := fun k => by
    rw [look_number]; cases k with | zero => rfl | succ k => rfl
  have m3 : ∀ k, Mine G3 (number [.arr s2 els']) k → Mine G' (number [Obj.arr s1 l', Obj.arr s2 els']) k := fun k ⟨id, o, q1, q2⟩ => by
    rw [l3] at q1
    by_cases e : id = 0
    · subst e; exact ⟨1, _, hl1, q2⟩
    · rw [if_neg e] at q1; cases q1
  have mm : ∀ k, Mine G' (number [Obj.arr s1 l', Obj.arr s2 els']) k → Mine G (number [.arr s2 els]) k ∨ w.heap.size ≤ k := fun k hk => (e1.mnew k hk).elim (fun h => .inl (m1 k h)) .inr
  refine ⟨v, I2, G3, rfl, ⟨e1.size, e1.os, e1.tape, e1.output, fun k h h' => e1.keep k h fun q => h' (m1 k q), fun k hk => c2.imm k (e1.imm k hk), fun k hk => ?_, fun k hk => mm k (m3 k hk)⟩, ?_, x2.mono (keeps_noref (fun _ _ => rfl) fun _ h => h) ⟨trivial, trivial⟩, ?_⟩
  · rcases hI k hk with h | h
    · rcases e1.inew k h with h | h | h
      · exact .inl h
      · exact .inr (.inl (m1 k h))
      · exact .inr (.inr h)
    · exact .inr (mm k ⟨0, _, hl0, h⟩)
  · refine ⟨t2.gl, fun k o q g => ?_, fun k o b q g => ?_, fun k k' o o' b q1 q2 g1 g2 => ?_, t2.lt⟩
    · rw [l3] at q
      by_cases e : k = 0
      · rw [if_pos e] at q; cases q; subst e
        exact t2.none_ 1 _ hd1 g
      · rw [if_neg e] at q; cases q
    · rw [l3] at q
      by_cases e : k = 0
      · rw [if_pos e] at q; cases q; subst e
        obtain ⟨r1, cs, E, r2, r3, r4, r5⟩ := t2.blk 1 _ b hd1 g
        refine ⟨r1, cs, E, r2, r3, r4, fun i es j c z1 z2 => ?_⟩
        obtain ⟨v, hv, hr⟩ := r5 i es j c z1 z2
        refine ⟨v, hv, ?_⟩
        simp only [Obj.els, List.getElem?_map] at z1
        cases hq : els'[i]? with
        | none => rw [hq] at z1; cases z1
        | some ps => rw [hq] at z1; cases z1; obtain ⟨p, _, rfl⟩ := pvL_get z2; exact hr
      · rw [if_neg e] at q; cases q
    · rw [l3] at q1 q2
      by_cases e : k = 0
      · by_cases e' : k' = 0
        · rw [e, e']
        · rw [if_neg e'] at q2; cases q2
      · rw [if_neg e] at q1; cases q1
  · refine ⟨fun k hk => c1.heap k hk, fun k hk => c2.imm k (c1.imm k hk), fun k s m hk hsm => ?_⟩
    have hk0 : k = 0 := by simp only [List.length_cons, List.length_nil] at hk; omega
    subst hk0
    have e : shape (number [Obj.arr s1 l', Obj.arr s2 els']) 1 = some (s, m) := by
      simp only [shape, l3, hl1] at hsm ⊢; exact hsm
    obtain ⟨m0, q1, q2, q3⟩ := c1.objs 1 s m (by simp) e
    refine ⟨m0, ?_, q2, fun hm => ?_⟩
    · simp only [shape, l2, l1] at q1 ⊢; exact q1
    · exact q3 hm
end Go.AL
