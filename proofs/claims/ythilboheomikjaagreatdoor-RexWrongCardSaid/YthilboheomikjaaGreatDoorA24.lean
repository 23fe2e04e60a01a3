/- A new array that a function hands back, taken as plain data. -/
import Derived.Test.YthilboheomikjaaGreatDoorA23
namespace Go.AL
set_option linter.unusedVariables false
set_option linter.unusedSimpArgs false
variable {P : Program} {GL : List (Nat × List PV)} {w : World} {I : Nat → Prop} {G : Nat → Option Nat}

theorem freeze_core {os : Objs} {id s n : Nat} {els : List (List PV)} {v : Value} (h3 : Sr GL w I G os) (ho : look os id = some (.arr s els)) (hn : n = els.length) (hx : ATr w I G (shape os) (.val false [.arr id n]) v) :
    ∃ I' : Nat → Prop, Sr GL w I' G (dropO os id) ∧ ATr w I' G (shape (dropO os id)) (one (.sl els)) v ∧ Keeps Any w w I I' G G (shape os) (shape (dropO os id)) ∧ ∀ k, I' k → I k ∨ G id = some k := by
  have hsub : ∀ k o, look (dropO os id) k = some o → look os k = some o := fun k o h => by
    rw [look_dropO] at h; split at h
    · cases h
    · exact h
  obtain ⟨s1, k1⟩ := h3.sub hsub
  let I' : Nat → Prop := fun b => I b ∨ G id = some b
  have hI' : ∀ k, I' k → k < w.heap.size := fun k hk => by
    rcases hk with hk | hk
    · exact h3.lt k hk
    · obtain ⟨_, cs, E, hh, _⟩ := h3.blk id _ k ho hk
      exact (Array.getElem?_eq_some_iff.1 hh).1
  have k2 : Keeps Any w w I I' G G (shape (dropO os id)) (shape (dropO os id)) := ⟨fun _ _ => rfl, fun _ h => .inl h, fun i s m _ hs => ⟨m, hs, Nat.le_refl _, fun _ => ⟨rfl, fun _ _ => Nat.le_refl _⟩⟩⟩
  have s2 : Sr GL w I' G (dropO os id) := by
    refine ⟨fun g ps hg => ?_, s1.none_, fun k o b q1 q2 => ?_, s1.inj, hI'⟩
    · obtain ⟨r1, r2⟩ := h3.gl g ps hg
      exact ⟨.inl r1, fun j p hp => by obtain ⟨u, hu, hr⟩ := r2 j p hp; exact ⟨u, hu, hr.mono (fun _ _ => rfl) (fun _ h => .inl h)⟩⟩
    · obtain ⟨r1, cs, E, r2, r3, r4, r5⟩ := s1.blk k o b q1 q2
      refine ⟨fun h => ?_, cs, E, r2, r3, r4, fun i es j c e1 e2 => ?_⟩
      · rcases h with h | h
        · exact r1 h
        · have := h3.inj k id o _ b (hsub k o q1) ho q2 h
          subst this
          rw [look_dropO, if_pos rfl] at q1; cases q1
      · obtain ⟨v, hv, hr⟩ := r5 i es j c e1 e2
        exact ⟨v, hv, hr.mono k2 (AC.refs_any c)⟩
  refine ⟨I', s2, ⟨_, rfl, ?_⟩, k1.trans k2, fun k hk => hk⟩
  show PVr w I' _ _
  have hv := (atr_one hx).2 _ _ (shape_look ho)
  have hv2 := hv.2 (by simp [Obj.els, hn])
  cases hb : G id with
  | none =>
    rw [hb] at hv2
    have := h3.none_ id _ ho hb
    simp [Obj.els] at this
    subst this
    rw [hv2]; exact .sl0 _ _
  | some b =>
    rw [hb] at hv2
    obtain ⟨c, e1, e2, e3⟩ := hv2
    obtain ⟨r1, cs, E, r2, r3, r4, r5⟩ := h3.blk id _ b ho hb
    rw [e1, hn]
    have hget : ∀ (i : Nat) (es : List PV), els[i]? = some es → (Obj.arr s els).els[i]? = some (pvL es) := fun i es h => by simp [Obj.els, h]
    let vals : Nat → Nat → Value := fun i j => (cs[i * s + j]?).getD undef
    have hvv : ∀ (i : Nat) (es : List PV) (j : Nat) (p : PV), els[i]? = some es → es[j]? = some p → cs[i * s + j]? = some (vals i j) ∧ PVr w I p (vals i j) := by
      intro i es j p q1 q2
      obtain ⟨v, hv, hr⟩ := r5 i _ j (.pv p) (hget i es q1) (by simp [pvL, q2])
      have hv' : cs[i * s + j]? = some v := hv
      refine ⟨by simp [vals, hv'], ?_⟩
      have : vals i j = v := by simp [vals, hv']
      rw [this]; exact hr
    refine .sl els b 0 c s vals (.inr hb) (by omega) (fun i es q => by have := r4 i _ (hget i es q); rw [pvL_length] at this; exact this) (fun i es j p q1 q2 => ?_) (fun i es j p q1 q2 => (hvv i es j p q1 q2).2.mono (fun _ _ => rfl) (fun _ h => .inl h))
    have := (hvv i es j p q1 q2).1
    simp only [World.cell?, r2]; simpa using this

theorem look_number_append {os : List Obj} {o : Obj} (k : Nat) : look (number os) k = look (dropO (number (os ++ [o])) os.length) k := by
  rw [look_dropO, look_number, look_number]
  by_cases h : k = os.length
  · subst h; simp
  · rw [if_neg h]
    rcases Nat.lt_or_ge k os.length with h' | h'
    · rw [List.getElem?_append_left h']
    · rw [List.getElem?_eq_none h', List.getElem?_append_right h', List.getElem?_eq_none (by simp; omega)]

theorem sim_frz {f : FuncId} {args : List AT} {os os' : List Obj} {m n s : Nat} {els : List (List PV)} (hm : os'.length = m) (hm2 : os.length ≤ m) (hn : n = els.length) (h : Sim P GL f args os (.val false [.arr m n]) (os' ++ [.arr s els])) : Sim P GL f args os (one (.sl els)) os' := by
  intro w I G vs hs ha
  refine Calls.imp (h w I G vs hs ha) ?_
  rintro e w' ⟨v, I', G', rfl, e1, s1, x1, k1⟩
  subst hm
  have hl : look (number (os' ++ [Obj.arr s els])) os'.length = some (.arr s els) := by rw [look_number]; simp
  obtain ⟨I2, s2, x2, k2, hI⟩ := freeze_core s1 hl hn x1
  have hlk := fun k => look_number_append (os := os') (o := .arr s els) k
  have hsh : shape (number os') = shape (dropO (number (os' ++ [Obj.arr s els])) os'.length) := by funext k; simp only [shape, hlk]
  refine ⟨v, I2, G', rfl, ⟨e1.size, e1.os, e1.tape, e1.output, e1.keep, fun k hk => k2.imm k (e1.imm k hk), fun k hk => ?_, fun b ⟨k, o, h1, h2⟩ => ?_⟩, s2.congr hlk, by rw [hsh]; exact x2, ?_⟩
  · rcases hI k hk with h | h
    · exact e1.inew k h
    · rcases e1.mnew k ⟨os'.length, _, hl, h⟩ with h | h
      · exact .inr (.inl h)
      · exact .inr (.inr h)
  · have h3 := hlk k
    rw [h1, look_dropO] at h3
    split at h3
    · cases h3
    · exact e1.mnew b ⟨k, o, h3.symm, h2⟩
  · rw [hsh]; exact k1.trans (k2.weaken fun _ _ => trivial)
end Go.AL
