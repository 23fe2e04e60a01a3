/- The evaluator is right: numbers, texts; reading. -/
import Derived.Test.YthilboheomikjaaGreatDoorA3
import Derived.Laws.Strings
namespace Go.AL
set_option linter.unusedVariables false
set_option linter.unusedSimpArgs false
variable {P : Program} {GL : List (Nat × List PV)} {st : S} {w : World} {I : Nat → Prop} {G : Nat → Option Nat} {N : Nat} {a : Act}

theorem sameK_eq {k k' : IntKind} (h : sameK k k' = true) : k = k' := by
  cases k <;> cases k' <;> first | rfl | (simp [sameK] at h)

theorem size_mk (l : List UInt8) : (ByteArray.size ⟨l.toArray⟩) = l.length := by simp [ByteArray.size]

theorem mk_append (l m : List UInt8) : (⟨l.toArray⟩ : ByteArray) ++ ⟨m.toArray⟩ = ⟨(l ++ m).toArray⟩ := by
  apply ByteArray.ext; simp

theorem eqGuard_int (op : BinOp) (t : TypeId) (x y : Operand) (k k' : IntKind) (m n : Int) (w : World) : (eqGuard op t x y (.int k m) (.int k' n)).run P w = .ok () w := by
  cases op <;> simp [eqGuard]
theorem eqGuard_str (op : BinOp) (t : TypeId) (x y : Operand) (m n : ByteArray) (w : World) : (eqGuard op t x y (.string m) (.string n)).run P w = .ok () w := by
  cases op <;> simp [eqGuard]
theorem eqGuard_bool (op : BinOp) (t : TypeId) (x y : Operand) (m n : Bool) (w : World) : (eqGuard op t x y (.bool m) (.bool n)).run P w = .ok () w := by
  cases op <;> simp [eqGuard]

theorem binPV_ok {op : BinOp} {t : TypeId} {p q r : PV} {O : List Prop} (h : binPV op p q = some (r, O)) (hO : All O) {x y : Value} (hx : PVr w I p x) (hy : PVr w I q y) (X Y : Operand) :
    ∃ v, (do eqGuard op t X Y x y; binOp op t x y : Sem Value).run P w = .ok v w ∧ PVr w I r v := by
  unfold binPV at h
  split at h
  · cases h; cases hx; cases hy
    refine ⟨_, ?_, .int _ _⟩
    have h0 : ¬ (_ : Int) < 0 := Int.not_lt.2 hO.1
    simp [eqGuard_int, binOp, Op.shift, h0]
  · cases h; cases hx; cases hy
    refine ⟨_, ?_, .int _ _⟩
    have h0 : ¬ (_ : Int) < 0 := Int.not_lt.2 hO.1
    simp [eqGuard_int, binOp, Op.shift, h0]
  · rename_i k a k' b hs1 hs2
    split at h
    · cases h
    · rename_i hk
      have hk := sameK_eq hk; subst hk
      cases hx; cases hy
      split at h <;> first
        | (cases h; refine ⟨_, ?_, .int _ _⟩; simp [eqGuard_int, binOp, Op.intArith]; done)
        | (cases h; refine ⟨_, ?_, .bool _⟩; simp [eqGuard_int, binOp, Op.intCmp]; done)
        | (cases h; refine ⟨_, ?_, .int _ _⟩; simp [eqGuard_int, binOp, Op.intDiv, hO.1]; done)
        | (cases h; refine ⟨_, ?_, .int _ _⟩; simp [eqGuard_int, binOp, Op.intBits, bitsI]; done)
        | (cases h; done)
  · cases h; cases hx; cases hy
    refine ⟨_, ?_, .str _⟩
    have hl := hO.1
    rename_i m n
    simp [eqGuard_str, binOp, Op.stringOp]
    rw [if_neg (by rw [size_mk, size_mk]; omega), mk_append]
  all_goals first
    | (cases h; cases hx; cases hy; refine ⟨_, ?_, .bool _⟩; simp [eqGuard_str, binOp, Op.stringOp]; done)
    | (cases h; done)

theorem vr_pv {g : Bool} {cs : List AC} {p : PV} {v : Value} (h : Vr w I G (shape st.os) false [.pv p] v) : PVr w I p v := by
  obtain ⟨c, e, h⟩ := h; cases e; exact h

/-- one cell out of a slot -/
theorem atr_one {c : AC} {v : Value} {sh : Sh} (h : ATr w I G sh (.val false [c]) v) : ACr w I G sh c v := by
  obtain ⟨d, e, h⟩ := h; cases e; exact h

theorem arr_at {sh : Sh} {ps : List PV} {v : Value} (h : ACr w I G sh (.vp ps) v) : ∃ b o, v = .pointer (some ⟨b, o, none⟩) ∧ I b ∧
    ∀ (k : Nat) (c : AC), (pvL ps)[k]? = some c → ∃ u, w.cell? ⟨b, o + k, none⟩ = some u ∧ ACr w I G sh c u := by
  obtain ⟨b, o, e, hI, hc⟩ := h
  refine ⟨b, o, e, hI, fun k c hk => ?_⟩
  unfold pvL at hk
  rw [List.getElem?_map] at hk
  cases hp : ps[k]? with
  | none => rw [hp] at hk; cases hk
  | some p => rw [hp] at hk; cases hk; exact hc k p hp

/-- what an object's block holds, as cells in memory -/
theorem obj_cells (hs : Sr GL w I G st.os) {id : Nat} {o : Obj} (hl : look st.os id = some o) {b : Nat} (hb : G id = some b) {i : Nat} {es : List AC} (he : o.els[i]? = some es) :
    ∀ (k : Nat) (c : AC), es[k]? = some c → ∃ v, w.cell? ⟨b, i * o.s + k, none⟩ = some v ∧ ACr w I G (shape st.os) c v := by
  obtain ⟨_, cs, E, hh, _, _, hc⟩ := hs.blk id o b hl hb
  intro k c hk
  obtain ⟨v, hv, hr⟩ := hc i es k c he hk
  exact ⟨v, by simp [World.cell?, hh, hv], hr⟩

theorem some_of_els (hs : Sr GL w I G st.os) {id : Nat} {o : Obj} (hl : look st.os id = some o) {i : Nat} {es : List AC} (he : o.els[i]? = some es) : ∃ b, G id = some b := by
  cases hb : G id with
  | some b => exact ⟨b, rfl⟩
  | none => rw [hs.none_ id o hl hb] at he; simp at he

theorem shape_look {os : Objs} {id : Nat} {o : Obj} (h : look os id = some o) : shape os id = some (o.s, o.els.length) := by simp [shape, h]

theorem ok_load (hs : Sr GL w I G st.os) {t : TypeId} {x : AT} {h : Option Hint} {y : AT} {os' : Objs} {O : List Prop} {v : Value}
    (he : evLoad P st t x h = some (y, os', O)) (hO : All O) (hx : ATr w I G (shape st.os) x v) :
    os' = st.os ∧ ∃ u, (Instr.loadAt t v).run P w = .ok u w ∧ ATr w I G (shape st.os) y u := by
  unfold evLoad at he
  split at he
  · rename_i ps
    cases hp : partA P t (pvL ps) 0 with
    | none => simp [hp] at he
    | some z =>
      simp [hp] at he; obtain ⟨rfl, rfl, rfl⟩ := he
      obtain ⟨b, o, rfl, hI, hc⟩ := arr_at (atr_one hx)
      obtain ⟨u, hu, hr⟩ := partA_load (o := o) hp hc
      exact ⟨rfl, u, by simpa [Instr.loadAt, Instr.sureAddr] using hu, hr⟩
  · rename_i id n i j
    split at he
    · rename_i cs hl
      split at he
      · rename_i h1 h2
        have h1 := Nat.eq_of_beq_eq_true h1; have h2 := Nat.eq_of_beq_eq_true h2
        subst h1; subst h2
        cases hp : partA P t cs j with
        | none => simp [hp] at he
        | some z =>
          simp [hp] at he; obtain ⟨rfl, rfl, rfl⟩ := he
          obtain ⟨b, hb⟩ := some_of_els hs hl (i := 0) (es := cs) rfl
          have hv := ((atr_one hx).2 _ _ (shape_look hl)).2 rfl b hb
          have hc := obj_cells hs hl hb (i := 0) (es := cs) rfl
          simp only [Nat.zero_mul, Nat.zero_add] at hv hc
          obtain ⟨u, hu, hr⟩ := partA_load (o := 0) hp (by simpa using hc)
          rw [hv]
          exact ⟨rfl, u, by simpa [Instr.loadAt, Instr.sureAddr] using hu, hr⟩
      · cases he
    · rename_i s els ps hl
      cases hp : partA P t (pvL ps) j with
      | none => simp [hp] at he
      | some z =>
        simp [hp] at he; obtain ⟨rfl, rfl, rfl⟩ := he
        obtain ⟨hn, hi, _⟩ := hO
        have hes : (Obj.arr s els).els[i]? = some (pvL ps) := by simp [Obj.els, hi]
        obtain ⟨b, hb⟩ := some_of_els hs hl hes
        have hv := ((atr_one hx).2 _ _ (shape_look hl)).2 (by simp [Obj.els, hn]) b hb
        have hc := obj_cells hs hl hb hes
        obtain ⟨u, hu, hr⟩ := partA_load (o := i * (Obj.arr s els).s) hp hc
        rw [hv]
        exact ⟨rfl, u, by simpa [Instr.loadAt, Instr.sureAddr] using hu, hr⟩
    · cases he
  · cases he

theorem alive_ok (hs : Sr GL w I G st.os) {id n i j : Nat} {O : List Prop} {v : Value} (h : alive st id n = some O) (hO : All O) (hx : ACr w I G (shape st.os) (.ptr id n i j) v) :
    ∃ b s, v = .pointer (some ⟨b, i * s + j, none⟩) ∧ G id = some b ∧ shape st.os id = some (s, n) := by
  unfold alive at h
  split at h
  · rename_i cs hl
    split at h
    · rename_i hn
      have hn := Nat.eq_of_beq_eq_true hn; subst hn
      obtain ⟨b, hb⟩ := some_of_els hs hl (i := 0) (es := cs) rfl
      exact ⟨b, _, (hx.2 _ _ (shape_look hl)).2 rfl b hb, hb, shape_look hl⟩
    · cases h
  · rename_i s els hl
    cases h
    obtain ⟨hn, h0, _⟩ := hO
    cases hb : G id with
    | none =>
      have := hs.none_ id _ hl hb
      simp [Obj.els] at this; subst this; simp at hn; omega
    | some b => exact ⟨b, s, (hx.2 _ _ (shape_look hl)).2 (by simp [Obj.els, hn]) b hb, rfl, by rw [shape_look hl]; simp [Obj.els, Obj.s, hn]⟩
  · cases h

theorem fieldPlace_run {fd : Field} {n : Nat} (hn : sizeT P fd.type = some (n + 1)) (b o : Nat) (w : World) : (fieldPlace ⟨b, o, none⟩ fd).run P w = .ok ⟨b, o + fd.offset, none⟩ w := by
  simp only [fieldPlace, Sem.run_bind, run_sizeT hn, Result.andThen_ok]
  rw [if_neg (by omega), addr_add]; rfl

theorem ok_fieldAddr {t : TypeId} {x : AT} {f : Nat} {y : AT} {os' : Objs} {O : List Prop} {v : Value} (he : evFieldAddr P st t x f = some (y, os', O))
    (hO : All O) (hs : Sr GL w I G st.os) (hx : ATr w I G (shape st.os) x v) : os' = st.os ∧ ∃ u, (Instr.fieldAt t v f).run P w = .ok u w ∧ ATr w I G (shape st.os) y u := by
  unfold evFieldAddr at he
  split at he
  · rename_i fs hu
    split at he
    · rename_i fd hfd
      split at he
      · cases he
      · cases he
      · rename_i n hn
        split at he
        · rename_i ps
          cases he
          obtain ⟨b, o, rfl, hI, hc⟩ := atr_one hx
          refine ⟨rfl, .pointer (some ⟨b, o + fd.offset, none⟩), ?_, _, rfl, b, o + fd.offset, rfl, hI, fun k p hp => ?_⟩
          · simp [Instr.fieldAt, run_underlying hu, hfd, Instr.sureAddr, fieldPlace_run hn]
          · rw [List.getElem?_drop] at hp
            have := hc _ p hp
            rwa [← Nat.add_assoc] at this
        · rename_i id m i j
          cases hal : alive st id m with
          | none => simp [hal] at he
          | some O2 =>
            simp [hal] at he; obtain ⟨rfl, rfl, rfl⟩ := he
            obtain ⟨b, s, rfl, hb, hsh⟩ := alive_ok hs hal hO (atr_one hx)
            refine ⟨rfl, .pointer (some ⟨b, i * s + j + fd.offset, none⟩), ?_, _, rfl, ⟨_, rfl⟩, fun s' m' hs' => ?_⟩
            · simp [Instr.fieldAt, run_underlying hu, hfd, Instr.sureAddr, fieldPlace_run hn]
            · rw [hsh] at hs'; cases hs'
              refine ⟨Nat.le_refl _, fun _ b' hb' => ?_⟩
              rw [hb] at hb'; cases hb'; simp [Nat.add_assoc]
        · cases he
    · cases he
  · cases he
end Go.AL
