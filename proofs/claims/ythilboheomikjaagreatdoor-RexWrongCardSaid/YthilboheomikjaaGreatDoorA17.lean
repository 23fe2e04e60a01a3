/- A region whose order Go leaves open: whatever order is taken, it comes to what the text's order comes to. -/
import Derived.Test.YthilboheomikjaaGreatDoorA16
import Derived.Orders
namespace Go.AL
set_option linter.unusedVariables false
set_option linter.unusedSimpArgs false
variable {P : Program} {GL : List (Nat × List PV)} {C : Spec} {N : Nat}

theorem evalOp_same {st : S} {o : Oper} {h : Option Hint} {x : AT} {os' : Objs} {O : List Prop} (hk : kindOp o h ≤ 1) (he : evalOp P GL C st o h = some (x, os', O)) : os' = st.os := by
  have hm : ∀ {r : Option AT} {x : AT} {os' : Objs} {O L : List Prop}, (r.map fun a => ((a, st.os, L) : AT × Objs × List Prop)) = some (x, os', O) → os' = st.os := by
    intro r x os' O L h
    obtain ⟨y, rfl, e⟩ := map_some h
    cases e; rfl
  have hobj : ∀ id, h ≠ some (.obj id) := fun id e => by subst e; have := kind_obj (o := o) (id := id); omega
  obtain ⟨dst, op, ty, pos, after, guard⟩ := o
  cases op with
  | move y =>
    simp only [evalOp] at he
    split at he
    · exact absurd rfl (hobj _)
    · exact hm he
    · cases he
  | assign y =>
    simp only [evalOp] at he
    split at he
    · exact absurd rfl (hobj _)
    · exact hm he
    · cases he
  | pick c y z => simp only [evalOp] at he; split at he <;> first | exact hm he | cases he
  | binOp op t y z yt =>
    simp only [evalOp] at he
    split at he
    · split at he
      · split at he <;> cases he; rfl
      · split at he <;> cases he; rfl
      · obtain ⟨⟨r, O2⟩, hb, e⟩ := map_some he
        cases e; rfl
    · unfold evEqS at he
      split at he
      · split at he <;> cases he <;> rfl
      · cases he
    · cases he
  | unOp op t y => simp only [evalOp] at he; split at he <;> cases he <;> rfl
  | convert s d y =>
    simp only [evalOp] at he
    split at he
    · exact (evConvX_os st he).1
    · cases he
  | extract y i =>
    simp only [evalOp] at he
    split at he
    · split at he <;> cases he; rfl
    · cases he
  | slice t x lo hi mx =>
    simp only [evalOp] at he
    split at he
    · exact absurd rfl (hobj _)
    · unfold evSlice at he
      split at he
      · cases he
      · split at he
        · split at he <;> cases he; rfl
        · split at he <;> cases he; rfl
        · cases he
    · cases he
  | field t x f =>
    simp only [evalOp] at he
    split at he
    · split at he
      · exact hm he
      · cases he
    · cases he
  | fieldAddr t x f =>
    simp only [evalOp] at he
    split at he
    · unfold evFieldAddr at he
      split at he
      · split at he
        · split at he
          · cases he
          · cases he
          · split at he
            · cases he; rfl
            · obtain ⟨O2, hb, e⟩ := map_some he
              cases e; rfl
            · cases he
        · cases he
      · cases he
    · cases he
  | nilCheck x =>
    simp only [evalOp] at he
    split at he
    · obtain ⟨O2, hb, e⟩ := map_some he
      cases e; rfl
    · cases he; rfl
    · cases he
  | load t x =>
    simp only [evalOp] at he
    split at he
    · unfold evLoad at he
      split at he
      · exact hm he
      · split at he
        · split at he
          · exact hm he
          · cases he
        · exact hm he
        · cases he
      · cases he
    · cases he
  | store t x y =>
    exfalso
    cases h with
    | none => exact absurd hk (by show ¬ 2 ≤ 1; omega)
    | some h => cases h <;> first | exact absurd hk (by show ¬ 2 ≤ 1; omega) | exact absurd hk (by show ¬ 4 ≤ 1; omega)
  | indexAddr t x y =>
    simp only [evalOp] at he
    split at he
    · unfold evIndexAddr at he
      split at he
      · split at he
        · split at he <;> cases he; rfl
        · cases he
      · split at he
        · split at he <;> cases he; rfl
        · cases he
      · cases he
    · cases he
  | index t x y =>
    simp only [evalOp] at he
    split at he
    · unfold evIndex at he
      split at he <;> cases he; rfl
    · cases he
  | build t parts =>
    simp only [evalOp] at he
    split at he
    · obtain ⟨O2, hb, e⟩ := map_some he
      cases e; rfl
    · cases he
  | buildSlice t n parts =>
    simp only [evalOp] at he
    split at he
    · split at he
      · split at he
        · cases he; rfl
        · cases he; rfl
        · exact absurd rfl (hobj _)
        · cases he
      · cases he
    · cases he
  | call c =>
    obtain ⟨cal, ⟨args⟩, ⟨tys⟩⟩ := c
    cases cal with
    | invoke r m => cases he
    | builtin b =>
      simp only [evalOp] at he
      split at he
      · split at he
        · unfold evLen at he; split at he <;> cases he <;> rfl
        · unfold evLen at he; split at he <;> cases he <;> rfl
        · cases he
      · exfalso
        cases h with
        | none => exact absurd hk (by show ¬ 2 ≤ 1; omega)
        | some h => cases h <;> first | exact absurd hk (by show ¬ 2 ≤ 1; omega) | exact absurd hk (by show ¬ 4 ≤ 1; omega)
      · split at he
        · exact hm he
        · cases he
      · split at he
        · exact hm he
        · cases he
      · cases he
    | value fo =>
      simp only [evalOp] at he
      split at he
      · rename_i f hfo
        split at he
        · unfold evCall at he
          split at he
          · rename_i a b c d
            cases d with
            | nil => exact absurd hk (by show ¬ 2 ≤ 1; omega)
            | cons d e => exact absurd hk (by show ¬ 4 ≤ 1; omega)
          · split at he
            · split at he <;> cases he; rfl
            · cases he
          · cases he
        · cases he
      · cases he
  | alloc t => simp only [evalOp] at he; split at he <;> first | exact absurd rfl (hobj _) | cases he
  | box t x => simp only [evalOp] at he; split at he <;> first | exact absurd rfl (hobj _) | cases he
  | makeSlice t l c => simp only [evalOp] at he; split at he <;> first | exact absurd rfl (hobj _) | cases he
  | _ => cases he

theorem kind_H {o : Oper} {b : Bool} : kindOp o (some (.bool b)) = kindOp o none := by
  unfold kindOp; split <;> rfl

/-- with the flag that an operation's bool is told -/
theorem evalOpH_env {e1 e2 : List (Nat × AT)} {os : Objs} {o : Oper} {h : Option Hint} (hop : ∀ y, y ∈ o.op.operands.toList → opd GL ⟨e2, os⟩ y = opd GL ⟨e1, os⟩ y) (hk : kindOp o h < 3) :
    evalOpH P GL C ⟨e2, os⟩ o h = evalOpH P GL C ⟨e1, os⟩ o h := by
  unfold evalOpH
  split
  · rw [evalOp_env hop (by rw [← kind_H]; exact hk)]
  · exact evalOp_env hop hk

theorem evalOpH_zero {e1 : List (Nat × AT)} {os : Objs} {o : Oper} {h : Option Hint} {x : AT} {os' : Objs} {O : List Prop} (hk : kindOp o h = 0) (o2 : Objs)
    (he : evalOpH P GL C ⟨e1, os⟩ o h = some (x, os', O)) : os' = os ∧ evalOpH P GL C ⟨e1, o2⟩ o h = some (x, o2, O) := by
  unfold evalOpH at he ⊢
  split at he
  · rename_i b
    split at he
    · rename_i y oo O2 he2
      cases he
      obtain ⟨h1, h2⟩ := evalOp_zero (e2 := e1) (by rw [← kind_H]; exact hk) (fun _ _ => rfl) o2 he2
      exact ⟨h1, by rw [h2]⟩
    · cases he
  · exact evalOp_zero (e2 := e1) hk (fun _ _ => rfl) o2 he

theorem evalOpH_same {st : S} {o : Oper} {h : Option Hint} {x : AT} {os' : Objs} {O : List Prop} (hk : kindOp o h ≤ 1) (he : evalOpH P GL C st o h = some (x, os', O)) : os' = st.os := by
  unfold evalOpH at he
  split at he
  · rename_i b
    split at he
    · rename_i y oo O2 he2
      cases he
      exact evalOp_same (by rw [← kind_H]; exact hk) he2
    · cases he
  · exact evalOp_same hk he

/-! ### the order -/
def preds (o : Oper) : List Nat := (o.after.toList.filter (Region.binds .any)).map (·.on)

def maskOf (ps : List Nat) (acc : List Nat) : Nat := ps.foldl (fun m p => m ||| (1 <<< p) ||| acc.getD p 0) 0

def clo : List Oper → List Nat → List Nat
  | [], acc => acc
  | o :: l, acc => clo l (acc ++ [maskOf (preds o) acc])

theorem mask_bit (acc : List Nat) (i : Nat) : ∀ (ps : List Nat) (m : Nat), (ps.foldl (fun m p => m ||| (1 <<< p) ||| acc.getD p 0) m).testBit i = true →
    m.testBit i = true ∨ ∃ p, p ∈ ps ∧ (p = i ∨ (acc.getD p 0).testBit i = true)
  | [], m, h => .inl h
  | p :: ps, m, h => by
    rcases mask_bit acc i ps _ h with h | ⟨q, hq, hr⟩
    · rw [Nat.testBit_or, Nat.testBit_or] at h
      simp only [Bool.or_eq_true] at h
      rcases h with (h | h) | h
      · exact .inl h
      · right
        refine ⟨p, by simp, .inl ?_⟩
        rw [Nat.shiftLeft_eq, Nat.one_mul, Nat.testBit_two_pow] at h
        simpa using h
      · exact .inr ⟨p, by simp, .inr h⟩
    · exact .inr ⟨q, by simp [hq], hr⟩

theorem clo_spec : ∀ (l : List Oper) (acc : List Nat), (∀ k, k < acc.length → (clo l acc).getD k 0 = acc.getD k 0) ∧
    ∀ (k : Nat) (o : Oper), l[k]? = some o → ∀ i, ((clo l acc).getD (acc.length + k) 0).testBit i = true → ∃ p, p ∈ preds o ∧ (p = i ∨ (p < acc.length + k ∧ ((clo l acc).getD p 0).testBit i = true))
  | [], acc => ⟨fun k _ => rfl, fun k o h => by simp at h⟩
  | o :: l, acc => by
    obtain ⟨h1, h2⟩ := clo_spec l (acc ++ [maskOf (preds o) acc])
    have hlen : (acc ++ [maskOf (preds o) acc]).length = acc.length + 1 := by simp
    have hold : ∀ k, k < acc.length → (clo (o :: l) acc).getD k 0 = acc.getD k 0 := fun k hk => by
      show (clo l _).getD k 0 = _
      rw [h1 k (by omega)]
      simp [List.getElem?_append_left hk]
    refine ⟨hold, fun k o' ho i hb => ?_⟩
    cases k with
    | zero =>
      simp at ho; subst ho
      have hm : (clo (o :: l) acc).getD (acc.length + 0) 0 = maskOf (preds o) acc := by
        show (clo l _).getD _ 0 = _
        rw [h1 _ (by omega)]
        simp
      rw [hm] at hb
      rcases mask_bit acc i (preds o) 0 hb with h | ⟨p, hp, hr⟩
      · simp at h
      · refine ⟨p, hp, hr.imp id fun h => ?_⟩
        have hlt : p < acc.length := by
          rcases Nat.lt_or_ge p acc.length with h' | h'
          · exact h'
          · simp [List.getElem?_eq_none h'] at h
        exact ⟨hlt, by rw [hold p hlt]; exact h⟩
    | succ k =>
      have ho' : l[k]? = some o' := by simpa using ho
      have e : acc.length + (k + 1) = (acc ++ [maskOf (preds o) acc]).length + k := by omega
      have hb' : ((clo l (acc ++ [maskOf (preds o) acc])).getD ((acc ++ [maskOf (preds o) acc]).length + k) 0).testBit i = true := by rw [← e]; exact hb
      obtain ⟨p, hp, hr⟩ := h2 k o' ho' i hb'
      exact ⟨p, hp, hr.imp id fun ⟨h, h'⟩ => ⟨by omega, h'⟩⟩

/-- a set of operations that holds what each of its own waits for -/
def Closed (ops : List Oper) (L : Nat → Prop) : Prop := ∀ (j : Nat) (o : Oper), ops[j]? = some o → L j → ∀ p, p ∈ preds o → L p

theorem clo_in {ops : List Oper} {L : Nat → Prop} (hL : Closed ops L) : ∀ (j : Nat) (o : Oper), ops[j]? = some o → (∀ p, p ∈ preds o → L p) → (∀ (k : Nat) (o' : Oper), ops[k]? = some o' → k ≤ j → ∀ p, p ∈ preds o' → p < k) →
    ∀ i, ((clo ops []).getD j 0).testBit i = true → L i := by
  intro j
  induction j using Nat.strongRecOn with
  | _ j ih =>
    intro o ho hp hlt i hb
    obtain ⟨p, hpp, hr⟩ := (clo_spec ops []).2 j o ho i (by simpa using hb)
    rcases hr with rfl | ⟨_, hr⟩
    · exact hp p hpp
    · have hpj := hlt j o ho (Nat.le_refl _) p hpp
      cases ho' : ops[p]? with
      | none =>
        have h1 := List.getElem?_eq_none_iff.1 ho'
        have h2 := (List.getElem?_eq_some_iff.1 ho).1
        omega
      | some o' => exact ih p hpj o' ho' (fun q hq => hL p o' ho' (hp p hpp) q hq) (fun k o'' h1 h2 => hlt k o'' h1 (by omega)) i hr

theorem any_mem0 {l : List Nat} {d : Nat} (h : d ∈ l) : l.any (Nat.beq d) = true := List.any_eq_true.2 ⟨d, h, Nat.beq_refl d⟩

/-! ### what an operation touches -/
def norefOp (id : Nat) (GL : List (Nat × List PV)) (st : S) (o : Oper) (h : Option Hint) : Bool :=
  match h with
  | some (.callR ids _) => !(ids.any (Nat.beq id))
  | some (.call ids _ _ _) => !(ids.any (Nat.beq id))
  | _ => o.op.operands.toList.all fun y => match opd GL st y with | some a => norefA id a | none => true

theorem touch_of {id : Nat} {st : S} {o : Oper} {h : Option Hint} {y : Operand} {a : AT} (hh : ∀ ids r, h ≠ some (.callR ids r)) (hh2 : ∀ ids r a b, h ≠ some (.call ids r a b)) (hy : y ∈ o.op.operands.toList) (ho : opd GL st y = some a) (hr : norefA id a = false) : norefOp id GL st o h = false := by
  unfold norefOp
  split
  · exact absurd rfl (hh _ _)
  · exact absurd rfl (hh2 _ _ _ _)
  · rw [List.all_eq_false]
    exact ⟨y, hy, by simp [ho, hr]⟩

theorem noref_ptr (id n i j : Nat) : norefA id (.val false [.ptr id n i j]) = false := by simp [norefA, norefL, norefC, Nat.beq_refl]
theorem noref_arr (id n : Nat) : norefA id (.val false [.arr id n]) = false := by simp [norefA, norefL, norefC, Nat.beq_refl]

theorem lookAll_congr {os1 os2 : Objs} : ∀ {ids : List Nat}, (∀ id, id ∈ ids → look os2 id = look os1 id) → lookAll os2 ids = lookAll os1 ids
  | [], _ => rfl
  | id :: ids, h => by simp only [lookAll]; rw [h id (by simp), lookAll_congr fun i hi => h i (by simp [hi])]

theorem kind_callR {o : Oper} {ids : List Nat} {r : AT} (hk : kindOp o (some (.callR ids r)) ≤ 3) : ∃ f args tys, o.op = .call ⟨.value f, args, tys⟩ := by
  unfold kindOp at hk
  split at hk
  · rename_i h; exact ⟨_, _, _, h⟩
  · simp only [] at hk; omega

theorem kind_call2 {o : Oper} {ids : List Nat} {r : AT} {a : List Obj} {b : List Nat} (hk : kindOp o (some (.call ids r a b)) ≤ 3) : ∃ f args tys, o.op = .call ⟨.value f, args, tys⟩ := by
  unfold kindOp at hk
  split at hk
  · rename_i h; exact ⟨_, _, _, h⟩
  · simp only [] at hk; omega

theorem opd_os {e : List (Nat × AT)} {os1 os2 : Objs} (y : Operand) : opd GL ⟨e, os2⟩ y = opd GL ⟨e, os1⟩ y := by cases y <;> rfl

theorem evalOp_look {e : List (Nat × AT)} {os1 os2 : Objs} {o : Oper} {h : Option Hint} {x : AT} {os' : Objs} {O : List Prop} (hk : kindOp o h ≤ 1) (he : evalOp P GL C ⟨e, os1⟩ o h = some (x, os', O))
    (hl : ∀ id, norefOp id GL ⟨e, os1⟩ o h = false → look os2 id = look os1 id) : evalOp P GL C ⟨e, os2⟩ o h = some (x, os2, O) := by
  have hm : ∀ {r : Option AT} {x : AT} {os' : Objs} {O : List Prop}, (r.map fun a => ((a, os1, []) : AT × Objs × List Prop)) = some (x, os', O) → (r.map fun a => ((a, os2, []) : AT × Objs × List Prop)) = some (x, os2, O) := by
    intro r x os' O h
    obtain ⟨y, rfl, e⟩ := map_some h
    cases e; rfl
  have ho : ∀ y, opd GL ⟨e, os2⟩ y = opd GL ⟨e, os1⟩ y := opd_os
  have hobj : ∀ id, h ≠ some (.obj id) := fun id e => by subst e; have := kind_obj (o := o) (id := id); omega
  have hcr : (∀ f args tys, o.op ≠ .call ⟨.value f, args, tys⟩) → ∀ ids r, h ≠ some (.callR ids r) := fun hne ids r e => by
    subst e; obtain ⟨f, a, t, h'⟩ := kind_callR (show kindOp o (some (.callR ids r)) ≤ 3 by omega); exact hne f a t h'
  have hcr2 : (∀ f args tys, o.op ≠ .call ⟨.value f, args, tys⟩) → ∀ ids r a b, h ≠ some (.call ids r a b) := fun hne ids r a b e => by
    subst e; obtain ⟨f, a, t, h'⟩ := kind_call2 (show kindOp o (some (.call ids r a b)) ≤ 3 by omega); exact hne f a t h'
  obtain ⟨dst, op, ty, pos, after, guard⟩ := o
  have hbd : ∀ (x : Option Operand) (d : Int), bound GL ⟨e, os2⟩ x d = bound GL ⟨e, os1⟩ x d := fun x d => by cases x with | none => rfl | some y => simp only [bound, ho]
  have halive : ∀ {id n : Nat}, look os2 id = look os1 id → alive ⟨e, os2⟩ id n = alive ⟨e, os1⟩ id n := fun h => by simp only [alive, h]
  cases op with
  | move y => simp only [evalOp, ho] at he ⊢; split at he <;> first | exact absurd rfl (hobj _) | exact hm he | cases he
  | assign y => simp only [evalOp, ho] at he ⊢; split at he <;> first | exact absurd rfl (hobj _) | exact hm he | cases he
  | pick c y z => simp only [evalOp, ho] at he ⊢; split at he <;> first | exact hm he | cases he
  | binOp op t y z yt =>
    simp only [evalOp, ho] at he ⊢
    split at he
    · split at he
      · split at he <;> cases he; rfl
      · split at he <;> cases he; rfl
      · obtain ⟨⟨r, O2⟩, hb, e⟩ := map_some he
        cases e
        rw [hb]; rfl
    · unfold evEqS at he ⊢
      split at he
      · split at he <;> cases he <;> rfl
      · cases he
    · cases he
  | unOp op t y => simp only [evalOp, ho] at he ⊢; split at he <;> cases he <;> rfl
  | convert s d y =>
    simp only [evalOp, ho] at he ⊢
    split at he
    · exact (evConvX_os _ he).2
    · cases he
  | extract y i =>
    simp only [evalOp, ho] at he ⊢
    split at he
    · split at he <;> cases he; rfl
    · cases he
  | slice t y lo hi mx =>
    simp only [evalOp, ho] at he ⊢
    split at he
    · exact absurd rfl (hobj _)
    · unfold evSlice at he ⊢
      simp only [hbd] at he ⊢
      split at he
      · cases he
      · split at he
        · split at he <;> cases he; rfl
        · split at he <;> cases he; rfl
        · cases he
    · cases he
  | field t y f =>
    simp only [evalOp, ho] at he ⊢
    split at he
    · split at he
      · exact hm he
      · cases he
    · cases he
  | fieldAddr t y f =>
    have hc := hcr (fun _ _ _ h => by cases h)
    have hc2 := hcr2 (fun _ _ _ h => by cases h)
    simp only [evalOp, ho] at he ⊢
    split at he
    · rename_i z hz
      unfold evFieldAddr at he ⊢
      split at he
      · split at he
        · split at he
          · cases he
          · cases he
          · split at he
            · cases he; rfl
            · rename_i id n i j
              obtain ⟨O2, hb, e⟩ := map_some he
              cases e
              have := hl id (touch_of hc hc2 (by simp [Op.operands]) hz (noref_ptr id n i j))
              simp only [halive this, hb]; rfl
            · cases he
        · cases he
      · cases he
    · cases he
  | nilCheck y =>
    have hc := hcr (fun _ _ _ h => by cases h)
    have hc2 := hcr2 (fun _ _ _ h => by cases h)
    simp only [evalOp, ho] at he ⊢
    split at he
    · rename_i id n i j hz
      obtain ⟨O2, hb, e⟩ := map_some he
      cases e
      have := hl id (touch_of hc hc2 (by simp [Op.operands]) hz (noref_ptr id n i j))
      simp only [halive this, hb]; rfl
    · cases he; rfl
    · cases he
  | load t y =>
    have hc := hcr (fun _ _ _ h => by cases h)
    have hc2 := hcr2 (fun _ _ _ h => by cases h)
    simp only [evalOp, ho] at he ⊢
    split at he
    · rename_i z hz
      unfold evLoad at he ⊢
      split at he
      · exact hm he
      · rename_i id n i j
        have := hl id (touch_of hc hc2 (by simp [Op.operands]) hz (noref_ptr id n i j))
        simp only [this] at he ⊢
        generalize look os1 id = L at he ⊢
        split at he
        · split at he
          · rename_i q1 q2
            exact hm he
          · cases he
        · obtain ⟨y, hy, e⟩ := map_some he
          cases e
          rw [hy]; rfl
        · cases he
      · cases he
    · cases he
  | store t x y =>
    exfalso
    cases h with
    | none => exact absurd hk (by show ¬ 2 ≤ 1; omega)
    | some h => cases h <;> first | exact absurd hk (by show ¬ 2 ≤ 1; omega) | exact absurd hk (by show ¬ 4 ≤ 1; omega)
  | indexAddr t y z =>
    have hc := hcr (fun _ _ _ h => by cases h)
    have hc2 := hcr2 (fun _ _ _ h => by cases h)
    simp only [evalOp, ho] at he ⊢
    split at he
    · rename_i u v hu hv
      unfold evIndexAddr at he ⊢
      split at he
      · split at he
        · split at he <;> cases he; rfl
        · cases he
      · rename_i e' id n k i _
        have := hl id (touch_of hc hc2 (by simp [Op.operands]) hu (noref_arr id n))
        simp only [this] at he ⊢
        generalize look os1 id = L at he ⊢
        split at he
        · rename_i q0 q00
          split at he
          · rename_i q1
            cases he
            simp only [q00, q1]
          · cases he
        · cases he
      · cases he
    · cases he
  | index t y z =>
    simp only [evalOp, ho] at he ⊢
    split at he
    · unfold evIndex at he ⊢
      split at he <;> cases he; rfl
    · cases he
  | build t parts =>
    have h1 : ∀ pl cs, fillA GL ⟨e, os2⟩ pl cs parts.toList = fillA GL ⟨e, os1⟩ pl cs parts.toList := fun pl cs => fillA_congr fun p hp => ho _
    simp only [evalOp, h1] at he ⊢
    split at he
    · obtain ⟨O2, hb, e⟩ := map_some he
      cases e
      rw [hb]; rfl
    · cases he
  | buildSlice t n parts =>
    have h1 : ∀ s, partsEls GL ⟨e, os2⟩ s 0 parts.toList = partsEls GL ⟨e, os1⟩ s 0 parts.toList := fun s => partsEls_congr fun p hp => ho _
    simp only [evalOp, h1] at he ⊢
    split at he
    · split at he
      · split at he
        · cases he; rfl
        · cases he; rfl
        · exact absurd rfl (hobj _)
        · cases he
      · cases he
    · cases he
  | call c =>
    obtain ⟨cal, ⟨args⟩, ⟨tys⟩⟩ := c
    cases cal with
    | invoke r m => cases he
    | builtin b =>
      simp only [evalOp, ho] at he ⊢
      split at he
      · split at he
        · unfold evLen at he ⊢; split at he <;> cases he <;> rfl
        · unfold evLen at he ⊢; split at he <;> cases he <;> rfl
        · cases he
      · exfalso
        cases h with
        | none => exact absurd hk (by show ¬ 2 ≤ 1; omega)
        | some h => cases h <;> first | exact absurd hk (by show ¬ 2 ≤ 1; omega) | exact absurd hk (by show ¬ 4 ≤ 1; omega)
      · split at he
        · exact hm he
        · cases he
      · split at he
        · exact hm he
        · cases he
      · cases he
    | value fo =>
      simp only [evalOp, ho] at he ⊢
      split at he
      · rename_i f hfo
        split at he
        · unfold evCall at he ⊢
          have hops : opds GL ⟨e, os2⟩ args = opds GL ⟨e, os1⟩ args := opds_congr fun y hy => ho y
          rw [hops]
          split at he
          · rename_i a b c d
            cases d with
            | nil => exact absurd hk (by show ¬ 2 ≤ 1; omega)
            | cons d e => exact absurd hk (by show ¬ 4 ≤ 1; omega)
          · rename_i ids res
            have hla : lookAll os2 ids = lookAll os1 ids := lookAll_congr fun id hid => hl id (by
              simp only [norefOp, any_mem0 hid, Bool.not_true])
            simp only [hla] at he ⊢
            split at he
            · rename_i a1 a2 a3 q1 q2 q3
              split at he
              · cases he
                simp only [q1, q2, q3]
              · cases he
            · cases he
          · cases he
        · cases he
      · cases he
  | alloc t => simp only [evalOp] at he; split at he <;> first | exact absurd rfl (hobj _) | cases he
  | box t x => simp only [evalOp] at he; split at he <;> first | exact absurd rfl (hobj _) | cases he
  | makeSlice t l c => simp only [evalOp] at he; split at he <;> first | exact absurd rfl (hobj _) | cases he
  | _ => cases he

theorem evalOpH_look {e : List (Nat × AT)} {os1 os2 : Objs} {o : Oper} {h : Option Hint} {x : AT} {os' : Objs} {O : List Prop} (hk : kindOp o h ≤ 1) (he : evalOpH P GL C ⟨e, os1⟩ o h = some (x, os', O))
    (hl : ∀ id, norefOp id GL ⟨e, os1⟩ o h = false → look os2 id = look os1 id) : evalOpH P GL C ⟨e, os2⟩ o h = some (x, os2, O) := by
  unfold evalOpH at he ⊢
  split at he
  · rename_i b
    split at he
    · rename_i y oo O2 he2
      cases he
      rw [evalOp_look (by rw [← kind_H]; exact hk) he2 (fun id hid => hl id hid)]
    · cases he
  · exact evalOp_look hk he hl

/-- an operation that makes an object -/
theorem evalOp_crt {e1 e2 : List (Nat × AT)} {os os' : Objs} {o : Oper} {h : Option Hint} {x : AT} {O : List Prop} (hk : kindOp o h = 3) (he : evalOp P GL C ⟨e1, os⟩ o h = some (x, os', O)) :
    ∃ id ob, h = some (.obj id) ∧ os' = (id, ob) :: os ∧ fresh id ⟨e1, os⟩ = true ∧
      ((∀ y, y ∈ o.op.operands.toList → opd GL ⟨e2, os⟩ y = opd GL ⟨e1, os⟩ y) → fresh id ⟨e2, os⟩ = true → evalOp P GL C ⟨e2, os⟩ o h = some (x, os', O)) := by
  have hh : ∃ id, h = some (.obj id) := by
    unfold kindOp at hk
    split at hk
    · split at hk <;> cases hk
    · split at hk
      · exact ⟨_, rfl⟩
      · cases hk
      · cases hk
      · split at hk <;> cases hk
  obtain ⟨id, rfl⟩ := hh
  obtain ⟨dst, op, ty, pos, after, guard⟩ := o
  have fin : ∀ {ob : Obj} {y : AT} {L : List Prop}, newO ⟨e1, os⟩ id ob y L = some (x, os', O) → ∃ id' ob, (some (Hint.obj id) : Option Hint) = some (.obj id') ∧ os' = (id', ob) :: os ∧ fresh id' ⟨e1, os⟩ = true := by
    intro ob y L h
    obtain ⟨h1, h2, h3, h4⟩ := newO_eq h
    exact ⟨id, ob, rfl, h3, h1⟩
  have fin2 : ∀ {ob : Obj} {y : AT} {L : List Prop}, newO ⟨e1, os⟩ id ob y L = some (x, os', O) → fresh id ⟨e2, os⟩ = true → newO ⟨e2, os⟩ id ob y L = some (x, os', O) := by
    intro ob y L h hf
    obtain ⟨h1, h2, h3, h4⟩ := newO_eq h
    subst h2; subst h3; subst h4
    simp only [newO, hf]
  cases op with
  | move y =>
    simp only [evalOp] at he ⊢
    split at he
    · rename_i heq; cases heq
      split at he
      · obtain ⟨h1, h2, h3, h4⟩ := newO_eq he
        refine ⟨id, _, rfl, h3, h1, fun hop hf => ?_⟩
        exact fin2 he hf
      · cases he
    · rename_i heq; cases heq
    · cases he
  | assign y =>
    simp only [evalOp] at he ⊢
    split at he
    · rename_i heq; cases heq
      split at he
      · obtain ⟨h1, h2, h3, h4⟩ := newO_eq he
        refine ⟨id, _, rfl, h3, h1, fun hop hf => ?_⟩
        exact fin2 he hf
      · cases he
    · rename_i heq; cases heq
    · cases he
  | alloc t =>
    simp only [evalOp] at he ⊢
    split at he
    · rename_i id' cs heq hz
      cases heq
      obtain ⟨h1, h2, h3, h4⟩ := newO_eq he
      refine ⟨id, _, rfl, h3, h1, fun hop hf => ?_⟩
      exact fin2 he hf
    · cases he
  | box t y =>
    simp only [evalOp] at he ⊢
    split at he
    · rename_i id' g cs heq hz
      cases heq
      obtain ⟨h1, h2, h3, h4⟩ := newO_eq he
      refine ⟨id, _, rfl, h3, h1, fun hop hf => ?_⟩
      rw [hop y (by simp [Op.operands]), hz]
      exact fin2 he hf
    · cases he
  | buildSlice t n parts =>
    simp only [evalOp] at he ⊢
    split at he
    · rename_i s zz hs1 hs2
      split at he
      · rename_i els hp h1 h2
        split at he
        · rename_i heq; cases heq
        · rename_i heq; cases heq
        · rename_i ps id' hps heq
          cases heq
          obtain ⟨h1', h2', h3, h4⟩ := newO_eq he
          refine ⟨id, _, rfl, h3, h1', fun hop hf => ?_⟩
          have hpe : partsEls GL ⟨e2, os⟩ s 0 parts.toList = partsEls GL ⟨e1, os⟩ s 0 parts.toList := partsEls_congr fun p hp => hop p.2 (by simp only [Op.operands]; simp; exact ⟨p.1, by simpa using hp⟩)
          rw [hpe, hp]
          simp only [h1, h2, hps]
          exact fin2 he hf
        · cases he
      · cases he
    · cases he
  | makeSlice t l c =>
    simp only [evalOp] at he ⊢
    split at he
    · rename_i id' e n m heq het h1 h2
      cases heq
      split at he
      · rename_i s b z hs1 hs2 hs3
        split at he
        · obtain ⟨h1', h2', h3, h4⟩ := newO_eq he
          refine ⟨id, _, rfl, h3, h1', fun hop hf => ?_⟩
          rename_i q1 q2 q3
          rw [hop l (by simp [Op.operands]), hop c (by simp [Op.operands]), h1, h2]
          simp only [het, hs1, hs2, hs3, q1, q2, q3]
          exact fin2 he hf
        · cases he
      · cases he
    · cases he
  | call c => obtain ⟨cal, _, _⟩ := c; cases cal <;> exact absurd hk (by show ¬ 4 = 3; omega)
  | _ => exact absurd hk (by show ¬ 4 = 3; omega)

/-- what an operation that turns objects leaves -/
theorem look_setAll_ne {id : Nat} : ∀ {ids : List Nat} {os : Objs} {l : List Obj}, ¬ id ∈ ids → look (setAll os ids l) id = look os id
  | [], os, l, _ => by cases l <;> rfl
  | i :: ids, os, [], _ => rfl
  | i :: ids, os, o :: l, h => by
    simp only [setAll]
    rw [look_setAll_ne (fun h' => h (by simp [h'])), look_setO]
    have : i ≠ id := fun e => h (by simp [e])
    split
    · rename_i e; exact absurd e this
    · rfl

theorem lookAll_mem {os : Objs} : ∀ {ids : List Nat} {l : List Obj}, lookAll os ids = some l → ∀ id, id ∈ ids → look os id ≠ none
  | [], l, _, id, h => by cases h
  | i :: ids, l, h, id, hm => by
    simp only [lookAll] at h
    split at h
    · rename_i o r h1 h2
      rcases List.mem_cons.1 hm with rfl | hm
      · rw [h1]; simp
      · exact lookAll_mem h2 id hm
    · cases h

theorem evalOp_mod {e : List (Nat × AT)} {os os' : Objs} {o : Oper} {h : Option Hint} {x : AT} {O : List Prop} (hk : kindOp o h = 2) (he : evalOp P GL C ⟨e, os⟩ o h = some (x, os', O)) {id : Nat}
    (hid : norefOp id GL ⟨e, os⟩ o h = true ∨ look os id = none) : look os' id = look os id := by
  have hobj : ∀ id, h ≠ some (.obj id) := fun id e => by subst e; have := kind_obj (o := o) (id := id); omega
  have hcr : (∀ f args tys, o.op ≠ .call ⟨.value f, args, tys⟩) → ∀ ids r, h ≠ some (.callR ids r) := fun hne ids r e => by
    subst e; obtain ⟨f, a, t, h'⟩ := kind_callR (show kindOp o (some (.callR ids r)) ≤ 3 by omega); exact hne f a t h'
  have hcr2 : (∀ f args tys, o.op ≠ .call ⟨.value f, args, tys⟩) → ∀ ids r a b, h ≠ some (.call ids r a b) := fun hne ids r a b e => by
    subst e; obtain ⟨f, a, t, h'⟩ := kind_call2 (show kindOp o (some (.call ids r a b)) ≤ 3 by omega); exact hne f a t h'
  obtain ⟨dst, op, ty, pos, after, guard⟩ := o
  have set1 : ∀ {i : Nat} {ob ob' : Obj}, look os i = some ob → (norefOp i GL ⟨e, os⟩ ⟨dst, op, ty, pos, after, guard⟩ h = false) → look (setO os i ob') id = look os id := by
    intro i ob ob' h1 h2
    rw [look_setO]
    split
    · rename_i e1
      subst e1
      rcases hid with h3 | h3
      · rw [h2] at h3; cases h3
      · rw [h1] at h3; cases h3
    · rfl
  cases op with
  | store t y z =>
    have hc := hcr (fun _ _ _ h => by cases h)
    have hc2 := hcr2 (fun _ _ _ h => by cases h)
    simp only [evalOp] at he
    split at he
    · rename_i u v hu hv
      unfold evStore at he
      split at he
      · rename_i i n k j _ xs m hm
        have htch := touch_of (o := ⟨dst, .store t y z, ty, pos, after, guard⟩) hc hc2 (by simp [Op.operands]) hu (noref_ptr i n k j)
        split at he
        · cases he
        · split at he
          · rename_i cs hl
            split at he
            · cases he; exact set1 hl htch
            · cases he
          · rename_i s els ps hl
            split at he
            · cases he; exact set1 hl htch
            · cases he
          · cases he
      · cases he
    · cases he
  | call c =>
    obtain ⟨cal, ⟨args⟩, ⟨tys⟩⟩ := c
    cases cal with
    | invoke r m => cases he
    | builtin b =>
      have hc := hcr (fun _ _ _ h => by cases h)
      have hc2 := hcr2 (fun _ _ _ h => by cases h)
      simp only [evalOp] at he
      split at he
      · cases h with
        | none => first | exact absurd hk (by show ¬ 1 = 2; omega) | exact absurd hk (by show ¬ 4 = 2; omega) | exact absurd hk (by show ¬ 0 = 2; omega) | exact absurd hk (by show ¬ 3 = 2; omega)
        | some h => cases h <;> first | exact absurd hk (by show ¬ 1 = 2; omega) | exact absurd hk (by show ¬ 4 = 2; omega) | exact absurd hk (by show ¬ 0 = 2; omega) | exact absurd hk (by show ¬ 3 = 2; omega)
      · rename_i y z t t'
        split at he
        · rename_i u v d hu hv hd
          rcases evAppendX_or he with ⟨els, new, _, _, he2⟩ | he2
          · unfold evAppendC at he2
            split at he2
            · split at he2
              · split at he2
                · cases he2; rfl
                · cases he2
              · cases he2
            · cases he2
          · clear he
            unfold evAppend at he2
            split at he2
            · rename_i e' i n new hel
              have htch := touch_of (o := ⟨dst, .call ⟨.builtin .append, ⟨[y, z]⟩, ⟨[t, t']⟩⟩, ty, pos, after, guard⟩) hc hc2 (by simp [Op.operands, Call.operands]) hu (noref_arr i n)
              split at he2
              · rename_i s els s' by_ zz hl _ _ _
                split at he2
                · cases he2; exact set1 hl htch
                · cases he2
              · cases he2
            · cases he2
        · cases he
      · cases h with
        | none => first | exact absurd hk (by show ¬ 1 = 2; omega) | exact absurd hk (by show ¬ 4 = 2; omega) | exact absurd hk (by show ¬ 0 = 2; omega) | exact absurd hk (by show ¬ 3 = 2; omega)
        | some h => cases h <;> first | exact absurd hk (by show ¬ 1 = 2; omega) | exact absurd hk (by show ¬ 4 = 2; omega) | exact absurd hk (by show ¬ 0 = 2; omega) | exact absurd hk (by show ¬ 3 = 2; omega)
      · cases h with
        | none => first | exact absurd hk (by show ¬ 1 = 2; omega) | exact absurd hk (by show ¬ 4 = 2; omega) | exact absurd hk (by show ¬ 0 = 2; omega) | exact absurd hk (by show ¬ 3 = 2; omega)
        | some h => cases h <;> first | exact absurd hk (by show ¬ 1 = 2; omega) | exact absurd hk (by show ¬ 4 = 2; omega) | exact absurd hk (by show ¬ 0 = 2; omega) | exact absurd hk (by show ¬ 3 = 2; omega)
      · cases he
    | value fo =>
      simp only [evalOp] at he
      split at he
      · rename_i f hfo
        split at he
        · unfold evCall at he
          split at he
          · rename_i ids res os2 new
            cases new with
            | cons d e => exact absurd hk (by show ¬ 4 = 2; omega)
            | nil =>
              split at he
              · rename_i a1 a2 r rs q1 q2 q3 q4
                split at he
                · rename_i os3 _ _ hadd
                  cases he
                  obtain ⟨zs, hz1, hz2⟩ := bind_some q2
                  have hadd' : os' = setAll os ids (rs.take ids.length) := by
                    cases hd : rs.drop ids.length with
                    | nil => rw [hd] at hadd; simp only [addAll] at hadd; cases hadd; rfl
                    | cons a b => rw [hd] at hadd; simp only [addAll] at hadd; cases hadd
                  rw [hadd']
                  refine look_setAll_ne fun hm => ?_
                  rcases hid with h3 | h3
                  · simp only [norefOp, any_mem0 hm, Bool.not_true] at h3; cases h3
                  · exact lookAll_mem hz1 id hm h3
                · cases he
              · cases he
          · rename_i ids res
            exact absurd hk (by show ¬ 1 = 2; omega)
          · cases he
        · cases he
      · cases he
  | _ =>
    cases h with
    | none => first | exact absurd hk (by show ¬ 1 = 2; omega) | exact absurd hk (by show ¬ 4 = 2; omega) | exact absurd hk (by show ¬ 0 = 2; omega) | exact absurd hk (by show ¬ 3 = 2; omega)
    | some h => cases h <;> first | exact absurd hk (by show ¬ 1 = 2; omega) | exact absurd hk (by show ¬ 4 = 2; omega) | exact absurd hk (by show ¬ 0 = 2; omega) | exact absurd hk (by show ¬ 3 = 2; omega)

theorem evalOpH_mod {s : S} {os' : Objs} {o : Oper} {h : Option Hint} {x : AT} {O : List Prop} (hk : kindOp o h = 2) (he : evalOpH P GL C s o h = some (x, os', O)) {id : Nat}
    (hid : norefOp id GL s o h = true ∨ look s.os id = none) : look os' id = look s.os id := by
  unfold evalOpH at he
  split at he
  · rename_i b
    split at he
    · rename_i y oo O2 he2
      cases he
      exact evalOp_mod (e := s.env) (os := s.os) (by rw [← kind_H (b := b)]; exact hk) he2 hid
    · cases he
  · exact evalOp_mod (e := s.env) (os := s.os) hk he hid

def clash (ops : List Oper) (x y : Oper) (hx hy : Option Hint) : Bool :=
  (Nat.ble 2 (kindOp x hx) && Nat.ble 2 (kindOp y hy)) ||
  (match x.dst with | some d => (y.looksAt ops.toArray).any (Nat.beq d) | none => false) || (match y.dst with | some d => (x.looksAt ops.toArray).any (Nat.beq d) | none => false) ||
  (match x.dst, y.dst with | some d, some d' => Nat.beq d d' | _, _ => false)

theorem clash_l {ops : List Oper} {x y : Oper} {hx hy : Option Hint} (h1 : 2 ≤ kindOp x hx) (h2 : 2 ≤ kindOp y hy) : clash ops x y hx hy = true := by
  unfold clash
  rw [Nat.ble_eq_true_of_le h1, Nat.ble_eq_true_of_le h2]; rfl

/-- the state ahead of each operation, and what it comes to, in the order of the text -/
def traceL (P : Program) (GL : List (Nat × List PV)) (C : Spec) (N : Nat) (ops : List Oper) (hs : List (Nat × Hint)) : Nat → List Oper → S → List (S × AT)
  | _, [], _ => []
  | i, o :: rest, st => match wantedA ops st o with
    | some false => (st, .tup []) :: traceL P GL C N ops hs (i + 1) rest ⟨putE st.env o.dst (.tup []), st.os⟩
    | some true => match evalOpH P GL C st o (look hs i) with
      | none => []
      | some (x, os, _) => (st, x) :: traceL P GL C N ops hs (i + 1) rest ⟨putE st.env o.dst x, os⟩
    | none => []

/-- is a new object, that an operation makes, nowhere that others may come to ahead of it? -/
def crtOk (ops : List Oper) (hs : List (Nat × Hint)) (tr : List (S × AT)) (st0 : S) (j id : Nat) : Bool :=
  norefEnv id st0.env && (List.range ops.length).all fun i => match tr[i]? with
    | none => false
    | some (_, x) => Nat.beq i j || ((clo ops []).getD i 0).testBit j || norefA id x

/-- does a reader look at no object that may be there or not? -/
def readOk (GL : List (Nat × List PV)) (ops : List Oper) (hs : List (Nat × Hint)) (tr : List (S × AT)) (j : Nat) (o : Oper) : Bool :=
  match tr[j]? with
  | none => false
  | some (s, _) => (List.range ops.length).all fun c => match ops[c]?, tr[c]? with
    | some b, some (sc, _) => (match look hs c with
      | some (.obj id) => ((clo ops []).getD j 0).testBit c || ((clo ops []).getD c 0).testBit j || norefOp id GL s o (look hs j)
      | _ => true) && (match Nat.beq (kindOp b (look hs c)) 2 with
      | true => ((clo ops []).getD j 0).testBit c || ((clo ops []).getD c 0).testBit j || sc.os.all fun p => norefOp p.1 GL sc b (look hs c) || norefOp p.1 GL s o (look hs j)
      | false => true)
    | _, _ => false

def drawOk (GL : List (Nat × List PV)) (ops : List Oper) (hs : List (Nat × Hint)) (tr : List (S × AT)) (st0 : S) : Bool :=
  (List.range ops.length).all fun j => match ops[j]? with
    | none => true
    | some y => Nat.blt (kindOp y (look hs j)) 4 && (preds y).all (fun p => Nat.blt p j) &&
      ((List.range j).all fun i => match ops[i]? with
        | none => true
        | some x => !clash ops x y (look hs i) (look hs j) || ((clo ops []).getD j 0).testBit i) &&
      (match Nat.beq (kindOp y (look hs j)) 3, look hs j with | true, some (.obj id) => crtOk ops hs tr st0 j id | _, _ => true) &&
      (match Nat.beq (kindOp y (look hs j)) 1 with | true => readOk GL ops hs tr j y | false => true)
end Go.AL
