/- A region whose order Go leaves open: what an operation comes to hangs on its operands, and for some on the objects. -/
import Derived.Test.YthilboheomikjaaGreatDoorA15
namespace Go.AL
set_option linter.unusedVariables false
set_option linter.unusedSimpArgs false
variable {P : Program} {GL : List (Nat × List PV)} {C : Spec}

/-- 0: looks at no object; 1: looks at some; 2: turns some; 3: makes one (or isn't taken here) -/
def kindOp (o : Oper) (h : Option Hint) : Nat :=
  match o.op with
  | .call ⟨.value _, _, _⟩ => match h with
    | some (.call _ _ _ []) => 2
    | some (.callR _ _) => 1
    | _ => 4
  | op => match h with
    | some (.obj _) => match op with
      | .move _ | .assign _ | .alloc _ | .box _ _ | .buildSlice _ _ _ | .makeSlice _ _ _ => 3
      | _ => 4
    | some (.call _ _ _ _) => 4
    | some (.callR _ _) => 4
    | _ => match op with
      | .store _ _ _ => 2
      | .load _ _ | .fieldAddr _ _ _ | .nilCheck _ | .indexAddr _ _ _ => 1
      | .slice _ _ _ _ _ | .field _ _ _ | .index _ _ _ | .build _ _ | .buildSlice _ _ _ => 1
      | .move _ | .assign _ | .pick _ _ _ | .binOp _ _ _ _ _ | .unOp _ _ _ | .convert _ _ _ | .extract _ _ => 0
      | .call ⟨.builtin .append, _, _⟩ => 2
      | .call ⟨.builtin .len, _, _⟩ | .call ⟨.builtin .min, _, _⟩ | .call ⟨.builtin .max, _, _⟩ => 1
      | _ => 4

theorem kind_obj {o : Oper} {id : Nat} : 3 ≤ kindOp o (some (.obj id)) := by
  unfold kindOp; split
  · show 3 ≤ 4; omega
  · simp only []; split <;> omega

theorem kind_call {o : Oper} {a : List Nat} {b : AT} {c : List Obj} {d : Nat} {e : List Nat} : 3 ≤ kindOp o (some (.call a b c (d :: e))) := by
  unfold kindOp; split
  · show 3 ≤ 4; omega
  · show 3 ≤ 4; omega

theorem kind_new {o : Oper} {a : List Nat} {b : AT} {c : List Obj} {d : Nat} {e : List Nat} {f : FuncId} {args : Array Operand} {tys : Array TypeId} (ho : o.op = .call ⟨.value (.func f), args, tys⟩) : 3 ≤ kindOp o (some (.call a b c (d :: e))) := kind_call

section
variable {e1 e2 : List (Nat × AT)} {os : Objs}

theorem partsEls_congr {s1 s2 : S} {s : Nat} : ∀ {parts : List (Nat × Operand)} {k : Nat}, (∀ p, p ∈ parts → opd GL s2 p.2 = opd GL s1 p.2) → partsEls GL s2 s k parts = partsEls GL s1 s k parts
  | [], k, h => rfl
  | (i, x) :: l, k, h => by
    simp only [partsEls]
    rw [h (i, x) (by simp), partsEls_congr fun p hp => h p (by simp [hp])]

theorem fillA_congr {s1 s2 : S} {pl : Nat → Option (Nat × Nat)} : ∀ {parts : List (Nat × Operand)} {cs : List AC}, (∀ p, p ∈ parts → opd GL s2 p.2 = opd GL s1 p.2) → fillA GL s2 pl cs parts = fillA GL s1 pl cs parts
  | [], cs, h => rfl
  | (i, x) :: l, cs, h => by
    have hx := h (i, x) (by simp)
    have hl : ∀ cs, fillA GL s2 pl cs l = fillA GL s1 pl cs l := fun cs => fillA_congr fun p hp => h p (List.mem_cons_of_mem _ hp)
    simp only [fillA, hx, hl]

theorem opds_congr {s1 s2 : S} : ∀ {xs : List Operand}, (∀ y, y ∈ xs → opd GL s2 y = opd GL s1 y) → opds GL s2 xs = opds GL s1 xs
  | [], h => rfl
  | x :: xs, h => by
    have h1 : opdA GL s2 x = opdA GL s1 x := by unfold opdA; split; rfl; exact h x (by simp)
    simp only [opds]; rw [h1, opds_congr fun y hy => h y (by simp [hy])]

theorem bound_congr {s1 s2 : S} {x : Option Operand} {d : Int} (h : ∀ y, y ∈ x.toArray.toList → opd GL s2 y = opd GL s1 y) : bound GL s2 x d = bound GL s1 x d := by
  cases x with
  | none => rfl
  | some y => simp only [bound]; rw [h y (by simp)]

theorem addAll_nil {s1 s2 : S} {base : Objs} (r : List Obj) : addAll s2 base [] r = addAll s1 base [] r := by cases r <;> rfl

theorem evalOp_env {o : Oper} {h : Option Hint} (hop : ∀ y, y ∈ o.op.operands.toList → opd GL ⟨e2, os⟩ y = opd GL ⟨e1, os⟩ y) (hk : kindOp o h < 3) :
    evalOp P GL C ⟨e2, os⟩ o h = evalOp P GL C ⟨e1, os⟩ o h := by
  obtain ⟨dst, op, ty, pos, after, guard⟩ := o
  have hobj : ∀ id, h ≠ some (.obj id) := fun id e => by subst e; have := kind_obj (o := ⟨dst, op, ty, pos, after, guard⟩) (id := id); omega
  cases op with
  | move y =>
    have h1 := hop y (by simp [Op.operands])
    simp only [evalOp]
    split
    · exact absurd rfl (hobj _)
    · rw [h1]
    · rfl
  | assign y =>
    have h1 := hop y (by simp [Op.operands])
    simp only [evalOp]
    split
    · exact absurd rfl (hobj _)
    · rw [h1]
    · rfl
  | pick c x y =>
    have h1 := hop c (by simp [Op.operands]); have h2 := hop x (by simp [Op.operands]); have h3 := hop y (by simp [Op.operands])
    simp only [evalOp, h1, h2, h3]
  | binOp op t x y yt =>
    have h1 := hop x (by simp [Op.operands]); have h2 := hop y (by simp [Op.operands])
    simp only [evalOp, h1, h2]; rfl
  | unOp op t x =>
    have h1 := hop x (by simp [Op.operands])
    simp only [evalOp, h1]
  | convert s d x =>
    have h1 := hop x (by simp [Op.operands])
    simp only [evalOp, h1]; rfl
  | slice t x lo hi mx =>
    have h1 := hop x (by simp [Op.operands])
    have h2 : ∀ d, bound GL ⟨e2, os⟩ lo d = bound GL ⟨e1, os⟩ lo d := fun d => bound_congr fun y hy => hop y (by cases lo <;> simp at hy; subst hy; simp [Op.operands])
    have h3 : ∀ d, bound GL ⟨e2, os⟩ hi d = bound GL ⟨e1, os⟩ hi d := fun d => bound_congr fun y hy => hop y (by cases hi <;> simp at hy; subst hy; simp [Op.operands])
    simp only [evalOp, h1]
    split
    · exact absurd rfl (hobj _)
    · simp only [evSlice, h2, h3]
    · rfl
  | field t x f =>
    have h1 := hop x (by simp [Op.operands])
    simp only [evalOp, h1]
  | fieldAddr t x f =>
    have h1 := hop x (by simp [Op.operands])
    simp only [evalOp, h1]; rfl
  | nilCheck x =>
    have h1 := hop x (by simp [Op.operands])
    simp only [evalOp, h1]; rfl
  | load t x =>
    have h1 := hop x (by simp [Op.operands])
    simp only [evalOp, h1]; rfl
  | store t x y =>
    have h1 := hop x (by simp [Op.operands]); have h2 := hop y (by simp [Op.operands])
    simp only [evalOp, h1, h2]; rfl
  | indexAddr t x y =>
    have h1 := hop x (by simp [Op.operands]); have h2 := hop y (by simp [Op.operands])
    simp only [evalOp, h1, h2]; rfl
  | index t x y =>
    have h1 := hop x (by simp [Op.operands]); have h2 := hop y (by simp [Op.operands])
    simp only [evalOp, h1, h2]; rfl
  | extract x i =>
    have h1 := hop x (by simp [Op.operands])
    simp only [evalOp, h1]
  | build t parts =>
    have h1 : ∀ pl cs, fillA GL ⟨e2, os⟩ pl cs parts.toList = fillA GL ⟨e1, os⟩ pl cs parts.toList := fun pl cs => fillA_congr fun p hp => hop p.2 (by simp only [Op.operands]; simp; exact ⟨p.1, by simpa using hp⟩)
    simp only [evalOp, h1]
  | buildSlice t n parts =>
    have h1 : ∀ s, partsEls GL ⟨e2, os⟩ s 0 parts.toList = partsEls GL ⟨e1, os⟩ s 0 parts.toList := fun s => partsEls_congr fun p hp => hop p.2 (by simp only [Op.operands]; simp; exact ⟨p.1, by simpa using hp⟩)
    simp only [evalOp, h1]
    split
    · split
      · split
        · rfl
        · rfl
        · exact absurd rfl (hobj _)
        · rfl
      · rfl
    · rfl
  | call c =>
    obtain ⟨cal, ⟨args⟩, ⟨tys⟩⟩ := c
    have hargs : ∀ y, y ∈ args → opd GL ⟨e2, os⟩ y = opd GL ⟨e1, os⟩ y := fun y hy => hop y (by simp only [Op.operands, Call.operands]; cases cal <;> simp [hy])
    cases cal with
    | invoke r m => rfl
    | builtin b =>
      simp only [evalOp]
      split
      · rw [hargs _ (by simp)]; rfl
      · rw [hargs _ (by simp), hargs _ (by simp)]; rfl
      · rw [hargs _ (by simp), hargs _ (by simp)]
      · rw [hargs _ (by simp), hargs _ (by simp)]
      · rfl
    | value fo =>
      have hfo : opd GL ⟨e2, os⟩ fo = opd GL ⟨e1, os⟩ fo := hop fo (by simp [Op.operands, Call.operands])
      simp only [evalOp, hfo]
      split
      · split
        · have h1 := opds_congr hargs
          unfold evCall
          rw [h1]
          cases h with
          | none => rfl
          | some h =>
            cases h with
            | call ids res os' new =>
              cases new with
              | nil =>
                have ha : ∀ base r, addAll ⟨e2, os⟩ base [] r = addAll ⟨e1, os⟩ base [] r := fun base r => addAll_nil r
                simp only [ha]
              | cons d e => exact absurd hk (Nat.not_lt.2 kind_call)
            | _ => rfl
        · rfl
      · rfl
  | alloc t => simp only [evalOp]; split <;> first | exact absurd rfl (hobj _) | rfl
  | box t x => simp only [evalOp]; split <;> first | exact absurd rfl (hobj _) | (split <;> first | exact absurd rfl (hobj _) | rfl)
  | makeSlice t l c => simp only [evalOp]; split <;> first | exact absurd rfl (hobj _) | (split <;> first | exact absurd rfl (hobj _) | rfl)
  | _ => rfl

def isZero : Op → Bool
  | .move _ | .assign _ | .pick _ _ _ | .binOp _ _ _ _ _ | .unOp _ _ _ | .convert _ _ _ | .extract _ _ => true
  | _ => false

theorem kind_zero {o : Oper} {h : Option Hint} (hk : kindOp o h = 0) : isZero o.op = true ∧ ∀ id, h ≠ some (.obj id) := by
  refine ⟨?_, fun id e => by subst e; have := kind_obj (o := o) (id := id); omega⟩
  unfold kindOp at hk
  split at hk
  · split at hk <;> cases hk
  · split at hk
    · split at hk <;> omega
    · cases hk
    · cases hk
    · split at hk <;> first | (cases hk; done) | (rename_i heq; rw [heq]; rfl) | (rename_i heq _ _; rw [heq]; rfl) | skip
      all_goals first | rfl | simp_all [isZero]

/-- an operation that looks at no object -/
theorem evalOp_zero {o : Oper} {h : Option Hint} {x : AT} {os' : Objs} {O : List Prop} (hk : kindOp o h = 0) (hop : ∀ y, y ∈ o.op.operands.toList → opd GL ⟨e2, os⟩ y = opd GL ⟨e1, os⟩ y) (o2 : Objs)
    (he : evalOp P GL C ⟨e1, os⟩ o h = some (x, os', O)) : os' = os ∧ evalOp P GL C ⟨e1, o2⟩ o h = some (x, o2, O) := by
  obtain ⟨hz, hobj⟩ := kind_zero hk
  obtain ⟨dst, op, ty, pos, after, guard⟩ := o
  have ho : ∀ y, opd GL ⟨e1, o2⟩ y = opd GL ⟨e1, os⟩ y := fun y => by cases y <;> rfl
  have hm : ∀ {r : Option AT} {x : AT} {os' : Objs} {O : List Prop}, (r.map fun a => ((a, os, []) : AT × Objs × List Prop)) = some (x, os', O) → os' = os ∧ (r.map fun a => ((a, o2, []) : AT × Objs × List Prop)) = some (x, o2, O) := by
    intro r x os' O h
    obtain ⟨y, rfl, e⟩ := map_some h
    cases e; exact ⟨rfl, rfl⟩
  cases op with
  | move y =>
    simp only [evalOp, ho] at he ⊢
    split at he
    · exact absurd rfl (hobj _)
    · exact hm he
    · cases he
  | assign y =>
    simp only [evalOp, ho] at he ⊢
    split at he
    · exact absurd rfl (hobj _)
    · exact hm he
    · cases he
  | pick c y z =>
    simp only [evalOp, ho] at he ⊢
    split at he
    · exact hm he
    · exact hm he
    · cases he
  | binOp op t y z yt =>
    simp only [evalOp, ho] at he ⊢
    split at he
    · split at he
      · split at he
        · cases he; exact ⟨rfl, rfl⟩
        · cases he
      · split at he
        · cases he; exact ⟨rfl, rfl⟩
        · cases he
      · obtain ⟨⟨r, O2⟩, hb, e⟩ := map_some he
        cases e
        refine ⟨rfl, ?_⟩
        rw [hb]; rfl
    · unfold evEqS at he ⊢
      split at he
      · split at he
        · cases he; exact ⟨rfl, rfl⟩
        · cases he; exact ⟨rfl, rfl⟩
        · cases he
      · cases he
    · cases he
  | unOp op t y =>
    simp only [evalOp, ho] at he ⊢
    split at he
    · cases he; exact ⟨rfl, rfl⟩
    · cases he; exact ⟨rfl, rfl⟩
    · cases he
  | convert s d y =>
    simp only [evalOp, ho] at he ⊢
    split at he
    · exact evConvX_os _ he
    · cases he
  | extract y i =>
    simp only [evalOp, ho] at he ⊢
    split at he
    · split at he
      · cases he; exact ⟨rfl, rfl⟩
      · cases he
    · cases he
  | _ => cases hz
end
end Go.AL
