/- A16, A17, A18, A19, A20, L1, P1, R0, G1, G6, Q2, A21, A22, A23, P3, L2, P4 -/
import Derived.Test.YthilboheomikjaaGreatDoorMRRexTimes1
import Derived.Orders
import Derived.Shelf.Small.Strs
import Derived.Shelf.Strconv.Atoi
import Derived.Shelf.Strings.Prefix
import Derived.Shelf.Unicode.Decode
import Derived.Shelf.Unicode.DecodeAny
import Derived.Shelf.Unicode.ValidAny
import Derived.Ground.NamesProg
import Derived.Test.YthilboheomikjaaGreatDoorProg
import Derived.Lib.AtoiErrMem
import Derived.Test.YthilboheomikjaaGreatDoorRows
import Derived.Test.YthilboheomikjaaGreatDoorTie
import Derived.Test.YthilboheomikjaaGreatDoorCards
import Derived.WalkKit
import Derived.ProofKit
import Derived.Lay
import Derived.LaidOnce
import Derived.SevenTiedAt
import Derived.Lib.LaidU8
import Derived.OpenShut
import Derived.ShutString
import Derived.SizedLaws
import Derived.Lib.ValidLaws
import Derived.Laws.Build
import Derived.Laws.Cover3
import Derived.Shelf.Small.Bits
section
namespace Go.AL
set_option linter.unusedVariables false
set_option linter.unusedSimpArgs false
variable {P : Program} {GL : List (Nat × List PV)} {C : Spec}

/-- 0: looks at no object; 1: looks at some; 2: turns some; 3: makes one (or isn't taken here) -/
def kindOp (o : Oper) (h : Option Hint) : Nat :=
  match o.op with
  | .call ⟨.value _, _, _⟩ => match h with
    | some (.call _ _ _ []) => 2
    | some (.callR _ _) => 1
    | _ => 4
  | op => match h with
    | some (.obj _) => match op with
      | .move _ | .assign _ | .alloc _ | .box _ _ | .buildSlice _ _ _ | .makeSlice _ _ _ => 3
      | _ => 4
    | some (.call _ _ _ _) => 4
    | some (.callR _ _) => 4
    | _ => match op with
      | .store _ _ _ => 2
      | .load _ _ | .fieldAddr _ _ _ | .nilCheck _ | .indexAddr _ _ _ => 1
      | .slice _ _ _ _ _ | .field _ _ _ | .index _ _ _ | .build _ _ | .buildSlice _ _ _ => 1
      | .move _ | .assign _ | .pick _ _ _ | .binOp _ _ _ _ _ | .unOp _ _ _ | .convert _ _ _ | .extract _ _ => 0
      | .call ⟨.builtin .append, _, _⟩ => 2
      | .call ⟨.builtin .len, _, _⟩ | .call ⟨.builtin .min, _, _⟩ | .call ⟨.builtin .max, _, _⟩ => 1
      | _ => 4

theorem kind_obj {o : Oper} {id : Nat} : 3 ≤ kindOp o (some (.obj id)) := by
  unfold kindOp; split
  · show 3 ≤ 4; omega
  · simp only []; split <;> omega

theorem kind_call {o : Oper} {a : List Nat} {b : AT} {c : List Obj} {d : Nat} {e : List Nat} : 3 ≤ kindOp o (some (.call a b c (d :: e))) := by
  unfold kindOp; split
  · show 3 ≤ 4; omega
  · show 3 ≤ 4; omega

theorem kind_new {o : Oper} {a : List Nat} {b : AT} {c : List Obj} {d : Nat} {e : List Nat} {f : FuncId} {args : Array Operand} {tys : Array TypeId} (ho : o.op = .call ⟨.value (.func f), args, tys⟩) : 3 ≤ kindOp o (some (.call a b c (d :: e))) := kind_call

section
variable {e1 e2 : List (Nat × AT)} {os : Objs}

theorem partsEls_congr {s1 s2 : S} {s : Nat} : ∀ {parts : List (Nat × Operand)} {k : Nat}, (∀ p, p ∈ parts → opd GL s2 p.2 = opd GL s1 p.2) → partsEls GL s2 s k parts = partsEls GL s1 s k parts
  | [], k, h => rfl
  | (i, x) :: l, k, h => by
    simp only [partsEls]
    rw [h (i, x) (by simp), partsEls_congr fun p hp => h p (by simp [hp])]

theorem fillA_congr {s1 s2 : S} {pl : Nat → Option (Nat × Nat)} : ∀ {parts : List (Nat × Operand)} {cs : List AC}, (∀ p, p ∈ parts → opd GL s2 p.2 = opd GL s1 p.2) → fillA GL s2 pl cs parts = fillA GL s1 pl cs parts
  | [], cs, h => rfl
  | (i, x) :: l, cs, h => by
    have hx := h (i, x) (by simp)
    have hl : ∀ cs, fillA GL s2 pl cs l = fillA GL s1 pl cs l := fun cs => fillA_congr fun p hp => h p (List.mem_cons_of_mem _ hp)
    simp only [fillA, hx, hl]

theorem opds_congr {s1 s2 : S} : ∀ {xs : List Operand}, (∀ y, y ∈ xs → opd GL s2 y = opd GL s1 y) → opds GL s2 xs = opds GL s1 xs
  | [], h => rfl
  | x :: xs, h => by
    have h1 : opdA GL s2 x = opdA GL s1 x := by unfold opdA; split; rfl; exact h x (by simp)
    simp only [opds]; rw [h1, opds_congr fun y hy => h y (by simp [hy])]

theorem bound_congr {s1 s2 : S} {x : Option Operand} {d : Int} (h : ∀ y, y ∈ x.toArray.toList → opd GL s2 y = opd GL s1 y) : bound GL s2 x d = bound GL s1 x d := by
  cases x with
  | none => rfl
  | some y => simp only [bound]; rw [h y (by simp)]

theorem addAll_nil {s1 s2 : S} {base : Objs} (r : List Obj) : addAll s2 base [] r = addAll s1 base [] r := by cases r <;> rfl

theorem evalOp_env {o : Oper} {h : Option Hint} (hop : ∀ y, y ∈ o.op.operands.toList → opd GL ⟨e2, os⟩ y = opd GL ⟨e1, os⟩ y) (hk : kindOp o h < 3) :
    evalOp P GL C ⟨e2, os⟩ o h = evalOp P GL C ⟨e1, os⟩ o h := by
  obtain ⟨dst, op, ty, pos, after, guard⟩ := o
  have hobj : ∀ id, h ≠ some (.obj id) := fun id e => by subst e; have := kind_obj (o := ⟨dst, op, ty, pos, after, guard⟩) (id := id); omega
  cases op with
  | move y =>
    have h1 := hop y (by simp [Op.operands])
    simp only [evalOp]
    split
    · exact absurd rfl (hobj _)
    · rw [h1]
    · rfl
  | assign y =>
    have h1 := hop y (by simp [Op.operands])
    simp only [evalOp]
    split
    · exact absurd rfl (hobj _)
    · rw [h1]
    · rfl
  | pick c x y =>
    have h1 := hop c (by simp [Op.operands]); have h2 := hop x (by simp [Op.operands]); have h3 := hop y (by simp [Op.operands])
    simp only [evalOp, h1, h2, h3]
  | binOp op t x y yt =>
    have h1 := hop x (by simp [Op.operands]); have h2 := hop y (by simp [Op.operands])
    simp only [evalOp, h1, h2]; rfl
  | unOp op t x =>
    have h1 := hop x (by simp [Op.operands])
    simp only [evalOp, h1]
  | convert s d x =>
    have h1 := hop x (by simp [Op.operands])
    simp only [evalOp, h1]; rfl
  | slice t x lo hi mx =>
    have h1 := hop x (by simp [Op.operands])
    have h2 : ∀ d, bound GL ⟨e2, os⟩ lo d = bound GL ⟨e1, os⟩ lo d := fun d => bound_congr fun y hy => hop y (by cases lo <;> simp at hy; subst hy; simp [Op.operands])
    have h3 : ∀ d, bound GL ⟨e2, os⟩ hi d = bound GL ⟨e1, os⟩ hi d := fun d => bound_congr fun y hy => hop y (by cases hi <;> simp at hy; subst hy; simp [Op.operands])
    simp only [evalOp, h1]
    split
    · exact absurd rfl (hobj _)
    · simp only [evSlice, h2, h3]
    · rfl
  | field t x f =>
    have h1 := hop x (by simp [Op.operands])
    simp only [evalOp, h1]
  | fieldAddr t x f =>
    have h1 := hop x (by simp [Op.operands])
    simp only [evalOp, h1]; rfl
  | nilCheck x =>
    have h1 := hop x (by simp [Op.operands])
    simp only [evalOp, h1]; rfl
  | load t x =>
    have h1 := hop x (by simp [Op.operands])
    simp only [evalOp, h1]; rfl
  | store t x y =>
    have h1 := hop x (by simp [Op.operands]); have h2 := hop y (by simp [Op.operands])
    simp only [evalOp, h1, h2]; rfl
  | indexAddr t x y =>
    have h1 := hop x (by simp [Op.operands]); have h2 := hop y (by simp [Op.operands])
    simp only [evalOp, h1, h2]; rfl
  | index t x y =>
    have h1 := hop x (by simp [Op.operands]); have h2 := hop y (by simp [Op.operands])
    simp only [evalOp, h1, h2]; rfl
  | extract x i =>
    have h1 := hop x (by simp [Op.operands])
    simp only [evalOp, h1]
  | build t parts =>
    have h1 : ∀ pl cs, fillA GL ⟨e2, os⟩ pl cs parts.toList = fillA GL ⟨e1, os⟩ pl cs parts.toList := fun pl cs => fillA_congr fun p hp => hop p.2 (by simp only [Op.operands]; simp; exact ⟨p.1, by simpa using hp⟩)
    simp only [evalOp, h1]
  | buildSlice t n parts =>
    have h1 : ∀ s, partsEls GL ⟨e2, os⟩ s 0 parts.toList = partsEls GL ⟨e1, os⟩ s 0 parts.toList := fun s => partsEls_congr fun p hp => hop p.2 (by simp only [Op.operands]; simp; exact ⟨p.1, by simpa using hp⟩)
    simp only [evalOp, h1]
    split
    · split
      · split
        · rfl
        · rfl
        · exact absurd rfl (hobj _)
        · rfl
      · rfl
    · rfl
  | call c =>
    obtain ⟨cal, ⟨args⟩, ⟨tys⟩⟩ := c
    have hargs : ∀ y, y ∈ args → opd GL ⟨e2, os⟩ y = opd GL ⟨e1, os⟩ y := fun y hy => hop y (by simp only [Op.operands, Call.operands]; cases cal <;> simp [hy])
    cases cal with
    | invoke r m => rfl
    | builtin b =>
      simp only [evalOp]
      split
      · rw [hargs _ (by simp)]; rfl
      · rw [hargs _ (by simp), hargs _ (by simp)]; rfl
      · rw [hargs _ (by simp), hargs _ (by simp)]
      · rw [hargs _ (by simp), hargs _ (by simp)]
      · rfl
    | value fo =>
      have hfo : opd GL ⟨e2, os⟩ fo = opd GL ⟨e1, os⟩ fo := hop fo (by simp [Op.operands, Call.operands])
      simp only [evalOp, hfo]
      split
      · split
        · have h1 := opds_congr hargs
          unfold evCall
          rw [h1]
          cases h with
          | none => rfl
          | some h =>
            cases h with
            | call ids res os' new =>
              cases new with
              | nil =>
                have ha : ∀ base r, addAll ⟨e2, os⟩ base [] r = addAll ⟨e1, os⟩ base [] r := fun base r => addAll_nil r
                simp only [ha]
              | cons d e => exact absurd hk (Nat.not_lt.2 kind_call)
            | _ => rfl
        · rfl
      · rfl
  | alloc t => simp only [evalOp]; split <;> first | exact absurd rfl (hobj _) | rfl
  | box t x => simp only [evalOp]; split <;> first | exact absurd rfl (hobj _) | (split <;> first | exact absurd rfl (hobj _) | rfl)
  | makeSlice t l c => simp only [evalOp]; split <;> first | exact absurd rfl (hobj _) | (split <;> first | exact absurd rfl (hobj _) | rfl)
  | _ => rfl

def isZero : Op → Bool
  | .move _ | .assign _ | .pick _ _ _ | .binOp _ _ _ _ _ | .unOp _ _ _ | .convert _ _ _ | .extract _ _ => true
  | _ => false

theorem kind_zero {o : Oper} {h : Option Hint} (hk : kindOp o h = 0) : isZero o.op = true ∧ ∀ id, h ≠ some (.obj id) := by
  refine ⟨?_, fun id e => by subst e; have := kind_obj (o := o) (id := id); omega⟩
  unfold kindOp at hk
  split at hk
  · split at hk <;> cases hk
  · split at hk
    · split at hk <;> omega
    · cases hk
    · cases hk
    · split at hk <;> first | (cases hk; done) | (rename_i heq; rw [heq]; rfl) | (rename_i heq _ _; rw [heq]; rfl) | skip
      all_goals first | rfl | simp_all [isZero]

/-- an operation that looks at no object -/
theorem evalOp_zero {o : Oper} {h : Option Hint} {x : AT} {os' : Objs} {O : List Prop} (hk : kindOp o h = 0) (hop : ∀ y, y ∈ o.op.operands.toList → opd GL ⟨e2, os⟩ y = opd GL ⟨e1, os⟩ y) (o2 : Objs)
    (he : evalOp P GL C ⟨e1, os⟩ o h = some (x, os', O)) : os' = os ∧ evalOp P GL C ⟨e1, o2⟩ o h = some (x, o2, O) := by
  obtain ⟨hz, hobj⟩ := kind_zero hk
  obtain ⟨dst, op, ty, pos, after, guard⟩ := o
  have ho : ∀ y, opd GL ⟨e1, o2⟩ y = opd GL ⟨e1, os⟩ y := fun y => by cases y <;> rfl
  have hm : ∀ {r : Option AT} {x : AT} {os' : Objs} {O : List Prop}, (r.map fun a => ((a, os, []) : AT × Objs × List Prop)) = some (x, os', O) → os' = os ∧ (r.map fun a => ((a, o2, []) : AT × Objs × List Prop)) = some (x, o2, O) := by
    intro r x os' O h
    obtain ⟨y, rfl, e⟩ := map_some h
    cases e; exact ⟨rfl, rfl⟩
  cases op with
  | move y =>
    simp only [evalOp, ho] at he ⊢
    split at he
    · exact absurd rfl (hobj _)
    · exact hm he
    · cases he
  | assign y =>
    simp only [evalOp, ho] at he ⊢
    split at he
    · exact absurd rfl (hobj _)
    · exact hm he
    · cases he
  | pick c y z =>
    simp only [evalOp, ho] at he ⊢
    split at he
    · exact hm he
    · exact hm he
    · cases he
  | binOp op t y z yt =>
    simp only [evalOp, ho] at he ⊢
    split at he
    · split at he
      · split at he
        · cases he; exact ⟨rfl, rfl⟩
        · cases he
      · split at he
        · cases he; exact ⟨rfl, rfl⟩
        · cases he
      · obtain ⟨⟨r, O2⟩, hb, e⟩ := map_some he
        cases e
        refine ⟨rfl, ?_⟩
        rw [hb]; rfl
    · unfold evEqS at he ⊢
      split at he
      · split at he
        · cases he; exact ⟨rfl, rfl⟩
        · cases he; exact ⟨rfl, rfl⟩
        · cases he
      · cases he
    · cases he
  | unOp op t y =>
    simp only [evalOp, ho] at he ⊢
    split at he
    · cases he; exact ⟨rfl, rfl⟩
    · cases he; exact ⟨rfl, rfl⟩
    · cases he
  | convert s d y =>
    simp only [evalOp, ho] at he ⊢
    split at he
    · exact evConvX_os _ he
    · cases he
  | extract y i =>
    simp only [evalOp, ho] at he ⊢
    split at he
    · split at he
      · cases he; exact ⟨rfl, rfl⟩
      · cases he
    · cases he
  | _ => cases hz
end
end Go.AL
end

section
namespace Go.AL
set_option linter.unusedVariables false
set_option linter.unusedSimpArgs false
variable {P : Program} {GL : List (Nat × List PV)} {C : Spec} {N : Nat}

theorem evalOp_same {st : S} {o : Oper} {h : Option Hint} {x : AT} {os' : Objs} {O : List Prop} (hk : kindOp o h ≤ 1) (he : evalOp P GL C st o h = some (x, os', O)) : os' = st.os := by
  have hm : ∀ {r : Option AT} {x : AT} {os' : Objs} {O L : List Prop}, (r.map fun a => ((a, st.os, L) : AT × Objs × List Prop)) = some (x, os', O) → os' = st.os := by
    intro r x os' O L h
    obtain ⟨y, rfl, e⟩ := map_some h
    cases e; rfl
  have hobj : ∀ id, h ≠ some (.obj id) := fun id e => by subst e; have := kind_obj (o := o) (id := id); omega
  obtain ⟨dst, op, ty, pos, after, guard⟩ := o
  cases op with
  | move y =>
    simp only [evalOp] at he
    split at he
    · exact absurd rfl (hobj _)
    · exact hm he
    · cases he
  | assign y =>
    simp only [evalOp] at he
    split at he
    · exact absurd rfl (hobj _)
    · exact hm he
    · cases he
  | pick c y z => simp only [evalOp] at he; split at he <;> first | exact hm he | cases he
  | binOp op t y z yt =>
    simp only [evalOp] at he
    split at he
    · split at he
      · split at he <;> cases he; rfl
      · split at he <;> cases he; rfl
      · obtain ⟨⟨r, O2⟩, hb, e⟩ := map_some he
        cases e; rfl
    · unfold evEqS at he
      split at he
      · split at he <;> cases he <;> rfl
      · cases he
    · cases he
  | unOp op t y => simp only [evalOp] at he; split at he <;> cases he <;> rfl
  | convert s d y =>
    simp only [evalOp] at he
    split at he
    · exact (evConvX_os st he).1
    · cases he
  | extract y i =>
    simp only [evalOp] at he
    split at he
    · split at he <;> cases he; rfl
    · cases he
  | slice t x lo hi mx =>
    simp only [evalOp] at he
    split at he
    · exact absurd rfl (hobj _)
    · unfold evSlice at he
      split at he
      · cases he
      · split at he
        · split at he <;> cases he; rfl
        · split at he <;> cases he; rfl
        · cases he
    · cases he
  | field t x f =>
    simp only [evalOp] at he
    split at he
    · split at he
      · exact hm he
      · cases he
    · cases he
  | fieldAddr t x f =>
    simp only [evalOp] at he
    split at he
    · unfold evFieldAddr at he
      split at he
      · split at he
        · split at he
          · cases he
          · cases he
          · split at he
            · cases he; rfl
            · obtain ⟨O2, hb, e⟩ := map_some he
              cases e; rfl
            · cases he
        · cases he
      · cases he
    · cases he
  | nilCheck x =>
    simp only [evalOp] at he
    split at he
    · obtain ⟨O2, hb, e⟩ := map_some he
      cases e; rfl
    · cases he; rfl
    · cases he
  | load t x =>
    simp only [evalOp] at he
    split at he
    · unfold evLoad at he
      split at he
      · exact hm he
      · split at he
        · split at he
          · exact hm he
          · cases he
        · exact hm he
        · cases he
      · cases he
    · cases he
  | store t x y =>
    exfalso
    cases h with
    | none => exact absurd hk (by show ¬ 2 ≤ 1; omega)
    | some h => cases h <;> first | exact absurd hk (by show ¬ 2 ≤ 1; omega) | exact absurd hk (by show ¬ 4 ≤ 1; omega)
  | indexAddr t x y =>
    simp only [evalOp] at he
    split at he
    · unfold evIndexAddr at he
      split at he
      · split at he
        · split at he <;> cases he; rfl
        · cases he
      · split at he
        · split at he <;> cases he; rfl
        · cases he
      · cases he
    · cases he
  | index t x y =>
    simp only [evalOp] at he
    split at he
    · unfold evIndex at he
      split at he <;> cases he; rfl
    · cases he
  | build t parts =>
    simp only [evalOp] at he
    split at he
    · obtain ⟨O2, hb, e⟩ := map_some he
      cases e; rfl
    · cases he
  | buildSlice t n parts =>
    simp only [evalOp] at he
    split at he
    · split at he
      · split at he
        · cases he; rfl
        · cases he; rfl
        · exact absurd rfl (hobj _)
        · cases he
      · cases he
    · cases he
  | call c =>
    obtain ⟨cal, ⟨args⟩, ⟨tys⟩⟩ := c
    cases cal with
    | invoke r m => cases he
    | builtin b =>
      simp only [evalOp] at he
      split at he
      · split at he
        · unfold evLen at he; split at he <;> cases he <;> rfl
        · unfold evLen at he; split at he <;> cases he <;> rfl
        · cases he
      · exfalso
        cases h with
        | none => exact absurd hk (by show ¬ 2 ≤ 1; omega)
        | some h => cases h <;> first | exact absurd hk (by show ¬ 2 ≤ 1; omega) | exact absurd hk (by show ¬ 4 ≤ 1; omega)
      · split at he
        · exact hm he
        · cases he
      · split at he
        · exact hm he
        · cases he
      · cases he
    | value fo =>
      simp only [evalOp] at he
      split at he
      · rename_i f hfo
        split at he
        · unfold evCall at he
          split at he
          · rename_i a b c d
            cases d with
            | nil => exact absurd hk (by show ¬ 2 ≤ 1; omega)
            | cons d e => exact absurd hk (by show ¬ 4 ≤ 1; omega)
          · split at he
            · split at he <;> cases he; rfl
            · cases he
          · cases he
        · cases he
      · cases he
  | alloc t => simp only [evalOp] at he; split at he <;> first | exact absurd rfl (hobj _) | cases he
  | box t x => simp only [evalOp] at he; split at he <;> first | exact absurd rfl (hobj _) | cases he
  | makeSlice t l c => simp only [evalOp] at he; split at he <;> first | exact absurd rfl (hobj _) | cases he
  | _ => cases he

theorem kind_H {o : Oper} {b : Bool} : kindOp o (some (.bool b)) = kindOp o none := by
  unfold kindOp; split <;> rfl

/-- with the flag that an operation's bool is told -/
theorem evalOpH_env {e1 e2 : List (Nat × AT)} {os : Objs} {o : Oper} {h : Option Hint} (hop : ∀ y, y ∈ o.op.operands.toList → opd GL ⟨e2, os⟩ y = opd GL ⟨e1, os⟩ y) (hk : kindOp o h < 3) :
    evalOpH P GL C ⟨e2, os⟩ o h = evalOpH P GL C ⟨e1, os⟩ o h := by
  unfold evalOpH
  split
  · rw [evalOp_env hop (by rw [← kind_H]; exact hk)]
  · exact evalOp_env hop hk

theorem evalOpH_zero {e1 : List (Nat × AT)} {os : Objs} {o : Oper} {h : Option Hint} {x : AT} {os' : Objs} {O : List Prop} (hk : kindOp o h = 0) (o2 : Objs)
    (he : evalOpH P GL C ⟨e1, os⟩ o h = some (x, os', O)) : os' = os ∧ evalOpH P GL C ⟨e1, o2⟩ o h = some (x, o2, O) := by
  unfold evalOpH at he ⊢
  split at he
  · rename_i b
    split at he
    · rename_i y oo O2 he2
      cases he
      obtain ⟨h1, h2⟩ := evalOp_zero (e2 := e1) (by rw [← kind_H]; exact hk) (fun _ _ => rfl) o2 he2
      exact ⟨h1, by rw [h2]⟩
    · cases he
  · exact evalOp_zero (e2 := e1) hk (fun _ _ => rfl) o2 he

theorem evalOpH_same {st : S} {o : Oper} {h : Option Hint} {x : AT} {os' : Objs} {O : List Prop} (hk : kindOp o h ≤ 1) (he : evalOpH P GL C st o h = some (x, os', O)) : os' = st.os := by
  unfold evalOpH at he
  split at he
  · rename_i b
    split at he
    · rename_i y oo O2 he2
      cases he
      exact evalOp_same (by rw [← kind_H]; exact hk) he2
    · cases he
  · exact evalOp_same hk he

/-! ### the order -/
def preds (o : Oper) : List Nat := (o.after.toList.filter (Region.binds .any)).map (·.on)

def maskOf (ps : List Nat) (acc : List Nat) : Nat := ps.foldl (fun m p => m ||| (1 <<< p) ||| acc.getD p 0) 0

def clo : List Oper → List Nat → List Nat
  | [], acc => acc
  | o :: l, acc => clo l (acc ++ [maskOf (preds o) acc])

theorem mask_bit (acc : List Nat) (i : Nat) : ∀ (ps : List Nat) (m : Nat), (ps.foldl (fun m p => m ||| (1 <<< p) ||| acc.getD p 0) m).testBit i = true →
    m.testBit i = true ∨ ∃ p, p ∈ ps ∧ (p = i ∨ (acc.getD p 0).testBit i = true)
  | [], m, h => .inl h
  | p :: ps, m, h => by
    rcases mask_bit acc i ps _ h with h | ⟨q, hq, hr⟩
    · rw [Nat.testBit_or, Nat.testBit_or] at h
      simp only [Bool.or_eq_true] at h
      rcases h with (h | h) | h
      · exact .inl h
      · right
        refine ⟨p, by simp, .inl ?_⟩
        rw [Nat.shiftLeft_eq, Nat.one_mul, Nat.testBit_two_pow] at h
        simpa using h
      · exact .inr ⟨p, by simp, .inr h⟩
    · exact .inr ⟨q, by simp [hq], hr⟩

theorem clo_spec : ∀ (l : List Oper) (acc : List Nat), (∀ k, k < acc.length → (clo l acc).getD k 0 = acc.getD k 0) ∧
    ∀ (k : Nat) (o : Oper), l[k]? = some o → ∀ i, ((clo l acc).getD (acc.length + k) 0).testBit i = true → ∃ p, p ∈ preds o ∧ (p = i ∨ (p < acc.length + k ∧ ((clo l acc).getD p 0).testBit i = true))
  | [], acc => ⟨fun k _ => rfl, fun k o h => by simp at h⟩
  | o :: l, acc => by
    obtain ⟨h1, h2⟩ := clo_spec l (acc ++ [maskOf (preds o) acc])
    have hlen : (acc ++ [maskOf (preds o) acc]).length = acc.length + 1 := by simp
    have hold : ∀ k, k < acc.length → (clo (o :: l) acc).getD k 0 = acc.getD k 0 := fun k hk => by
      show (clo l _).getD k 0 = _
      rw [h1 k (by omega)]
      simp [List.getElem?_append_left hk]
    refine ⟨hold, fun k o' ho i hb => ?_⟩
    cases k with
    | zero =>
      simp at ho; subst ho
      have hm : (clo (o :: l) acc).getD (acc.length + 0) 0 = maskOf (preds o) acc := by
        show (clo l _).getD _ 0 = _
        rw [h1 _ (by omega)]
        simp
      rw [hm] at hb
      rcases mask_bit acc i (preds o) 0 hb with h | ⟨p, hp, hr⟩
      · simp at h
      · refine ⟨p, hp, hr.imp id fun h => ?_⟩
        have hlt : p < acc.length := by
          rcases Nat.lt_or_ge p acc.length with h' | h'
          · exact h'
          · simp [List.getElem?_eq_none h'] at h
        exact ⟨hlt, by rw [hold p hlt]; exact h⟩
    | succ k =>
      have ho' : l[k]? = some o' := by simpa using ho
      have e : acc.length + (k + 1) = (acc ++ [maskOf (preds o) acc]).length + k := by omega
      have hb' : ((clo l (acc ++ [maskOf (preds o) acc])).getD ((acc ++ [maskOf (preds o) acc]).length + k) 0).testBit i = true := by rw [← e]; exact hb
      obtain ⟨p, hp, hr⟩ := h2 k o' ho' i hb'
      exact ⟨p, hp, hr.imp id fun ⟨h, h'⟩ => ⟨by omega, h'⟩⟩

/-- a set of operations that holds what each of its own waits for -/
def Closed (ops : List Oper) (L : Nat → Prop) : Prop := ∀ (j : Nat) (o : Oper), ops[j]? = some o → L j → ∀ p, p ∈ preds o → L p

theorem clo_in {ops : List Oper} {L : Nat → Prop} (hL : Closed ops L) : ∀ (j : Nat) (o : Oper), ops[j]? = some o → (∀ p, p ∈ preds o → L p) → (∀ (k : Nat) (o' : Oper), ops[k]? = some o' → k ≤ j → ∀ p, p ∈ preds o' → p < k) →
    ∀ i, ((clo ops []).getD j 0).testBit i = true → L i := by
  intro j
  induction j using Nat.strongRecOn with
  | _ j ih =>
    intro o ho hp hlt i hb
    obtain ⟨p, hpp, hr⟩ := (clo_spec ops []).2 j o ho i (by simpa using hb)
    rcases hr with rfl | ⟨_, hr⟩
    · exact hp p hpp
    · have hpj := hlt j o ho (Nat.le_refl _) p hpp
      cases ho' : ops[p]? with
      | none =>
        have h1 := List.getElem?_eq_none_iff.1 ho'
        have h2 := (List.getElem?_eq_some_iff.1 ho).1
        omega
      | some o' => exact ih p hpj o' ho' (fun q hq => hL p o' ho' (hp p hpp) q hq) (fun k o'' h1 h2 => hlt k o'' h1 (by omega)) i hr

theorem any_mem0 {l : List Nat} {d : Nat} (h : d ∈ l) : l.any (Nat.beq d) = true := List.any_eq_true.2 ⟨d, h, Nat.beq_refl d⟩

/-! ### what an operation touches -/
def norefOp (id : Nat) (GL : List (Nat × List PV)) (st : S) (o : Oper) (h : Option Hint) : Bool :=
  match h with
  | some (.callR ids _) => !(ids.any (Nat.beq id))
  | some (.call ids _ _ _) => !(ids.any (Nat.beq id))
  | _ => o.op.operands.toList.all fun y => match opd GL st y with | some a => norefA id a | none => true

theorem touch_of {id : Nat} {st : S} {o : Oper} {h : Option Hint} {y : Operand} {a : AT} (hh : ∀ ids r, h ≠ some (.callR ids r)) (hh2 : ∀ ids r a b, h ≠ some (.call ids r a b)) (hy : y ∈ o.op.operands.toList) (ho : opd GL st y = some a) (hr : norefA id a = false) : norefOp id GL st o h = false := by
  unfold norefOp
  split
  · exact absurd rfl (hh _ _)
  · exact absurd rfl (hh2 _ _ _ _)
  · rw [List.all_eq_false]
    exact ⟨y, hy, by simp [ho, hr]⟩

theorem noref_ptr (id n i j : Nat) : norefA id (.val false [.ptr id n i j]) = false := by simp [norefA, norefL, norefC, Nat.beq_refl]
theorem noref_arr (id n : Nat) : norefA id (.val false [.arr id n]) = false := by simp [norefA, norefL, norefC, Nat.beq_refl]

theorem lookAll_congr {os1 os2 : Objs} : ∀ {ids : List Nat}, (∀ id, id ∈ ids → look os2 id = look os1 id) → lookAll os2 ids = lookAll os1 ids
  | [], _ => rfl
  | id :: ids, h => by simp only [lookAll]; rw [h id (by simp), lookAll_congr fun i hi => h i (by simp [hi])]

theorem kind_callR {o : Oper} {ids : List Nat} {r : AT} (hk : kindOp o (some (.callR ids r)) ≤ 3) : ∃ f args tys, o.op = .call ⟨.value f, args, tys⟩ := by
  unfold kindOp at hk
  split at hk
  · rename_i h; exact ⟨_, _, _, h⟩
  · simp only [] at hk; omega

theorem kind_call2 {o : Oper} {ids : List Nat} {r : AT} {a : List Obj} {b : List Nat} (hk : kindOp o (some (.call ids r a b)) ≤ 3) : ∃ f args tys, o.op = .call ⟨.value f, args, tys⟩ := by
  unfold kindOp at hk
  split at hk
  · rename_i h; exact ⟨_, _, _, h⟩
  · simp only [] at hk; omega

theorem opd_os {e : List (Nat × AT)} {os1 os2 : Objs} (y : Operand) : opd GL ⟨e, os2⟩ y = opd GL ⟨e, os1⟩ y := by cases y <;> rfl

theorem evalOp_look {e : List (Nat × AT)} {os1 os2 : Objs} {o : Oper} {h : Option Hint} {x : AT} {os' : Objs} {O : List Prop} (hk : kindOp o h ≤ 1) (he : evalOp P GL C ⟨e, os1⟩ o h = some (x, os', O))
    (hl : ∀ id, norefOp id GL ⟨e, os1⟩ o h = false → look os2 id = look os1 id) : evalOp P GL C ⟨e, os2⟩ o h = some (x, os2, O) := by
  have hm : ∀ {r : Option AT} {x : AT} {os' : Objs} {O : List Prop}, (r.map fun a => ((a, os1, []) : AT × Objs × List Prop)) = some (x, os', O) → (r.map fun a => ((a, os2, []) : AT × Objs × List Prop)) = some (x, os2, O) := by
    intro r x os' O h
    obtain ⟨y, rfl, e⟩ := map_some h
    cases e; rfl
  have ho : ∀ y, opd GL ⟨e, os2⟩ y = opd GL ⟨e, os1⟩ y := opd_os
  have hobj : ∀ id, h ≠ some (.obj id) := fun id e => by subst e; have := kind_obj (o := o) (id := id); omega
  have hcr : (∀ f args tys, o.op ≠ .call ⟨.value f, args, tys⟩) → ∀ ids r, h ≠ some (.callR ids r) := fun hne ids r e => by
    subst e; obtain ⟨f, a, t, h'⟩ := kind_callR (show kindOp o (some (.callR ids r)) ≤ 3 by omega); exact hne f a t h'
  have hcr2 : (∀ f args tys, o.op ≠ .call ⟨.value f, args, tys⟩) → ∀ ids r a b, h ≠ some (.call ids r a b) := fun hne ids r a b e => by
    subst e; obtain ⟨f, a, t, h'⟩ := kind_call2 (show kindOp o (some (.call ids r a b)) ≤ 3 by omega); exact hne f a t h'
  obtain ⟨dst, op, ty, pos, after, guard⟩ := o
  have hbd : ∀ (x : Option Operand) (d : Int), bound GL ⟨e, os2⟩ x d = bound GL ⟨e, os1⟩ x d := fun x d => by cases x with | none => rfl | some y => simp only [bound, ho]
  have halive : ∀ {id n : Nat}, look os2 id = look os1 id → alive ⟨e, os2⟩ id n = alive ⟨e, os1⟩ id n := fun h => by simp only [alive, h]
  cases op with
  | move y => simp only [evalOp, ho] at he ⊢; split at he <;> first | exact absurd rfl (hobj _) | exact hm he | cases he
  | assign y => simp only [evalOp, ho] at he ⊢; split at he <;> first | exact absurd rfl (hobj _) | exact hm he | cases he
  | pick c y z => simp only [evalOp, ho] at he ⊢; split at he <;> first | exact hm he | cases he
  | binOp op t y z yt =>
    simp only [evalOp, ho] at he ⊢
    split at he
    · split at he
      · split at he <;> cases he; rfl
      · split at he <;> cases he; rfl
      · obtain ⟨⟨r, O2⟩, hb, e⟩ := map_some he
        cases e
        rw [hb]; rfl
    · unfold evEqS at he ⊢
      split at he
      · split at he <;> cases he <;> rfl
      · cases he
    · cases he
  | unOp op t y => simp only [evalOp, ho] at he ⊢; split at he <;> cases he <;> rfl
  | convert s d y =>
    simp only [evalOp, ho] at he ⊢
    split at he
    · exact (evConvX_os _ he).2
    · cases he
  | extract y i =>
    simp only [evalOp, ho] at he ⊢
    split at he
    · split at he <;> cases he; rfl
    · cases he
  | slice t y lo hi mx =>
    simp only [evalOp, ho] at he ⊢
    split at he
    · exact absurd rfl (hobj _)
    · unfold evSlice at he ⊢
      simp only [hbd] at he ⊢
      split at he
      · cases he
      · split at he
        · split at he <;> cases he; rfl
        · split at he <;> cases he; rfl
        · cases he
    · cases he
  | field t y f =>
    simp only [evalOp, ho] at he ⊢
    split at he
    · split at he
      · exact hm he
      · cases he
    · cases he
  | fieldAddr t y f =>
    have hc := hcr (fun _ _ _ h => by cases h)
    have hc2 := hcr2 (fun _ _ _ h => by cases h)
    simp only [evalOp, ho] at he ⊢
    split at he
    · rename_i z hz
      unfold evFieldAddr at he ⊢
      split at he
      · split at he
        · split at he
          · cases he
          · cases he
          · split at he
            · cases he; rfl
            · rename_i id n i j
              obtain ⟨O2, hb, e⟩ := map_some he
              cases e
              have := hl id (touch_of hc hc2 (by simp [Op.operands]) hz (noref_ptr id n i j))
              simp only [halive this, hb]; rfl
            · cases he
        · cases he
      · cases he
    · cases he
  | nilCheck y =>
    have hc := hcr (fun _ _ _ h => by cases h)
    have hc2 := hcr2 (fun _ _ _ h => by cases h)
    simp only [evalOp, ho] at he ⊢
    split at he
    · rename_i id n i j hz
      obtain ⟨O2, hb, e⟩ := map_some he
      cases e
      have := hl id (touch_of hc hc2 (by simp [Op.operands]) hz (noref_ptr id n i j))
      simp only [halive this, hb]; rfl
    · cases he; rfl
    · cases he
  | load t y =>
    have hc := hcr (fun _ _ _ h => by cases h)
    have hc2 := hcr2 (fun _ _ _ h => by cases h)
    simp only [evalOp, ho] at he ⊢
    split at he
    · rename_i z hz
      unfold evLoad at he ⊢
      split at he
      · exact hm he
      · rename_i id n i j
        have := hl id (touch_of hc hc2 (by simp [Op.operands]) hz (noref_ptr id n i j))
        simp only [this] at he ⊢
        generalize look os1 id = L at he ⊢
        split at he
        · split at he
          · rename_i q1 q2
            exact hm he
          · cases he
        · obtain ⟨y, hy, e⟩ := map_some he
          cases e
          rw [hy]; rfl
        · cases he
      · cases he
    · cases he
  | store t x y =>
    exfalso
    cases h with
    | none => exact absurd hk (by show ¬ 2 ≤ 1; omega)
    | some h => cases h <;> first | exact absurd hk (by show ¬ 2 ≤ 1; omega) | exact absurd hk (by show ¬ 4 ≤ 1; omega)
  | indexAddr t y z =>
    have hc := hcr (fun _ _ _ h => by cases h)
    have hc2 := hcr2 (fun _ _ _ h => by cases h)
    simp only [evalOp, ho] at he ⊢
    split at he
    · rename_i u v hu hv
      unfold evIndexAddr at he ⊢
      split at he
      · split at he
        · split at he <;> cases he; rfl
        · cases he
      · rename_i e' id n k i _
        have := hl id (touch_of hc hc2 (by simp [Op.operands]) hu (noref_arr id n))
        simp only [this] at he ⊢
        generalize look os1 id = L at he ⊢
        split at he
        · rename_i q0 q00
          split at he
          · rename_i q1
            cases he
            simp only [q00, q1]
          · cases he
        · cases he
      · cases he
    · cases he
  | index t y z =>
    simp only [evalOp, ho] at he ⊢
    split at he
    · unfold evIndex at he ⊢
      split at he <;> cases he; rfl
    · cases he
  | build t parts =>
    have h1 : ∀ pl cs, fillA GL ⟨e, os2⟩ pl cs parts.toList = fillA GL ⟨e, os1⟩ pl cs parts.toList := fun pl cs => fillA_congr fun p hp => ho _
    simp only [evalOp, h1] at he ⊢
    split at he
    · obtain ⟨O2, hb, e⟩ := map_some he
      cases e
      rw [hb]; rfl
    · cases he
  | buildSlice t n parts =>
    have h1 : ∀ s, partsEls GL ⟨e, os2⟩ s 0 parts.toList = partsEls GL ⟨e, os1⟩ s 0 parts.toList := fun s => partsEls_congr fun p hp => ho _
    simp only [evalOp, h1] at he ⊢
    split at he
    · split at he
      · split at he
        · cases he; rfl
        · cases he; rfl
        · exact absurd rfl (hobj _)
        · cases he
      · cases he
    · cases he
  | call c =>
    obtain ⟨cal, ⟨args⟩, ⟨tys⟩⟩ := c
    cases cal with
    | invoke r m => cases he
    | builtin b =>
      simp only [evalOp, ho] at he ⊢
      split at he
      · split at he
        · unfold evLen at he ⊢; split at he <;> cases he <;> rfl
        · unfold evLen at he ⊢; split at he <;> cases he <;> rfl
        · cases he
      · exfalso
        cases h with
        | none => exact absurd hk (by show ¬ 2 ≤ 1; omega)
        | some h => cases h <;> first | exact absurd hk (by show ¬ 2 ≤ 1; omega) | exact absurd hk (by show ¬ 4 ≤ 1; omega)
      · split at he
        · exact hm he
        · cases he
      · split at he
        · exact hm he
        · cases he
      · cases he
    | value fo =>
      simp only [evalOp, ho] at he ⊢
      split at he
      · rename_i f hfo
        split at he
        · unfold evCall at he ⊢
          have hops : opds GL ⟨e, os2⟩ args = opds GL ⟨e, os1⟩ args := opds_congr fun y hy => ho y
          rw [hops]
          split at he
          · rename_i a b c d
            cases d with
            | nil => exact absurd hk (by show ¬ 2 ≤ 1; omega)
            | cons d e => exact absurd hk (by show ¬ 4 ≤ 1; omega)
          · rename_i ids res
            have hla : lookAll os2 ids = lookAll os1 ids := lookAll_congr fun id hid => hl id (by
              simp only [norefOp, any_mem0 hid, Bool.not_true])
            simp only [hla] at he ⊢
            split at he
            · rename_i a1 a2 a3 q1 q2 q3
              split at he
              · cases he
                simp only [q1, q2, q3]
              · cases he
            · cases he
          · cases he
        · cases he
      · cases he
  | alloc t => simp only [evalOp] at he; split at he <;> first | exact absurd rfl (hobj _) | cases he
  | box t x => simp only [evalOp] at he; split at he <;> first | exact absurd rfl (hobj _) | cases he
  | makeSlice t l c => simp only [evalOp] at he; split at he <;> first | exact absurd rfl (hobj _) | cases he
  | _ => cases he

theorem evalOpH_look {e : List (Nat × AT)} {os1 os2 : Objs} {o : Oper} {h : Option Hint} {x : AT} {os' : Objs} {O : List Prop} (hk : kindOp o h ≤ 1) (he : evalOpH P GL C ⟨e, os1⟩ o h = some (x, os', O))
    (hl : ∀ id, norefOp id GL ⟨e, os1⟩ o h = false → look os2 id = look os1 id) : evalOpH P GL C ⟨e, os2⟩ o h = some (x, os2, O) := by
  unfold evalOpH at he ⊢
  split at he
  · rename_i b
    split at he
    · rename_i y oo O2 he2
      cases he
      rw [evalOp_look (by rw [← kind_H]; exact hk) he2 (fun id hid => hl id hid)]
    · cases he
  · exact evalOp_look hk he hl

/-- an operation that makes an object -/
theorem evalOp_crt {e1 e2 : List (Nat × AT)} {os os' : Objs} {o : Oper} {h : Option Hint} {x : AT} {O : List Prop} (hk : kindOp o h = 3) (he : evalOp P GL C ⟨e1, os⟩ o h = some (x, os', O)) :
    ∃ id ob, h = some (.obj id) ∧ os' = (id, ob) :: os ∧ fresh id ⟨e1, os⟩ = true ∧
      ((∀ y, y ∈ o.op.operands.toList → opd GL ⟨e2, os⟩ y = opd GL ⟨e1, os⟩ y) → fresh id ⟨e2, os⟩ = true → evalOp P GL C ⟨e2, os⟩ o h = some (x, os', O)) := by
  have hh : ∃ id, h = some (.obj id) := by
    unfold kindOp at hk
    split at hk
    · split at hk <;> cases hk
    · split at hk
      · exact ⟨_, rfl⟩
      · cases hk
      · cases hk
      · split at hk <;> cases hk
  obtain ⟨id, rfl⟩ := hh
  obtain ⟨dst, op, ty, pos, after, guard⟩ := o
  have fin : ∀ {ob : Obj} {y : AT} {L : List Prop}, newO ⟨e1, os⟩ id ob y L = some (x, os', O) → ∃ id' ob, (some (Hint.obj id) : Option Hint) = some (.obj id') ∧ os' = (id', ob) :: os ∧ fresh id' ⟨e1, os⟩ = true := by
    intro ob y L h
    obtain ⟨h1, h2, h3, h4⟩ := newO_eq h
    exact ⟨id, ob, rfl, h3, h1⟩
  have fin2 : ∀ {ob : Obj} {y : AT} {L : List Prop}, newO ⟨e1, os⟩ id ob y L = some (x, os', O) → fresh id ⟨e2, os⟩ = true → newO ⟨e2, os⟩ id ob y L = some (x, os', O) := by
    intro ob y L h hf
    obtain ⟨h1, h2, h3, h4⟩ := newO_eq h
    subst h2; subst h3; subst h4
    simp only [newO, hf]
  cases op with
  | move y =>
    simp only [evalOp] at he ⊢
    split at he
    · rename_i heq; cases heq
      split at he
      · obtain ⟨h1, h2, h3, h4⟩ := newO_eq he
        refine ⟨id, _, rfl, h3, h1, fun hop hf => ?_⟩
        exact fin2 he hf
      · cases he
    · rename_i heq; cases heq
    · cases he
  | assign y =>
    simp only [evalOp] at he ⊢
    split at he
    · rename_i heq; cases heq
      split at he
      · obtain ⟨h1, h2, h3, h4⟩ := newO_eq he
        refine ⟨id, _, rfl, h3, h1, fun hop hf => ?_⟩
        exact fin2 he hf
      · cases he
    · rename_i heq; cases heq
    · cases he
  | alloc t =>
    simp only [evalOp] at he ⊢
    split at he
    · rename_i id' cs heq hz
      cases heq
      obtain ⟨h1, h2, h3, h4⟩ := newO_eq he
      refine ⟨id, _, rfl, h3, h1, fun hop hf => ?_⟩
      exact fin2 he hf
    · cases he
  | box t y =>
    simp only [evalOp] at he ⊢
    split at he
    · rename_i id' g cs heq hz
      cases heq
      obtain ⟨h1, h2, h3, h4⟩ := newO_eq he
      refine ⟨id, _, rfl, h3, h1, fun hop hf => ?_⟩
      rw [hop y (by simp [Op.operands]), hz]
      exact fin2 he hf
    · cases he
  | buildSlice t n parts =>
    simp only [evalOp] at he ⊢
    split at he
    · rename_i s zz hs1 hs2
      split at he
      · rename_i els hp h1 h2
        split at he
        · rename_i heq; cases heq
        · rename_i heq; cases heq
        · rename_i ps id' hps heq
          cases heq
          obtain ⟨h1', h2', h3, h4⟩ := newO_eq he
          refine ⟨id, _, rfl, h3, h1', fun hop hf => ?_⟩
          have hpe : partsEls GL ⟨e2, os⟩ s 0 parts.toList = partsEls GL ⟨e1, os⟩ s 0 parts.toList := partsEls_congr fun p hp => hop p.2 (by simp only [Op.operands]; simp; exact ⟨p.1, by simpa using hp⟩)
          rw [hpe, hp]
          simp only [h1, h2, hps]
          exact fin2 he hf
        · cases he
      · cases he
    · cases he
  | makeSlice t l c =>
    simp only [evalOp] at he ⊢
    split at he
    · rename_i id' e n m heq het h1 h2
      cases heq
      split at he
      · rename_i s b z hs1 hs2 hs3
        split at he
        · obtain ⟨h1', h2', h3, h4⟩ := newO_eq he
          refine ⟨id, _, rfl, h3, h1', fun hop hf => ?_⟩
          rename_i q1 q2 q3
          rw [hop l (by simp [Op.operands]), hop c (by simp [Op.operands]), h1, h2]
          simp only [het, hs1, hs2, hs3, q1, q2, q3]
          exact fin2 he hf
        · cases he
      · cases he
    · cases he
  | call c => obtain ⟨cal, _, _⟩ := c; cases cal <;> exact absurd hk (by show ¬ 4 = 3; omega)
  | _ => exact absurd hk (by show ¬ 4 = 3; omega)

/-- what an operation that turns objects leaves -/
theorem look_setAll_ne {id : Nat} : ∀ {ids : List Nat} {os : Objs} {l : List Obj}, ¬ id ∈ ids → look (setAll os ids l) id = look os id
  | [], os, l, _ => by cases l <;> rfl
  | i :: ids, os, [], _ => rfl
  | i :: ids, os, o :: l, h => by
    simp only [setAll]
    rw [look_setAll_ne (fun h' => h (by simp [h'])), look_setO]
    have : i ≠ id := fun e => h (by simp [e])
    split
    · rename_i e; exact absurd e this
    · rfl

theorem lookAll_mem {os : Objs} : ∀ {ids : List Nat} {l : List Obj}, lookAll os ids = some l → ∀ id, id ∈ ids → look os id ≠ none
  | [], l, _, id, h => by cases h
  | i :: ids, l, h, id, hm => by
    simp only [lookAll] at h
    split at h
    · rename_i o r h1 h2
      rcases List.mem_cons.1 hm with rfl | hm
      · rw [h1]; simp
      · exact lookAll_mem h2 id hm
    · cases h

theorem evalOp_mod {e : List (Nat × AT)} {os os' : Objs} {o : Oper} {h : Option Hint} {x : AT} {O : List Prop} (hk : kindOp o h = 2) (he : evalOp P GL C ⟨e, os⟩ o h = some (x, os', O)) {id : Nat}
    (hid : norefOp id GL ⟨e, os⟩ o h = true ∨ look os id = none) : look os' id = look os id := by
  have hobj : ∀ id, h ≠ some (.obj id) := fun id e => by subst e; have := kind_obj (o := o) (id := id); omega
  have hcr : (∀ f args tys, o.op ≠ .call ⟨.value f, args, tys⟩) → ∀ ids r, h ≠ some (.callR ids r) := fun hne ids r e => by
    subst e; obtain ⟨f, a, t, h'⟩ := kind_callR (show kindOp o (some (.callR ids r)) ≤ 3 by omega); exact hne f a t h'
  have hcr2 : (∀ f args tys, o.op ≠ .call ⟨.value f, args, tys⟩) → ∀ ids r a b, h ≠ some (.call ids r a b) := fun hne ids r a b e => by
    subst e; obtain ⟨f, a, t, h'⟩ := kind_call2 (show kindOp o (some (.call ids r a b)) ≤ 3 by omega); exact hne f a t h'
  obtain ⟨dst, op, ty, pos, after, guard⟩ := o
  have set1 : ∀ {i : Nat} {ob ob' : Obj}, look os i = some ob → (norefOp i GL ⟨e, os⟩ ⟨dst, op, ty, pos, after, guard⟩ h = false) → look (setO os i ob') id = look os id := by
    intro i ob ob' h1 h2
    rw [look_setO]
    split
    · rename_i e1
      subst e1
      rcases hid with h3 | h3
      · rw [h2] at h3; cases h3
      · rw [h1] at h3; cases h3
    · rfl
  cases op with
  | store t y z =>
    have hc := hcr (fun _ _ _ h => by cases h)
    have hc2 := hcr2 (fun _ _ _ h => by cases h)
    simp only [evalOp] at he
    split at he
    · rename_i u v hu hv
      unfold evStore at he
      split at he
      · rename_i i n k j _ xs m hm
        have htch := touch_of (o := ⟨dst, .store t y z, ty, pos, after, guard⟩) hc hc2 (by simp [Op.operands]) hu (noref_ptr i n k j)
        split at he
        · cases he
        · split at he
          · rename_i cs hl
            split at he
            · cases he; exact set1 hl htch
            · cases he
          · rename_i s els ps hl
            split at he
            · cases he; exact set1 hl htch
            · cases he
          · cases he
      · cases he
    · cases he
  | call c =>
    obtain ⟨cal, ⟨args⟩, ⟨tys⟩⟩ := c
    cases cal with
    | invoke r m => cases he
    | builtin b =>
      have hc := hcr (fun _ _ _ h => by cases h)
      have hc2 := hcr2 (fun _ _ _ h => by cases h)
      simp only [evalOp] at he
      split at he
      · cases h with
        | none => first | exact absurd hk (by show ¬ 1 = 2; omega) | exact absurd hk (by show ¬ 4 = 2; omega) | exact absurd hk (by show ¬ 0 = 2; omega) | exact absurd hk (by show ¬ 3 = 2; omega)
        | some h => cases h <;> first | exact absurd hk (by show ¬ 1 = 2; omega) | exact absurd hk (by show ¬ 4 = 2; omega) | exact absurd hk (by show ¬ 0 = 2; omega) | exact absurd hk (by show ¬ 3 = 2; omega)
      · rename_i y z t t'
        split at he
        · rename_i u v d hu hv hd
          rcases evAppendX_or he with ⟨els, new, _, _, he2⟩ | he2
          · unfold evAppendC at he2
            split at he2
            · split at he2
              · split at he2
                · cases he2; rfl
                · cases he2
              · cases he2
            · cases he2
          · clear he
            unfold evAppend at he2
            split at he2
            · rename_i e' i n new hel
              have htch := touch_of (o := ⟨dst, .call ⟨.builtin .append, ⟨[y, z]⟩, ⟨[t, t']⟩⟩, ty, pos, after, guard⟩) hc hc2 (by simp [Op.operands, Call.operands]) hu (noref_arr i n)
              split at he2
              · rename_i s els s' by_ zz hl _ _ _
                split at he2
                · cases he2; exact set1 hl htch
                · cases he2
              · cases he2
            · cases he2
        · cases he
      · cases h with
        | none => first | exact absurd hk (by show ¬ 1 = 2; omega) | exact absurd hk (by show ¬ 4 = 2; omega) | exact absurd hk (by show ¬ 0 = 2; omega) | exact absurd hk (by show ¬ 3 = 2; omega)
        | some h => cases h <;> first | exact absurd hk (by show ¬ 1 = 2; omega) | exact absurd hk (by show ¬ 4 = 2; omega) | exact absurd hk (by show ¬ 0 = 2; omega) | exact absurd hk (by show ¬ 3 = 2; omega)
      · cases h with
        | none => first | exact absurd hk (by show ¬ 1 = 2; omega) | exact absurd hk (by show ¬ 4 = 2; omega) | exact absurd hk (by show ¬ 0 = 2; omega) | exact absurd hk (by show ¬ 3 = 2; omega)
        | some h => cases h <;> first | exact absurd hk (by show ¬ 1 = 2; omega) | exact absurd hk (by show ¬ 4 = 2; omega) | exact absurd hk (by show ¬ 0 = 2; omega) | exact absurd hk (by show ¬ 3 = 2; omega)
      · cases he
    | value fo =>
      simp only [evalOp] at he
      split at he
      · rename_i f hfo
        split at he
        · unfold evCall at he
          split at he
          · rename_i ids res os2 new
            cases new with
            | cons d e => exact absurd hk (by show ¬ 4 = 2; omega)
            | nil =>
              split at he
              · rename_i a1 a2 r rs q1 q2 q3 q4
                split at he
                · rename_i os3 _ _ hadd
                  cases he
                  obtain ⟨zs, hz1, hz2⟩ := bind_some q2
                  have hadd' : os' = setAll os ids (rs.take ids.length) := by
                    cases hd : rs.drop ids.length with
                    | nil => rw [hd] at hadd; simp only [addAll] at hadd; cases hadd; rfl
                    | cons a b => rw [hd] at hadd; simp only [addAll] at hadd; cases hadd
                  rw [hadd']
                  refine look_setAll_ne fun hm => ?_
                  rcases hid with h3 | h3
                  · simp only [norefOp, any_mem0 hm, Bool.not_true] at h3; cases h3
                  · exact lookAll_mem hz1 id hm h3
                · cases he
              · cases he
          · rename_i ids res
            exact absurd hk (by show ¬ 1 = 2; omega)
          · cases he
        · cases he
      · cases he
  | _ =>
    cases h with
    | none => first | exact absurd hk (by show ¬ 1 = 2; omega) | exact absurd hk (by show ¬ 4 = 2; omega) | exact absurd hk (by show ¬ 0 = 2; omega) | exact absurd hk (by show ¬ 3 = 2; omega)
    | some h => cases h <;> first | exact absurd hk (by show ¬ 1 = 2; omega) | exact absurd hk (by show ¬ 4 = 2; omega) | exact absurd hk (by show ¬ 0 = 2; omega) | exact absurd hk (by show ¬ 3 = 2; omega)

theorem evalOpH_mod {s : S} {os' : Objs} {o : Oper} {h : Option Hint} {x : AT} {O : List Prop} (hk : kindOp o h = 2) (he : evalOpH P GL C s o h = some (x, os', O)) {id : Nat}
    (hid : norefOp id GL s o h = true ∨ look s.os id = none) : look os' id = look s.os id := by
  unfold evalOpH at he
  split at he
  · rename_i b
    split at he
    · rename_i y oo O2 he2
      cases he
      exact evalOp_mod (e := s.env) (os := s.os) (by rw [← kind_H (b := b)]; exact hk) he2 hid
    · cases he
  · exact evalOp_mod (e := s.env) (os := s.os) hk he hid

def clash (ops : List Oper) (x y : Oper) (hx hy : Option Hint) : Bool :=
  (Nat.ble 2 (kindOp x hx) && Nat.ble 2 (kindOp y hy)) ||
  (match x.dst with | some d => (y.looksAt ops.toArray).any (Nat.beq d) | none => false) || (match y.dst with | some d => (x.looksAt ops.toArray).any (Nat.beq d) | none => false) ||
  (match x.dst, y.dst with | some d, some d' => Nat.beq d d' | _, _ => false)

theorem clash_l {ops : List Oper} {x y : Oper} {hx hy : Option Hint} (h1 : 2 ≤ kindOp x hx) (h2 : 2 ≤ kindOp y hy) : clash ops x y hx hy = true := by
  unfold clash
  rw [Nat.ble_eq_true_of_le h1, Nat.ble_eq_true_of_le h2]; rfl

/-- the state ahead of each operation, and what it comes to, in the order of the text -/
def traceL (P : Program) (GL : List (Nat × List PV)) (C : Spec) (N : Nat) (ops : List Oper) (hs : List (Nat × Hint)) : Nat → List Oper → S → List (S × AT)
  | _, [], _ => []
  | i, o :: rest, st => match wantedA ops st o with
    | some false => (st, .tup []) :: traceL P GL C N ops hs (i + 1) rest ⟨putE st.env o.dst (.tup []), st.os⟩
    | some true => match evalOpH P GL C st o (look hs i) with
      | none => []
      | some (x, os, _) => (st, x) :: traceL P GL C N ops hs (i + 1) rest ⟨putE st.env o.dst x, os⟩
    | none => []

/-- is a new object, that an operation makes, nowhere that others may come to ahead of it? -/
def crtOk (ops : List Oper) (hs : List (Nat × Hint)) (tr : List (S × AT)) (st0 : S) (j id : Nat) : Bool :=
  norefEnv id st0.env && (List.range ops.length).all fun i => match tr[i]? with
    | none => false
    | some (_, x) => Nat.beq i j || ((clo ops []).getD i 0).testBit j || norefA id x

/-- does a reader look at no object that may be there or not? -/
def readOk (GL : List (Nat × List PV)) (ops : List Oper) (hs : List (Nat × Hint)) (tr : List (S × AT)) (j : Nat) (o : Oper) : Bool :=
  match tr[j]? with
  | none => false
  | some (s, _) => (List.range ops.length).all fun c => match ops[c]?, tr[c]? with
    | some b, some (sc, _) => (match look hs c with
      | some (.obj id) => ((clo ops []).getD j 0).testBit c || ((clo ops []).getD c 0).testBit j || norefOp id GL s o (look hs j)
      | _ => true) && (match Nat.beq (kindOp b (look hs c)) 2 with
      | true => ((clo ops []).getD j 0).testBit c || ((clo ops []).getD c 0).testBit j || sc.os.all fun p => norefOp p.1 GL sc b (look hs c) || norefOp p.1 GL s o (look hs j)
      | false => true)
    | _, _ => false

def drawOk (GL : List (Nat × List PV)) (ops : List Oper) (hs : List (Nat × Hint)) (tr : List (S × AT)) (st0 : S) : Bool :=
  (List.range ops.length).all fun j => match ops[j]? with
    | none => true
    | some y => Nat.blt (kindOp y (look hs j)) 4 && (preds y).all (fun p => Nat.blt p j) &&
      ((List.range j).all fun i => match ops[i]? with
        | none => true
        | some x => !clash ops x y (look hs i) (look hs j) || ((clo ops []).getD j 0).testBit i) &&
      (match Nat.beq (kindOp y (look hs j)) 3, look hs j with | true, some (.obj id) => crtOk ops hs tr st0 j id | _, _ => true) &&
      (match Nat.beq (kindOp y (look hs j)) 1 with | true => readOk GL ops hs tr j y | false => true)
end Go.AL
end

section
namespace Go.AL
variable {D : List Deferred}
set_option linter.unusedVariables false
set_option linter.unusedSimpArgs false
variable {P : Program} {GL : List (Nat × List PV)} {C : Spec} {N : Nat}

/-- what one operation did, in the order of the text -/
def StepOk (P : Program) (GL : List (Nat × List PV)) (C : Spec) (N : Nat) (ops : List Oper) (hs : List (Nat × Hint)) (f : Nat → S) (x : Nat → AT) (i : Nat) (o : Oper) : Prop :=
  dstOk N o = true ∧ (f (i + 1)).env = putE (f i).env o.dst (x i) ∧
    ((wantedA ops (f i) o = some false ∧ x i = .tup [] ∧ (f (i + 1)).os = (f i).os) ∨ (wantedA ops (f i) o = some true ∧ ∃ O, evalOpH P GL C (f i) o (look hs i) = some (x i, (f (i + 1)).os, O) ∧ All O))

theorem trace_of {ops : List Oper} {hs : List (Nat × Hint)} : ∀ (rest : List Oper) (i : Nat) (st st' : S) (O : List Prop), evalOps P GL C N ops hs i rest st = some (st', O) → All O →
    ∃ (f : Nat → S) (x : Nat → AT), f i = st ∧ f (i + rest.length) = st' ∧ ∀ (k : Nat) (o : Oper), rest[k]? = some o → StepOk P GL C N ops hs f x (i + k) o ∧ (traceL P GL C N ops hs i rest st)[k]? = some (f (i + k), x (i + k))
  | [], i, st, st', O, h, hO => by cases h; exact ⟨fun _ => st, fun _ => .tup [], rfl, rfl, fun k o h => by simp at h⟩
  | o :: rest, i, st, st', O, h, hO => by
    simp only [evalOps] at h
    have go : ∀ (y : AT) (s1 : S) (O' : List Prop), evalOps P GL C N ops hs (i + 1) rest s1 = some (st', O') → All O' → (dstOk N o = true ∧ s1.env = putE st.env o.dst y ∧
        ((wantedA ops st o = some false ∧ y = .tup [] ∧ s1.os = st.os) ∨ (wantedA ops st o = some true ∧ ∃ O, evalOpH P GL C st o (look hs i) = some (y, s1.os, O) ∧ All O))) →
        traceL P GL C N ops hs i (o :: rest) st = (st, y) :: traceL P GL C N ops hs (i + 1) rest s1 →
        ∃ (f : Nat → S) (x : Nat → AT), f i = st ∧ f (i + (o :: rest).length) = st' ∧ ∀ (k : Nat) (o' : Oper), (o :: rest)[k]? = some o' → StepOk P GL C N ops hs f x (i + k) o' ∧ (traceL P GL C N ops hs i (o :: rest) st)[k]? = some (f (i + k), x (i + k)) := by
      intro y s1 O' h1 h2 h3 h4
      obtain ⟨f, x, e1, e2, e3⟩ := trace_of rest (i + 1) s1 st' O' h1 h2
      refine ⟨fun j => if j = i then st else f j, fun j => if j = i then y else x j, by simp, ?_, fun k o' hk => ?_⟩
      · simp only [List.length_cons]
        rw [if_neg (by omega), show i + (rest.length + 1) = i + 1 + rest.length from by omega]; exact e2
      · cases k with
        | zero =>
          simp at hk; subst hk
          rw [h4]
          refine ⟨?_, by simp⟩
          unfold StepOk
          simp only [Nat.add_zero, if_true]
          rw [if_neg (by omega), e1]
          exact h3
        | succ k =>
          obtain ⟨this, htr⟩ := e3 k o' (by simpa using hk)
          rw [h4]
          refine ⟨?_, by
            rw [List.getElem?_cons_succ, htr]
            simp only
            rw [if_neg (by omega), if_neg (by omega), show i + (k + 1) = i + 1 + k from by omega]⟩
          unfold StepOk at this ⊢
          simp only
          rw [if_neg (by omega), if_neg (by omega), if_neg (by omega), show i + (k + 1) = i + 1 + k from by omega]
          exact this
    split at h
    · rename_i hw hd
      exact go (.tup []) _ O h hO ⟨hd, rfl, .inl ⟨hw, rfl, rfl⟩⟩ (by simp only [traceL, hw])
    · rename_i hw hd
      split at h
      · cases h
      · rename_i y os1 O1 he
        split at h
        · cases h
        · rename_i st2 O2 h2
          cases h
          obtain ⟨q1, q2⟩ := hO.append
          exact go y _ O2 h2 q2 ⟨hd, rfl, .inr ⟨hw, O1, he, q1⟩⟩ (by simp only [traceL, hw, he])
    · cases h

section
variable {ops : List Oper} {hs : List (Nat × Hint)} {f : Nat → S} {x : Nat → AT} {st : S}

/-- the last one that wrote a slot -/
theorem env_look (h0 : f 0 = st) (hst : ∀ (k : Nat) (o : Oper), ops[k]? = some o → StepOk P GL C N ops hs f x k o) : ∀ (j : Nat), j ≤ ops.length → ∀ t y, look (f j).env t = some y →
    (∃ (i : Nat) (o : Oper), i < j ∧ ops[i]? = some o ∧ o.dst = some t ∧ y = x i ∧ ∀ (i' : Nat) (o' : Oper), i < i' → i' < j → ops[i']? = some o' → o'.dst ≠ some t) ∨
    ((∀ (i : Nat) (o : Oper), i < j → ops[i]? = some o → o.dst ≠ some t) ∧ look st.env t = some y)
  | 0, _, t, y, h => .inr ⟨fun i o hi => by omega, by rw [← h0]; exact h⟩
  | j + 1, hj, t, y, h => by
    have ho := List.getElem?_eq_getElem (l := ops) (i := j) (by omega)
    obtain ⟨_, he, _⟩ := hst j _ ho
    rw [he] at h
    cases hd : (ops[j]).dst with
    | none =>
      rw [hd] at h
      simp only [putE] at h
      rcases env_look h0 hst j (by omega) t y h with ⟨i, o, h1, h2, h3, h4, h5⟩ | ⟨h1, h2⟩
      · refine .inl ⟨i, o, by omega, h2, h3, h4, fun i' o' q1 q2 q3 => ?_⟩
        by_cases e : i' = j
        · subst e; rw [ho] at q3; cases q3; rw [hd]; simp
        · exact h5 i' o' q1 (by omega) q3
      · refine .inr ⟨fun i o q1 q2 => ?_, h2⟩
        by_cases e : i = j
        · subst e; rw [ho] at q2; cases q2; rw [hd]; simp
        · exact h1 i o (by omega) q2
    | some d =>
      rw [hd] at h
      simp only [putE, look_cons] at h
      by_cases e : d = t
      · subst e
        rw [if_pos rfl] at h; cases h
        exact .inl ⟨j, _, by omega, ho, hd, rfl, fun i' o' q1 q2 => by omega⟩
      · rw [if_neg e] at h
        rcases env_look h0 hst j (by omega) t y h with ⟨i, o, h1, h2, h3, h4, h5⟩ | ⟨h1, h2⟩
        · refine .inl ⟨i, o, by omega, h2, h3, h4, fun i' o' q1 q2 q3 => ?_⟩
          by_cases e' : i' = j
          · subst e'; rw [ho] at q3; cases q3; rw [hd]; simpa using e
          · exact h5 i' o' q1 (by omega) q3
        · refine .inr ⟨fun i o q1 q2 => ?_, h2⟩
          by_cases e' : i = j
          · subst e'; rw [ho] at q2; cases q2; rw [hd]; simpa using e
          · exact h1 i o (by omega) q2

/-- nothing turns objects between: they are the same -/
theorem os_const (hst : ∀ (k : Nat) (o : Oper), ops[k]? = some o → StepOk P GL C N ops hs f x k o) :
    ∀ (d j : Nat), j + d ≤ ops.length → (∀ (i : Nat) (o : Oper), j ≤ i → i < j + d → ops[i]? = some o → kindOp o (look hs i) ≤ 1) → (f (j + d)).os = (f j).os
  | 0, j, _, _ => rfl
  | d + 1, j, hj, h => by
    have ho := List.getElem?_eq_getElem (l := ops) (i := j + d) (by omega)
    have ih := os_const hst d j (by omega) (fun i o h1 h2 => h i o h1 (by omega))
    obtain ⟨_, _, hw⟩ := hst (j + d) _ ho
    rw [show j + (d + 1) = j + d + 1 from rfl, ← ih]
    rcases hw with ⟨_, _, e⟩ | ⟨_, O, e, _⟩
    · exact e
    · exact evalOpH_same (h (j + d) _ (by omega) (by omega) ho) e

theorem evalOpH_obj {st : S} {o : Oper} {id : Nat} : evalOpH P GL C st o (some (.obj id)) = evalOp P GL C st o (some (.obj id)) := rfl

/-- but for new ones -/
theorem os_look (hst : ∀ (k : Nat) (o : Oper), ops[k]? = some o → StepOk P GL C N ops hs f x k o) (hk4 : ∀ (k : Nat) (o : Oper), ops[k]? = some o → kindOp o (look hs k) < 4) (id : Nat) :
    ∀ (d j : Nat), j + d ≤ ops.length → (∀ (i : Nat) (o : Oper), j ≤ i → i < j + d → ops[i]? = some o → (kindOp o (look hs i) = 2 → norefOp id GL (f i) o (look hs i) = true ∨ look (f i).os id = none) ∧ (kindOp o (look hs i) = 3 → look hs i ≠ some (.obj id))) → look (f (j + d)).os id = look (f j).os id
  | 0, j, _, _ => rfl
  | d + 1, j, hj, h => by
    have ho := List.getElem?_eq_getElem (l := ops) (i := j + d) (by omega)
    have ih := os_look hst hk4 id d j (by omega) (fun i o h1 h2 => h i o h1 (by omega))
    obtain ⟨_, _, hw⟩ := hst (j + d) _ ho
    rw [show j + (d + 1) = j + d + 1 from rfl, ← ih]
    rcases hw with ⟨_, _, e⟩ | ⟨_, O, e, _⟩
    · rw [e]
    · have h1 := hk4 _ _ ho
      obtain ⟨h2, h3⟩ := h (j + d) _ (by omega) (by omega) ho
      by_cases hk : kindOp ops[j + d] (look hs (j + d)) = 3
      · have hh : ∃ i', look hs (j + d) = some (.obj i') := by
          cases hq : look hs (j + d) with
          | none => rw [hq] at hk; obtain ⟨_, _, h', _⟩ := evalOp_crt (e2 := []) (os := (f (j + d)).os) (e1 := (f (j + d)).env) hk (by rw [hq] at e; exact e); cases h'
          | some q =>
            rw [hq] at hk e
            cases q with
            | obj i' => exact ⟨i', rfl⟩
            | bool b =>
              rw [kind_H] at hk
              unfold evalOpH at e
              simp only at e
              split at e
              · rename_i he
                obtain ⟨_, _, h', _⟩ := evalOp_crt (e2 := []) (os := (f (j + d)).os) (e1 := (f (j + d)).env) hk he; cases h'
              · cases e
            | _ => obtain ⟨_, _, h', _⟩ := evalOp_crt (e2 := []) (os := (f (j + d)).os) (e1 := (f (j + d)).env) hk e; cases h'
        obtain ⟨i', hi'⟩ := hh
        have hne := h3 hk
        rw [hi'] at hk e hne
        obtain ⟨i2, ob, h4, h5, _⟩ := evalOp_crt (e2 := []) (os := (f (j + d)).os) (e1 := (f (j + d)).env) hk e
        cases h4
        rw [h5, look_cons, if_neg (fun e => hne (by rw [e]))]
      · by_cases hk2 : kindOp ops[j + d] (look hs (j + d)) = 2
        · exact evalOpH_mod hk2 e (h2 hk2)
        · rw [evalOpH_same (by omega) e]

end

theorem look_pickE_mem {α : Type} {env : List (Nat × α)} : ∀ {l : List Nat} {t : Nat}, t ∈ l → look (pickE env l) t = look env t
  | [], t, h => by simp at h
  | k :: l, t, h => by
    simp only [pickE]
    by_cases e : k = t
    · subst e
      cases hk : look env k with
      | some x => simp [look_cons]
      | none =>
        simp only
        cases hq : look (pickE env l) k with
        | none => rfl
        | some y => rw [look_pickE hq] at hk; cases hk
    · have ht : t ∈ l := by simpa [Ne.symm e] using h
      have ih := look_pickE_mem (env := env) ht
      split
      · rw [look_cons, if_neg e]; exact ih
      · exact ih

theorem opd_of_looks {ops : List Oper} {o : Oper} {e1 e2 : List (Nat × AT)} {os1 os2 : Objs} (h : ∀ t, t ∈ o.looksAt ops.toArray → look e2 t = look e1 t) : ∀ y, y ∈ o.op.operands.toList → opd GL ⟨e2, os2⟩ y = opd GL ⟨e1, os1⟩ y := by
  intro y hy
  cases y with
  | tmp t =>
    exact h t (List.mem_append.2 (.inl (List.mem_filterMap.2 ⟨_, hy, rfl⟩)))
  | const v => rfl
  | func f => rfl
  | global g => rfl

theorem wanted_looks {ops : List Oper} {o : Oper} {s1 s2 : S} (h : ∀ t, t ∈ o.looksAt ops.toArray → look s2.env t = look s1.env t) : wantedA ops s2 o = wantedA ops s1 o := by
  unfold wantedA
  cases hg : o.guard with
  | none => rfl
  | some gw =>
    obtain ⟨g, want⟩ := gw
    simp only
    cases hd : (ops[g]?).bind (·.dst) with
    | none => rfl
    | some t =>
      have : look s2.env t = look s1.env t := h t (List.mem_append.2 (.inr (by simp only [hg]; simp only [List.getElem?_toArray, hd]; simp)))
      simp only [this]

/-- the state of a run through a region, some operations done -/
structure Inv (D : List Deferred) (GL : List (Nat × List PV)) (N : Nat) (ops : List Oper) (hs : List (Nat × Hint)) (f : Nat → S) (x : Nat → AT) (st : S) (w0 : World) (I0 : Nat → Prop) (G0 : Nat → Option Nat) (L : Nat → Prop) (k : Nat) (w : World) (I : Nat → Prop) (G : Nat → Option Nat) (a : Act) : Prop where
  closed : Closed ops L
  cut : k ≤ ops.length ∧ ∀ (i : Nat) (o : Oper), ops[i]? = some o → 2 ≤ kindOp o (look hs i) → (L i ↔ i < k)
  ext : Ext w0 w I0 I (Mine G0 st.os) (Mine G (f k).os)
  keeps : Keeps (· < 100) w0 w I0 I G0 G (shape st.os) (shape (f k).os)
  sr : Sr GL w I G (f k).os
  size : a.tmps.size = N
  defers : a.defers = D
  wrote : ∀ (i : Nat) (o : Oper) (t : Nat), ops[i]? = some o → L i → o.dst = some t → (∀ (i' : Nat) (o' : Oper), ops[i']? = some o' → L i' → o'.dst = some t → i' ≤ i) → t < N ∧ ATr w I G (shape (f k).os) (x i) (a.tmps.getD t undef)
  was : ∀ (t : Nat) (y : AT), (∀ (i : Nat) (o : Oper), ops[i]? = some o → L i → o.dst ≠ some t) → look st.env t = some y → t < N ∧ ATr w I G (shape (f k).os) y (a.tmps.getD t undef)

theorem any_mem {l : List Nat} {d : Nat} (h : d ∈ l) : l.any (Nat.beq d) = true := List.any_eq_true.2 ⟨d, h, Nat.beq_refl d⟩

section
variable {ops : List Oper} {hs : List (Nat × Hint)} {f : Nat → S} {x : Nat → AT} {st : S} {w0 : World} {I0 : Nat → Prop} {G0 : Nat → Option Nat}

theorem look_mem {α : Type} {t : Nat} {y : α} : ∀ {env : List (Nat × α)}, look env t = some y → (t, y) ∈ env
  | [], h => by cases h
  | (k, z) :: env, h => by
    rw [look_cons] at h
    split at h
    · cases h; subst_vars; exact List.mem_cons_self ..
    · exact List.mem_cons_of_mem _ (look_mem h)

/-- what clashes is in order -/
structure Ordered (GL : List (Nat × List PV)) (ops : List Oper) (hs : List (Nat × Hint)) (f : Nat → S) (x : Nat → AT) (st : S) : Prop where
  kind : ∀ (k : Nat) (o : Oper), ops[k]? = some o → kindOp o (look hs k) < 4
  low : ∀ (k : Nat) (o : Oper), ops[k]? = some o → ∀ p, p ∈ preds o → p < k
  ord : ∀ (i j : Nat) (a b : Oper), i < j → ops[i]? = some a → ops[j]? = some b → clash ops a b (look hs i) (look hs j) = true → ((clo ops []).getD j 0).testBit i = true
  crt : ∀ (j : Nat) (o : Oper) (id : Nat), ops[j]? = some o → kindOp o (look hs j) = 3 → look hs j = some (.obj id) → norefEnv id st.env = true ∧ ∀ (i : Nat), i < ops.length → i = j ∨ ((clo ops []).getD i 0).testBit j = true ∨ norefA id (x i) = true
  read : ∀ (j : Nat) (o : Oper), ops[j]? = some o → kindOp o (look hs j) = 1 → ∀ (c : Nat) (b : Oper), ops[c]? = some b → ((clo ops []).getD j 0).testBit c = true ∨ ((clo ops []).getD c 0).testBit j = true ∨
    ((∀ id, look hs c = some (.obj id) → norefOp id GL (f j) o (look hs j) = true) ∧ (kindOp b (look hs c) = 2 → ∀ id, look (f c).os id ≠ none → norefOp id GL (f c) b (look hs c) = true ∨ norefOp id GL (f j) o (look hs j) = true))

theorem drawOk_spec {tr : List (S × AT)} (htr : ∀ (k : Nat), k < ops.length → tr[k]? = some (f k, x k)) (h : drawOk GL ops hs tr st = true) : Ordered GL ops hs f x st := by
  unfold drawOk at h
  rw [List.all_eq_true] at h
  have key : ∀ (j : Nat) (y : Oper), ops[j]? = some y → kindOp y (look hs j) < 4 ∧ (∀ p, p ∈ preds y → p < j) ∧ (∀ (i : Nat) (a : Oper), i < j → ops[i]? = some a → clash ops a y (look hs i) (look hs j) = true → ((clo ops []).getD j 0).testBit i = true) ∧
      (∀ id, kindOp y (look hs j) = 3 → look hs j = some (.obj id) → crtOk ops hs tr st j id = true) ∧ (kindOp y (look hs j) = 1 → readOk GL ops hs tr j y = true) := by
    intro j y hy
    have := h j (List.mem_range.2 (List.getElem?_eq_some_iff.1 hy).1)
    rw [hy] at this
    simp only [Bool.and_eq_true, List.all_eq_true] at this
    obtain ⟨⟨⟨⟨h1, h2⟩, h3⟩, h4⟩, h5⟩ := this
    refine ⟨Nat.le_of_ble_eq_true h1, fun p hp => Nat.le_of_ble_eq_true (h2 p hp), fun i a hi ha hc => ?_, fun id hk hh => ?_, fun hk => ?_⟩
    · have := h3 i (List.mem_range.2 hi)
      rw [ha] at this
      simpa [hc] using this
    · rw [hk, hh] at h4; exact h4
    · rw [hk] at h5; exact h5
  refine ⟨fun k o ho => (key k o ho).1, fun k o ho => (key k o ho).2.1, fun i j a b hij ha hb => (key j b hb).2.2.1 i a hij ha, fun j o id ho hk hh => ?_, fun j o ho hk c b hc => ?_⟩
  · have := (key j o ho).2.2.2.1 id hk hh
    unfold crtOk at this
    simp only [Bool.and_eq_true, List.all_eq_true] at this
    refine ⟨this.1, fun i hi => ?_⟩
    have h2 := this.2 i (List.mem_range.2 hi)
    rw [htr i hi] at h2
    simp only [Bool.or_eq_true] at h2
    rcases h2 with (h2 | h2) | h2
    · exact .inl (Nat.eq_of_beq_eq_true h2)
    · exact .inr (.inl h2)
    · exact .inr (.inr h2)
  · have := (key j o ho).2.2.2.2 hk
    unfold readOk at this
    rw [htr j (List.getElem?_eq_some_iff.1 ho).1] at this
    simp only [List.all_eq_true] at this
    have hcl := (List.getElem?_eq_some_iff.1 hc).1
    have h2 := this c (List.mem_range.2 hcl)
    rw [hc, htr c hcl] at h2
    simp only [Bool.and_eq_true] at h2
    obtain ⟨h2, h3⟩ := h2
    by_cases b1 : ((clo ops []).getD j 0).testBit c = true
    · exact .inl b1
    by_cases b2 : ((clo ops []).getD c 0).testBit j = true
    · exact .inr (.inl b2)
    refine .inr (.inr ⟨fun id hh => ?_, fun hk2 id hne => ?_⟩)
    · rw [hh] at h2
      simp only [Bool.or_eq_true] at h2
      rcases h2 with (h2 | h2) | h2
      · exact absurd h2 b1
      · exact absurd h2 b2
      · exact h2
    · rw [hk2] at h3
      simp only [show Nat.beq 2 2 = true from rfl, Bool.or_eq_true, List.all_eq_true] at h3
      rcases h3 with (h3 | h3) | h3
      · exact absurd h3 b1
      · exact absurd h3 b2
      · cases hl : look (f c).os id with
        | none => exact absurd hl hne
        | some ob => exact h3 (id, ob) (look_mem hl)

theorem clo_lt (hlow : ∀ (k : Nat) (o : Oper), ops[k]? = some o → ∀ p, p ∈ preds o → p < k) : ∀ (j : Nat) (o : Oper), ops[j]? = some o → ∀ i, ((clo ops []).getD j 0).testBit i = true → i < j := by
  intro j
  induction j using Nat.strongRecOn with
  | _ j ih =>
    intro o ho i hb
    obtain ⟨p, hp, hr⟩ := (clo_spec ops []).2 j o ho i (by simpa using hb)
    have hpj := hlow j o ho p hp
    rcases hr with rfl | ⟨_, hr⟩
    · exact hpj
    · have hlt : p < ops.length := by have := (List.getElem?_eq_some_iff.1 ho).1; omega
      have := ih p hpj _ (List.getElem?_eq_getElem hlt) i hr
      omega

theorem norefEnv_mem {id : Nat} : ∀ {env : List (Nat × AT)}, norefEnv id env = true ↔ ∀ p, p ∈ env → norefA id p.2 = true
  | [] => by simp [norefEnv]
  | (t, x) :: env => by
    simp only [norefEnv]
    split
    · rename_i h
      rw [norefEnv_mem]
      constructor
      · intro h' p hp
        rcases List.mem_cons.1 hp with rfl | hp
        · exact h
        · exact h' p hp
      · intro h' p hp; exact h' p (List.mem_cons_of_mem _ hp)
    · rename_i h
      constructor
      · intro h'; cases h'
      · intro h'; have := h' _ (List.mem_cons_self ..); rw [h] at this; cases this

theorem norefEnv_pick {id : Nat} {env : List (Nat × AT)} (h : norefEnv id env = true) (l : List Nat) : norefEnv id (pickE env l) = true := by
  rw [norefEnv_mem]
  have h := norefEnv_mem.1 h
  have key : ∀ (l : List Nat) (p : Nat × AT), p ∈ pickE env l → p ∈ env := by
    intro l
    induction l with
    | nil => intro p hp; cases hp
    | cons t l ih =>
      intro p hp
      simp only [pickE] at hp
      split at hp
      · rename_i y hy
        rcases List.mem_cons.1 hp with rfl | hp
        · exact look_mem hy
        · exact ih p hp
      · exact ih p hp
  exact fun p hp => h p (key l p hp)

/-- the next one, whichever is ready -/
theorem inv_step (hC : Sound P GL C) (h0 : f 0 = st) (hst : ∀ (k : Nat) (o : Oper), ops[k]? = some o → StepOk P GL C N ops hs f x k o) (hord : Ordered GL ops hs f x st)
    {L : Nat → Prop} {k : Nat} {w : World} {I : Nat → Prop} {G : Nat → Option Nat} {a : Act} (inv : Inv D GL N ops hs f x st w0 I0 G0 L k w I G a) {j : Nat} {o : Oper} (ho : ops[j]? = some o) (hnl : ¬ L j) (hready : ∀ p, p ∈ preds o → L p)
    {K : Act → World → Prop} {Q : Exit → Act → World → Prop} (hK : ∀ a' w' I' G' k', Inv D GL N ops hs f x st w0 I0 G0 (fun i => L i ∨ i = j) k' w' I' G' a' → K a' w') :
    wpOp P ops.toArray Q j K a w := by
  have hlow : ∀ (k : Nat) (o' : Oper), ops[k]? = some o' → k ≤ j → ∀ p, p ∈ preds o' → p < k := fun k o' h _ => hord.low k o' h
  -- what clashes with j and stands above it is done; what stands below it isn't
  have above : ∀ (i : Nat) (b : Oper), i < j → ops[i]? = some b → clash ops b o (look hs i) (look hs j) = true → L i := fun i b hi hb hc =>
    clo_in inv.closed j o ho hready hlow i (hord.ord i j b o hi hb ho hc)
  have below : ∀ (i : Nat) (b : Oper), j < i → ops[i]? = some b → clash ops o b (look hs j) (look hs i) = true → ¬ L i := fun i b hi hb hc hl =>
    hnl (clo_in inv.closed i b hb (fun p hp => inv.closed i b hb hl p hp) (fun k o' h _ => hord.low k o' h) j (hord.ord j i o b hi ho hb hc))
  have hjn : j < ops.length := (List.getElem?_eq_some_iff.1 ho).1
  have cl1 : ∀ (b : Oper) (i t : Nat), b.dst = some t → t ∈ o.looksAt ops.toArray → clash ops b o (look hs i) (look hs j) = true := fun b i t hd ht => by
    simp [clash, hd, any_mem ht]
  have cl2 : ∀ (b : Oper) (i t : Nat), b.dst = some t → t ∈ o.looksAt ops.toArray → clash ops o b (look hs j) (look hs i) = true := fun b i t hd ht => by
    simp [clash, hd, any_mem ht]
  have cl3 : ∀ (b : Oper) (i t : Nat), b.dst = some t → o.dst = some t → clash ops o b (look hs j) (look hs i) = true := fun b i t hd ht => by
    simp [clash, hd, ht, Nat.beq_refl]
  have cl4 : ∀ (b : Oper) (i t : Nat), b.dst = some t → o.dst = some t → clash ops b o (look hs i) (look hs j) = true := fun b i t hd ht => by
    simp [clash, hd, ht, Nat.beq_refl]
  obtain ⟨hdst, henv, hw⟩ := hst j o ho
  let e2 := pickE (f j).env (o.looksAt ops.toArray)
  have hlook : ∀ t, t ∈ o.looksAt ops.toArray → look e2 t = look (f j).env t := fun t ht => look_pickE_mem ht
  -- the operands stand as they did in the text's order
  have hfr : Fr D w I G (shape (f k).os) N a e2 := by
    refine ⟨inv.size, inv.defers, fun t y hy => ?_⟩
    have hmem : t ∈ o.looksAt ops.toArray := by
      have : ∀ {l : List Nat}, look (pickE (f j).env l) t = some y → t ∈ l := by
        intro l
        induction l with
        | nil => intro h; cases h
        | cons q l ih =>
          intro h
          simp only [pickE] at h
          split at h
          · rw [look_cons] at h
            split at h
            · subst_vars; simp
            · exact List.mem_cons_of_mem _ (ih h)
          · exact List.mem_cons_of_mem _ (ih h)
      exact this hy
    rw [hlook t hmem] at hy
    rcases env_look h0 hst j (by omega) t y hy with ⟨i, b, h1, h2, h3, h4, h5⟩ | ⟨h1, h2⟩
    · subst h4
      refine inv.wrote i b t h2 (above i b h1 h2 (cl1 b i t h3 hmem)) h3 (fun i' b' q1 q2 q3 => ?_)
      rcases Nat.lt_trichotomy i' j with h | h | h
      · rcases Nat.lt_or_ge i i' with hh | hh
        · exact absurd q3 (h5 i' b' hh h q1)
        · exact hh
      · subst h; exact absurd q2 hnl
      · exact absurd q2 (below i' b' h q1 (cl2 b' i' t q3 hmem))
    · refine inv.was t y (fun i b q1 q2 q3 => ?_) h2
      rcases Nat.lt_trichotomy i j with h | h | h
      · exact h1 i b h q1 q3
      · subst h; exact hnl q2
      · exact below i b h q1 (cl2 b i t q3 hmem) q2
  -- what stands behind j's own
  have hkeep : ∀ (v : Value) (w' : World) (I' : Nat → Prop) (G' : Nat → Option Nat) (k' : Nat), k' ≤ ops.length → (∀ (i : Nat) (b : Oper), ops[i]? = some b → 2 ≤ kindOp b (look hs i) → ((L i ∨ i = j) ↔ i < k')) →
      Ext w w' I I' (Mine G (f k).os) (Mine G' (f k').os) → ∀ (R : Nat → Prop), Keeps R w w' I I' G G' (shape (f k).os) (shape (f k').os) → (∀ id, id < 100 → R id) → (∀ i, i < ops.length → L i → (x i).refs R) → (∀ t y, look st.env t = some y → y.refs R) → Sr GL w' I' G' (f k').os → ATr w' I' G' (shape (f k').os) (x j) v →
      Inv D GL N ops hs f x st w0 I0 G0 (fun i => L i ∨ i = j) k' w' I' G' (a.put o.dst v) := by
    intro v w' I' G' k' hk' hcut e1 R ks hR1 hR2 hR3 s1 x1
    have hput : ∀ t, (a.put o.dst v).tmps.getD t undef = if o.dst = some t ∧ t < N then v else a.tmps.getD t undef := by
      intro t
      cases hd : o.dst with
      | none => simp [Act.put]
      | some d =>
        simp only [Act.put]
        by_cases hdt : d = t
        · subst hdt
          by_cases hlt : d < N
          · rw [if_pos ⟨rfl, hlt⟩, Array.getD_eq_getD_getElem?, Array.getElem?_setIfInBounds_self_of_lt (by rw [inv.size]; exact hlt)]; rfl
          · rw [if_neg (by simp [hlt]), Array.getD_eq_getD_getElem?, Array.getD_eq_getD_getElem?]
            have hge : N ≤ d := Nat.le_of_not_lt hlt
            rw [Array.getElem?_eq_none (by simp [inv.size]; exact hge), Array.getElem?_eq_none (by simp [inv.size]; exact hge)]
        · rw [if_neg (by simp [hdt]), Array.getD_eq_getD_getElem?, Array.getElem?_setIfInBounds_ne hdt, ← Array.getD_eq_getD_getElem?]
    refine ⟨fun i b hb hl p hp => ?_, ⟨hk', hcut⟩, inv.ext.trans e1, inv.keeps.trans (ks.weaken fun i h => hR1 i h), s1, ?_, ?_, fun i b t hb hl hd hmax => ?_, fun t y hno hy => ?_⟩
    · rcases hl with hl | rfl
      · exact .inl (inv.closed i b hb hl p hp)
      · rw [ho] at hb; cases hb; exact .inl (hready p hp)
    · cases hd : o.dst <;> simp [Act.put, inv.size]
    · cases hd : o.dst <;> simp [Act.put, inv.defers]
    · rw [hput]
      rcases hl with hl | rfl
      · have hne : ¬ (o.dst = some t ∧ t < N) := by
          rintro ⟨hd', _⟩
          have h1 := hmax j o ho (.inr rfl) hd'
          rcases Nat.lt_or_eq_of_le h1 with h | h
          · exact below i b h hb (cl3 b i t hd hd') hl
          · exact hnl (h ▸ hl)
        rw [if_neg hne]
        obtain ⟨q1, q2⟩ := inv.wrote i b t hb hl hd (fun i' b' r1 r2 r3 => hmax i' b' r1 (.inl r2) r3)
        exact ⟨q1, q2.mono ks (hR2 i (List.getElem?_eq_some_iff.1 hb).1 hl)⟩
      · rw [ho] at hb; cases hb
        have hlt : t < N := by unfold dstOk at hdst; rw [hd] at hdst; exact Nat.le_of_ble_eq_true hdst
        rw [if_pos ⟨hd, hlt⟩]
        exact ⟨hlt, x1⟩
    · rw [hput, if_neg (fun h => hno j o ho (.inr rfl) h.1)]
      obtain ⟨q1, q2⟩ := inv.was t y (fun i b r1 r2 => hno i b r1 (.inl r2)) hy
      exact ⟨q1, q2.mono ks (hR3 t y hy)⟩
  have hw2 : wantedA ops ⟨e2, (f k).os⟩ o = wantedA ops (f j) o := wanted_looks hlook
  have hcut0 : ¬ 2 ≤ kindOp o (look hs j) → ∀ (i : Nat) (b : Oper), ops[i]? = some b → 2 ≤ kindOp b (look hs i) → ((L i ∨ i = j) ↔ i < k) := fun hne i b hb hkb => by
    rw [← inv.cut.2 i b hb hkb]
    refine ⟨fun h => h.elim id fun h => ?_, .inl⟩
    subst h; rw [ho] at hb; cases hb; exact absurd hkb hne
  have hkj := hord.kind j o ho
  -- where j turns objects, what turns objects is as it was in the text's order
  have hos2 : 2 ≤ kindOp o (look hs j) → ∀ (i : Nat) (b : Oper), ops[i]? = some b → 2 ≤ kindOp b (look hs i) → i ≠ j → (i < j ↔ i < k) := fun h2 i b hb hkb hij => by
    have hkb' := hord.kind i b hb
    rw [← inv.cut.2 i b hb hkb]
    constructor
    · intro hi
      exact above i b hi hb (clash_l hkb h2)
    · intro hl
      rcases Nat.lt_trichotomy i j with h | h | h
      · exact h
      · exact absurd h hij
      · exact absurd hl (below i b h hb (clash_l h2 hkb))
  have hjk2 : 2 ≤ kindOp o (look hs j) → (f k).os = (f j).os := fun h2 => by
    rcases Nat.le_total j k with h | h
    · obtain ⟨d, rfl⟩ := Nat.exists_eq_add_of_le h
      refine os_const hst d j inv.cut.1 (fun i b q1 q2 q3 => ?_)
      rcases Nat.lt_or_ge 1 (kindOp b (look hs i)) with q4 | q4
      · by_cases e : i = j
        · subst e
          exact absurd ((inv.cut.2 i b q3 q4).2 q2) hnl
        · have := (hos2 h2 i b q3 q4 e).2 q2; omega
      · exact q4
    · obtain ⟨d, rfl⟩ := Nat.exists_eq_add_of_le h
      refine (os_const hst d k (by omega) (fun i b q1 q2 q3 => ?_)).symm
      rcases Nat.lt_or_ge 1 (kindOp b (look hs i)) with q4 | q4
      · have := (hos2 h2 i b q3 q4 (by omega)).1 q2; omega
      · exact q4
  have hcut2 : 2 ≤ kindOp o (look hs j) → ∀ (i : Nat) (b : Oper), ops[i]? = some b → 2 ≤ kindOp b (look hs i) → ((L i ∨ i = j) ↔ i < j + 1) := fun h2 i b hb hkb => by
    by_cases e : i = j
    · subst e; exact ⟨fun _ => Nat.lt_succ_self _, fun _ => .inr rfl⟩
    · have h3 := hos2 h2 i b hb hkb e
      have h4 := inv.cut.2 i b hb hkb
      constructor
      · rintro (h | h)
        · have := h3.2 (h4.1 h); omega
        · exact absurd h e
      · intro h
        exact .inl (h4.2 (h3.1 (by omega)))
  have any1 : ∀ id, id < 100 → Any id := fun _ _ => trivial
  have any2 : ∀ i, i < ops.length → L i → (x i).refs Any := fun i _ _ => AT.refs_any _
  have any3 : ∀ t y, look st.env t = some y → y.refs Any := fun t y _ => AT.refs_any _
  unfold wpOp
  rw [List.getElem?_toArray, ho]
  simp only
  rcases hw with ⟨hwf, hx, hos⟩ | ⟨hwt, O, he, hO⟩
  · -- not carried out
    have := wanted_ok (ops := ops) (st := ⟨e2, (f k).os⟩) hfr (hw2.trans hwf)
    rw [this]
    simp only [Bool.false_eq_true, if_false]
    by_cases h2 : 2 ≤ kindOp o (look hs j)
    · -- one that would turn objects: the cut moves over it
      have e : (f (j + 1)).os = (f k).os := by rw [hos, hjk2 h2]
      exact hK _ w I G (j + 1) (hkeep undef w I G (j + 1) (by omega) (hcut2 h2) (by rw [e]; exact .refl _ _ _) Any (by rw [e]; exact .refl _ _ _ _ _) any1 any2 any3 (by rw [e]; exact inv.sr) (by rw [hx]; exact ⟨[], rfl, rfl⟩))
    · exact hK _ w I G k (hkeep undef w I G k inv.cut.1 (hcut0 h2) (.refl _ _ _) Any (.refl _ _ _ _ _) any1 any2 any3 inv.sr (by rw [hx]; exact ⟨[], rfl, rfl⟩))
  · have := wanted_ok (ops := ops) (st := ⟨e2, (f k).os⟩) hfr (hw2.trans hwt)
    rw [this]
    simp only [if_true]
    have hop : ∀ y, y ∈ o.op.operands.toList → opd GL ⟨e2, (f j).os⟩ y = opd GL ⟨(f j).env, (f j).os⟩ y := opd_of_looks hlook
    by_cases h3 : kindOp o (look hs j) = 3
    · -- a new object
      have hcrt : ∃ id ob, look hs j = some (.obj id) ∧ (f (j + 1)).os = (id, ob) :: (f j).os ∧ fresh id (f j) = true ∧ (fresh id ⟨e2, (f j).os⟩ = true → evalOpH P GL C ⟨e2, (f j).os⟩ o (look hs j) = some (x j, (f (j + 1)).os, O)) := by
        cases hq : look hs j with
        | none =>
          rw [hq] at h3 he
          obtain ⟨_, _, h', _⟩ := evalOp_crt (e2 := []) (os := (f j).os) (e1 := (f j).env) h3 he; cases h'
        | some q =>
          rw [hq] at h3 he
          cases q with
          | obj id =>
            obtain ⟨i2, ob, h4, h5, h6, h7⟩ := evalOp_crt (e2 := e2) (os := (f j).os) (e1 := (f j).env) h3 he
            cases h4
            exact ⟨id, ob, rfl, h5, h6, fun hf => h7 hop hf⟩
          | bool b =>
            rw [kind_H] at h3
            unfold evalOpH at he
            simp only at he
            split at he
            · rename_i he'
              obtain ⟨_, _, h', _⟩ := evalOp_crt (e2 := []) (os := (f j).os) (e1 := (f j).env) h3 he'; cases h'
            · cases he
          | _ => obtain ⟨_, _, h', _⟩ := evalOp_crt (e2 := []) (os := (f j).os) (e1 := (f j).env) h3 he; cases h'
      obtain ⟨id, ob, hid, hos', hfresh, hev⟩ := hcrt
      have hjk := hjk2 (by omega)
      have hf2 : fresh id ⟨e2, (f j).os⟩ = true := by
        unfold fresh at hfresh ⊢
        split at hfresh
        · cases hfresh
        · rename_i hl
          simp only [hl]
          split at hfresh
          · rename_i q1 q2
            rw [q1, norefEnv_pick q2 _]; exact hfresh
          · cases hfresh
      have he2 := hev hf2
      rw [← hjk] at he2
      obtain ⟨c1, c2⟩ := hord.crt j o id ho h3 hid
      obtain ⟨f0, _⟩ := fresh_ok hfresh
      refine .inl (op_wp (st := ⟨e2, (f k).os⟩) he2 hO hC inv.sr hfr fun v w' I' G' q1 q2 q3 q4 => ?_)
      have hmk : makes (look hs j) = [id] := by rw [hid]; rfl
      rw [hmk] at q4
      refine hK _ w' I' G' (j + 1) (hkeep v w' I' G' (j + 1) (by omega) (hcut2 (by omega)) q1 (· ≠ id) (q4.any_.weaken fun i h => by simpa using h) (fun i h => by omega) (fun i hi hl => ?_) (fun t y hy => norefEnv_ok c1 t y hy) q2 q3)
      rcases c2 i hi with h | h | h
      · subst h; exact absurd hl hnl
      · refine absurd (clo_in inv.closed i _ (List.getElem?_eq_getElem hi) (fun p hp => inv.closed i _ (List.getElem?_eq_getElem hi) hl p hp) (fun k o' h _ => hord.low k o' h) j h) hnl
      · exact norefA_ok h
    · have hk3 : kindOp o (look hs j) < 3 := by omega
      have hmk : makes (look hs j) = [] := by
        cases hh : look hs j with
        | none => rfl
        | some h =>
          rw [hh] at hk3
          cases h with
          | obj id => have := kind_obj (o := o) (id := id); omega
          | call a b c d =>
            cases d with
            | nil => rfl
            | cons d e => have := kind_call (o := o) (a := a) (b := b) (c := c) (d := d) (e := e); omega
          | _ => rfl
      have he1 : evalOpH P GL C ⟨e2, (f j).os⟩ o (look hs j) = some (x j, (f (j + 1)).os, O) := by rw [evalOpH_env hop hk3]; exact he
      by_cases hz : kindOp o (look hs j) = 0
      · obtain ⟨_, he2⟩ := evalOpH_zero hz (f k).os he1
        refine .inl (op_wp (st := ⟨e2, (f k).os⟩) he2 hO hC inv.sr hfr fun v w' I' G' q1 q2 q3 q4 => ?_)
        rw [hmk] at q4
        exact hK _ w' I' G' k (hkeep v w' I' G' k inv.cut.1 (hcut0 (by omega)) q1 Any (q4.any_.weaken fun _ _ => by simp) any1 any2 any3 q2 q3)
      · by_cases h2 : kindOp o (look hs j) = 2
        · have hjk := hjk2 (by omega)
          rw [← hjk] at he1
          refine .inl (op_wp (st := ⟨e2, (f k).os⟩) he1 hO hC inv.sr hfr fun v w' I' G' q1 q2 q3 q4 => ?_)
          rw [hmk] at q4
          exact hK _ w' I' G' (j + 1) (hkeep v w' I' G' (j + 1) (by omega) (hcut2 (by omega)) q1 Any (q4.any_.weaken fun _ _ => by simp) any1 any2 any3 q2 q3)
        · have hk1 : kindOp o (look hs j) = 1 := by omega
          -- a reader: new objects may be there or not
          have hnr : ∀ (c : Nat) (b : Oper), ops[c]? = some b → 2 ≤ kindOp b (look hs c) → ¬ (c < j ↔ c < k) →
              ((∀ id, look hs c = some (.obj id) → norefOp id GL (f j) o (look hs j) = true) ∧ (kindOp b (look hs c) = 2 → ∀ id, look (f c).os id ≠ none → norefOp id GL (f c) b (look hs c) = true ∨ norefOp id GL (f j) o (look hs j) = true)) := by
            intro c b hb hkb hne
            rcases hord.read j o ho hk1 c b hb with h | h | h
            · exfalso
              have h1 := clo_lt hord.low j o ho c h
              have h2 := clo_in inv.closed j o ho hready hlow c h
              exact hne ⟨fun _ => (inv.cut.2 c b hb hkb).1 h2, fun _ => h1⟩
            · exfalso
              have h1 := clo_lt hord.low c b hb j h
              refine hne ⟨fun h => by omega, fun h' => ?_⟩
              have h2 := (inv.cut.2 c b hb hkb).2 h'
              exact absurd (clo_in inv.closed c b hb (fun p hp => inv.closed c b hb h2 p hp) (fun k o' h _ => hord.low k o' h) j h) hnl
            · exact h
          have hmid : ∀ (id i : Nat) (b : Oper), norefOp id GL (f j) o (look hs j) = false → ops[i]? = some b → ¬ (i < j ↔ i < k) → (kindOp b (look hs i) = 2 → norefOp id GL (f i) b (look hs i) = true ∨ look (f i).os id = none) ∧ (kindOp b (look hs i) = 3 → look hs i ≠ some (.obj id)) := by
            intro id i b hid hb hne
            refine ⟨fun q4 => ?_, fun q4 q5 => ?_⟩
            · by_cases hl : look (f i).os id = none
              · exact .inr hl
              · rcases (hnr i b hb (by omega) hne).2 q4 id hl with h | h
                · exact .inl h
                · rw [h] at hid; cases hid
            · have := (hnr i b hb (by omega) hne).1 id q5
              rw [this] at hid; cases hid
          have hnor : ∀ id, norefOp id GL ⟨e2, (f j).os⟩ o (look hs j) = norefOp id GL (f j) o (look hs j) := fun id => by
            unfold norefOp
            split
            · rfl
            · rfl
            · rw [Bool.eq_iff_iff, List.all_eq_true, List.all_eq_true]
              constructor
              · intro h y hy; have := h y hy; rw [hop y hy] at this; exact this
              · intro h y hy; have := h y hy; rw [hop y hy]; exact this
          have hlk : ∀ id, norefOp id GL ⟨e2, (f j).os⟩ o (look hs j) = false → look (f k).os id = look (f j).os id := by
            intro id hid
            rw [hnor] at hid
            rcases Nat.le_total j k with h | h
            · obtain ⟨d, rfl⟩ := Nat.exists_eq_add_of_le h
              exact os_look hst hord.kind id d j inv.cut.1 (fun i b q1 q2 q3 => hmid id i b hid q3 (by omega))
            · obtain ⟨d, rfl⟩ := Nat.exists_eq_add_of_le h
              exact (os_look hst hord.kind id d k (by omega) (fun i b q1 q2 q3 => hmid id i b hid q3 (by omega))).symm
          have he2 := evalOpH_look (os2 := (f k).os) (by omega) he1 hlk
          refine .inl (op_wp (st := ⟨e2, (f k).os⟩) he2 hO hC inv.sr hfr fun v w' I' G' q1 q2 q3 q4 => ?_)
          rw [hmk] at q4
          exact hK _ w' I' G' k (hkeep v w' I' G' k inv.cut.1 (hcut0 (by omega)) q1 Any (q4.any_.weaken fun _ _ => by simp) any1 any2 any3 q2 q3)
end
end Go.AL
end

section
namespace Go.AL
variable {D : List Deferred}
set_option linter.unusedVariables false
set_option linter.unusedSimpArgs false
variable {P : Program} {GL : List (Nat × List PV)} {C : Spec} {N : Nat}

theorem least_not {n : Nat} {listed : Array Bool} (hsz : listed.size = n) (h : ∃ j, j < n ∧ listed.getD j true = false) : ∃ j, j < n ∧ listed.getD j true = false ∧ ∀ i, i < j → listed.getD i true = true := by
  obtain ⟨j, hj⟩ := h
  induction j using Nat.strongRecOn with
  | _ j ih =>
    by_cases hl : ∃ i, i < j ∧ listed.getD i true = false
    · obtain ⟨i, h1, h2⟩ := hl
      exact ih i h1 ⟨by omega, h2⟩
    · refine ⟨j, hj.1, hj.2, fun i hi => ?_⟩
      cases hb : listed.getD i true with
      | true => rfl
      | false => exact absurd ⟨i, hi, hb⟩ hl

section
variable {ops : List Oper} {hs : List (Nat × Hint)} {f : Nat → S} {x : Nat → AT} {st : S} {w0 : World} {I0 : Nat → Prop} {G0 : Nat → Option Nat}

def Listed (n : Nat) (listed : Array Bool) (i : Nat) : Prop := i < n ∧ listed.getD i false = true

theorem set_listed {n : Nat} {listed : Array Bool} (hsz : listed.size = n) {j : Nat} (hj : j < n) (i : Nat) : Listed n (listed.setIfInBounds j true) i ↔ (Listed n listed i ∨ i = j) := by
  unfold Listed
  by_cases e : i = j
  · subst e
    have : (listed.setIfInBounds i true).getD i false = true := by
      rw [Array.getD_eq_getD_getElem?, Array.getElem?_setIfInBounds_self_of_lt (by omega)]; rfl
    simp [this, hj]
  · have : (listed.setIfInBounds j true).getD i false = listed.getD i false := by
      rw [Array.getD_eq_getD_getElem?, Array.getElem?_setIfInBounds_ne (Ne.symm e), ← Array.getD_eq_getD_getElem?]
    simp [this, e]

theorem any_run (hC : Sound P GL C) (h0 : f 0 = st) (hst : ∀ (k : Nat) (o : Oper), ops[k]? = some o → StepOk P GL C N ops hs f x k o) (hord : Ordered GL ops hs f x st) {Q : Exit → Act → World → Prop}
    (hQ : ∀ w I G k a, Inv D GL N ops hs f x st w0 I0 G0 (fun i => i < ops.length) k w I G a → Q .normal a w) :
    ∀ (fuel : Nat) (listed : Array Bool) (k : Nat) (w : World) (I : Nat → Prop) (G : Nat → Option Nat) (a : Act), listed.size = ops.length → (listed.toList.filter (fun b => !b)).length ≤ fuel →
      Inv D GL N ops hs f x st w0 I0 G0 (Listed ops.length listed) k w I G a → wpAny P .any ops.toArray Q fuel listed a w := by
  have hdone : ∀ (listed : Array Bool) (k : Nat) (w : World) (I : Nat → Prop) (G : Nat → Option Nat) (a : Act), listed.size = ops.length → Inv D GL N ops hs f x st w0 I0 G0 (Listed ops.length listed) k w I G a →
      Region.ready .any ops.toArray listed = [] → Q .normal a w := by
    intro listed k w I G a hsz inv hr
    have hall : ∀ i, i < ops.length → listed.getD i true = true := by
      intro i hi
      cases hb : listed.getD i true with
      | true => rfl
      | false =>
        exfalso
        obtain ⟨j, h1, h2, h3⟩ := least_not hsz ⟨i, hi, hb⟩
        have hmem : j ∈ Region.ready .any ops.toArray listed := by
          rw [mem_ready]
          refine ⟨h2, ops[j], by simp [h1], fun e he hbd => ?_⟩
          have hp : e.on ∈ preds ops[j] := List.mem_map.2 ⟨e, List.mem_filter.2 ⟨by simpa using he, hbd⟩, rfl⟩
          have hlt := hord.low j _ (List.getElem?_eq_getElem h1) _ hp
          have := h3 e.on hlt
          rw [Array.getD_eq_getD_getElem?, Array.getElem?_eq_getElem (by omega)] at this ⊢
          exact this
        rw [hr] at hmem; cases hmem
    have hL : Listed ops.length listed = fun i => i < ops.length := by
      funext i
      apply propext
      refine ⟨fun h => h.1, fun h => ⟨h, ?_⟩⟩
      have := hall i h
      rw [Array.getD_eq_getD_getElem?, Array.getElem?_eq_getElem (by omega)] at this ⊢
      exact this
    rw [hL] at inv
    exact hQ w I G k a inv
  intro fuel
  induction fuel with
  | zero =>
    intro listed k w I G a hsz hc inv
    have hr : Region.ready .any ops.toArray listed = [] := by
      apply List.eq_nil_iff_forall_not_mem.2
      intro j hj
      rw [mem_ready] at hj
      obtain ⟨h1, o, h2, _⟩ := hj
      have hlt : j < ops.length := by
        rw [List.getElem?_toArray] at h2; exact (List.getElem?_eq_some_iff.1 h2).1
      have hmem : false ∈ listed.toList := by
        rw [Array.getD_eq_getD_getElem?, Array.getElem?_eq_getElem (by omega)] at h1
        have : listed[j]'(by omega) = false := h1
        rw [← this]; exact Array.mem_toList_iff.2 (Array.getElem_mem _)
      have : 0 < (listed.toList.filter (fun b => !b)).length := List.length_pos_of_mem (List.mem_filter.2 ⟨hmem, rfl⟩)
      omega
    exact ⟨hr, hdone listed k w I G a hsz inv hr⟩
  | succ fuel ih =>
    intro listed k w I G a hsz hc inv
    refine ⟨fun hr => hdone listed k w I G a hsz inv hr, fun j hj => ?_⟩
    rw [mem_ready] at hj
    obtain ⟨h1, o, h2, h3⟩ := hj
    rw [List.getElem?_toArray] at h2
    have hlt : j < ops.length := (List.getElem?_eq_some_iff.1 h2).1
    have hjl : listed[j]'(by omega) = false := by
      rw [Array.getD_eq_getD_getElem?, Array.getElem?_eq_getElem (by omega)] at h1; exact h1
    refine inv_step hC h0 hst hord inv h2 (fun h => ?_) (fun p hp => ?_) fun a' w' I' G' k' inv' => ?_
    · have := h.2
      rw [Array.getD_eq_getD_getElem?, Array.getElem?_eq_getElem (by omega)] at this
      have h' : listed[j]'(by omega) = true := this
      rw [hjl] at h'; cases h'
    · obtain ⟨e, he, rfl⟩ := List.mem_map.1 hp
      obtain ⟨he1, he2⟩ := List.mem_filter.1 he
      refine ⟨?_, h3 e (by simpa using he1) he2⟩
      have := hord.low j o h2 _ hp
      omega
    · refine ih (listed.setIfInBounds j true) k' w' I' G' a' (by simp [hsz]) ?_ ?_
      · have : (listed.setIfInBounds j true).toList = listed.toList.set j true := by simp
        rw [this]
        have key : ∀ (l : List Bool) (i : Nat), l[i]? = some false → ((l.set i true).filter (fun b => !b)).length + 1 = (l.filter (fun b => !b)).length := by
          intro l
          induction l with
          | nil => intro i h; simp at h
          | cons b l ihl =>
            intro i h
            cases i with
            | zero => simp at h; subst h; simp
            | succ i =>
              have := ihl i (by simpa using h)
              simp only [List.set_cons_succ, List.filter_cons]
              cases b <;> simp <;> omega
        have := key listed.toList j (by rw [Array.getElem?_toList, Array.getElem?_eq_getElem (by omega), hjl])
        omega
      · have : Listed ops.length (listed.setIfInBounds j true) = fun i => Listed ops.length listed i ∨ i = j := by
          funext i; exact propext (set_listed hsz hlt i)
        rw [this]; exact inv'

/-- whatever order is taken -/
theorem draw_wp {st' : S} {O : List Prop} {w : World} {I : Nat → Prop} {G : Nat → Option Nat} {a : Act} {Q : Exit → Act → World → Prop} (hC : Sound P GL C) (hord : drawOk GL ops hs (traceL P GL C N ops hs 0 ops st) st = true) (he : evalOps P GL C N ops hs 0 ops st = some (st', O)) (hO : All O)
    (hsr : Sr GL w I G st.os) (hf : Fr D w I G (shape st.os) N a st.env)
    (hQ : ∀ w' I' G' a', Ext w w' I I' (Mine G st.os) (Mine G' st'.os) → Keeps (· < 100) w w' I I' G G' (shape st.os) (shape st'.os) → Sr GL w' I' G' st'.os → Fr D w' I' G' (shape st'.os) N a' st'.env → Q .normal a' w') :
    wpAny P .any ops.toArray Q ops.length (Array.replicate ops.length false) a w := by
  obtain ⟨f, x, h0, hn, hst⟩ := trace_of ops 0 st st' O he hO
  have hst' : ∀ (k : Nat) (o : Oper), ops[k]? = some o → StepOk P GL C N ops hs f x k o := fun k o h => by simpa using (hst k o h).1
  have hord' := drawOk_spec (f := f) (x := x) (fun k hk => by have := (hst k _ (List.getElem?_eq_getElem hk)).2; simpa using this) hord
  rw [Nat.zero_add] at hn
  refine any_run (D := D) (w0 := w) (I0 := I) (G0 := G) (f := f) (x := x) (st := st) hC h0 hst' hord' ?_ ops.length (Array.replicate ops.length false) 0 w I G a (by simp) (by
    have : (Array.replicate ops.length false).toList = List.replicate ops.length false := by simp
    rw [this]; exact Nat.le_trans (List.length_filter_le _ _) (by simp)) ?_
  · intro w' I' G' k a' inv
    have hos : (f ops.length).os = (f k).os := by
      obtain ⟨d, hd⟩ := Nat.exists_eq_add_of_le inv.cut.1
      rw [hd]
      refine os_const hst' d k (by omega) (fun i o q1 q2 q3 => ?_)
      rcases Nat.lt_or_ge 1 (kindOp o (look hs i)) with q4 | q4
      · have := (inv.cut.2 i o q3 q4).1 (List.getElem?_eq_some_iff.1 q3).1
        omega
      · exact q4
    rw [hn] at hos
    refine hQ w' I' G' a' (by rw [hos]; exact inv.ext) (by rw [hos]; exact inv.keeps) (by rw [hos]; exact inv.sr) ⟨inv.size, inv.defers, fun t y hy => ?_⟩
    rw [hos]
    rw [← hn] at hy
    rcases env_look h0 hst' ops.length (Nat.le_refl _) t y hy with ⟨i, o, h1, h2, h3, h4, h5⟩ | ⟨h1, h2⟩
    · subst h4
      refine inv.wrote i o t h2 h1 h3 (fun i' o' q1 q2 q3 => ?_)
      rcases Nat.lt_or_ge i i' with h | h
      · exact absurd q3 (h5 i' o' h q2 q1)
      · exact h
    · exact inv.was t y (fun i o q1 q2 => h1 i o q2 q1) h2
  · have hno : ∀ i, ¬ Listed ops.length (Array.replicate ops.length false) i := fun i h => by
      have := h.2
      rw [Array.getD_eq_getD_getElem?, Array.getElem?_replicate] at this
      split at this <;> cases this
    refine ⟨fun j o _ h => absurd h (hno j), ⟨Nat.zero_le _, fun i o _ _ => ⟨fun h => absurd h (hno i), fun h => by omega⟩⟩, by rw [h0]; exact .refl _ _ _, by rw [h0]; exact .refl _ _ _ _ _, by rw [h0]; exact hsr, hf.size, hf.defers,
      fun i o t _ h => absurd h (hno i), fun t y _ hy => by rw [h0]; exact hf.slot t y hy⟩
end

theorem sr_drew {w : World} {I : Nat → Prop} {G : Nat → Option Nat} {os : Objs} (h : Sr GL w I G os) : Sr GL w.drew I G os ∧ Keeps Any w w.drew I I G G (shape os) (shape os) :=
  h.move (fun _ h => h) (fun _ _ => rfl) (Nat.le_refl _) (fun _ h => .inl h) h.lt

theorem WA.regD {st : S} {F : Exit → S → Prop} {id : Nat} {l : List Oper} (hm : P.follows .mixedOrders = true) (ts ids : List Nat) (hs_ : List (Nat × Hint)) {env' : List (Nat × AT)} {os' : Objs} {O : List Prop}
    (hd : drawOk GL l hs_ (traceL P GL C N l hs_ 0 l st) st = true) (he : (evalOps P GL C N l hs_ 0 l st).map (fun p => (pickE p.1.env ts, pickE p.1.os ids, p.2)) = some (env', os', O)) (hC : Sound P GL C) (hO : All O) (h : F .normal ⟨env', os'⟩) :
    WA P GL N (.region id l.toArray true) st F := fun D w0 I0 G0 os0 w I G a h1 h2 h3 h4 => by
  obtain ⟨⟨s, O'⟩, h5, h6⟩ := map_some he
  cases h6
  obtain ⟨s0, k0⟩ := sr_drew h3
  have f0 : Fr D w.drew I G (shape st.os) N a st.env := ⟨h4.size, h4.defers, fun t x hx => ⟨(h4.slot t x hx).1, (h4.slot t x hx).2.mono k0 (AT.refs_any x)⟩⟩
  refine wp_region_any hm ?_
  show wpAny P .any l.toArray _ l.toArray.size (Array.replicate l.toArray.size false) a w.drew
  rw [List.size_toArray]
  refine draw_wp hC hd h5 hO s0 f0 fun w' I' G' a' e k sr f => ?_
  have hsub : ∀ k o, look (pickE s.os ids) k = some o → look s.os k = some o := fun k o => look_pickE
  obtain ⟨s1, k1⟩ := sr.sub hsub
  have e' := (h1.trans (Ext.drew w I (Mine G st.os))).trans e
  exact ⟨I', G', _, ⟨e'.size, e'.os, e'.tape, e'.output, e'.keep, e'.imm, e'.inew, fun b ⟨k, o, q1, q2⟩ => e'.mnew b ⟨k, o, hsub k o q1, q2⟩⟩, ((h2.trans (k0.weaken fun _ _ => trivial)).trans k).trans (k1.weaken fun _ _ => trivial), s1,
    ⟨f.size, f.defers, fun t x hx => ⟨(f.slot t x (look_pickE hx)).1, (f.slot t x (look_pickE hx)).2.mono k1 (AT.refs_any x)⟩⟩, h⟩
end Go.AL
end

section
namespace Go.AL
set_option linter.unusedVariables false
variable {P : Program} {GL : List (Nat × List PV)} {C : Spec} {st : S} {N : Nat} {F : Exit → S → Prop} {code : Code}

theorem pair_eq {α β : Type} {a a' : α} {b b' : β} (h : a = a') (h2 : b = b') : (a, b) = (a', b') := by subst h; subst h2; rfl

/-- what F says where x is done normally: J -/
def Into (J : S → Prop) (F : Exit → S → Prop) : Exit → S → Prop
  | .normal, s => J s
  | e, s => F e s

theorem WA.join {x y : Code} (J : S → Prop) (h1 : ∀ s, J s → WA P GL N y s F) (h2 : WA P GL N x st (Into J F)) : WA P GL N (.seq x y) st F :=
  WA.seq (h2.mono fun e s h => by cases e <;> first | exact h1 s h | exact h)

theorem WA.regM {α : Type} {raw can : α} (T : α → List (Nat × AT) × Objs × List Prop) (hm : raw = can) {id : Nat} {l : List Oper} (ts ids : List Nat) (hs_ : List (Nat × Hint)) {env' : List (Nat × AT)} {os' : Objs} {O : List Prop}
    (he : (evalOps P GL C N l hs_ 0 l st).map (fun p => (pickE p.1.env ts, pickE p.1.os ids, p.2)) = some (T raw)) (hT : T can = (env', os', O)) (hC : Sound P GL C) (hO : All O) (h : F .normal ⟨env', os'⟩) :
    WA P GL N (.region id l.toArray false) st F := by
  subst hm; rw [hT] at he; exact WA.reg ts ids hs_ he hC hO h

theorem WA.regDM {α : Type} {raw can : α} (T : α → List (Nat × AT) × Objs × List Prop) (hm : raw = can) {id : Nat} {l : List Oper} (ts ids : List Nat) (hs_ : List (Nat × Hint)) {env' : List (Nat × AT)} {os' : Objs} {O : List Prop}
    (hmx : P.follows .mixedOrders = true) (hd : drawOk GL l hs_ (traceL P GL C N l hs_ 0 l st) st = true)
    (he : (evalOps P GL C N l hs_ 0 l st).map (fun p => (pickE p.1.env ts, pickE p.1.os ids, p.2)) = some (T raw)) (hT : T can = (env', os', O)) (hC : Sound P GL C) (hO : All O) (h : F .normal ⟨env', os'⟩) :
    WA P GL N (.region id l.toArray true) st F := by
  subst hm; rw [hT] at he; exact WA.regD hmx ts ids hs_ hd he hC hO h

theorem out_nrm {rv : List ResultVar} {outs : List Nat} {m : Nat} {res : AT} {os' : List Obj} {s : S} (r : AT) (l : List Obj) (h1 : resA P s rv = some r) (h2 : renA outs res = some r) (h3 : renOs outs os' = some l) (h4 : lookAll s.os outs = some l)
    (h5 : outs.Nodup) (h6 : outs.length = os'.length) (h7 : outs.take m = List.range m) : Out P rv outs m res os' .normal s := ⟨r, h1, h2, ⟨l, h3, h4⟩, h5, h6, h7⟩

section
variable {α β : Type} {e : α → β}
theorem len_map (l : List α) : (l.map e).length = l.length := List.length_map e
theorem app_map (a b : List α) : a.map e ++ b.map e = (a ++ b).map e := List.map_append.symm
theorem take_map (l : List α) (n : Nat) : (l.map e).take n = (l.take n).map e := (List.map_take).symm
theorem drop_map (l : List α) (n : Nat) : (l.map e).drop n = (l.drop n).map e := (List.map_drop).symm
theorem set_map (l : List α) (i : Nat) (x : α) : (l.map e).set i (e x) = (l.set i x).map e := List.map_set.symm
theorem rep_map (n : Nat) (x : α) : List.replicate n (e x) = (List.replicate n x).map e := (List.map_replicate).symm
theorem get_of_idx {l : List α} {i : Int} {x : α} (h : idxL l i = some x) : l[i.toNat]? = some x := by
  unfold idxL at h; split at h
  · exact h
  · cases h
theorem len_one (f : α → List PV) (l : List α) (n : Nat) (hf : ∀ x, (f x).length = n) : ∀ es, es ∈ l.map f → es.length = n := fun es h => by
  obtain ⟨y, _, rfl⟩ := List.mem_map.1 h; exact hf y
end
end Go.AL
end

section
namespace Go.Proofs
open Go.Shelf
def Tryz.lays137_ren : Go.Shelf.Ren := ⟨fun | 137 => 170 | 217 => 185 | 266 => 195 | n => n, fun | 9 => 9 | 5 => 5 | 3 => 3 | n => n, fun | n => n⟩
theorem Tryz.lays137 : Go.Proofs.Lays.n137 Tryz.prog Tryz.lays137_ren := {
  mixed := by kernel_rfl
  f137 := Tryz.func170.trans (congrArg some (by kernel_rfl))
  f217 := Tryz.func185.trans (congrArg some (by kernel_rfl))
  f266 := Tryz.func195.trans (congrArg some (by kernel_rfl))
  t3 := Tryz.underlying3
  a3 := Tryz.isAgg3
  z3 := Tryz.sizeOf3
  v3 := Tryz.zeroValue3
  t5 := Tryz.underlying5
  a5 := Tryz.isAgg5
  z5 := Tryz.sizeOf5
  v5 := Tryz.zeroValue5
  t9 := Tryz.underlying9
  a9 := Tryz.isAgg9
  z9 := Tryz.sizeOf9
  v9 := Tryz.zeroValue9 }
def Tryz.lays172_ren : Go.Shelf.Ren := ⟨fun | 172 => 172 | 244 => 188 | 245 => 189 | 247 => 196 | 279 => 197 | 280 => 198 | 281 => 199 | 282 => 200 | 287 => 202 | 316 => 203 | 171 => 88 | 205 => 204 | 321 => 205 | 322 => 206 | 243 => 114 | 246 => 136 | 283 => 165 | 284 => 166 | 285 => 167 | 286 => 168 | 129 => 134 | 317 => 181 | 318 => 182 | 319 => 183 | 320 => 184 | 337 => 193 | 338 => 194 | n => n, fun | 9 => 9 | 3 => 3 | 75 => 132 | 76 => 133 | 4 => 4 | 5 => 5 | 167 => 208 | 37 => 51 | 0 => 0 | 85 => 209 | 2 => 2 | 168 => 211 | 53 => 159 | 175 => 218 | 46 => 37 | 210 => 222 | 127 => 156 | 145 => 227 | 143 => 225 | 21 => 21 | 171 => 192 | 173 => 194 | 212 => 204 | 51 => 170 | 20 => 20 | 213 => 205 | 232 => 216 | 233 => 217 | 80 => 136 | n => n, fun | 15 => 6 | 16 => 7 | 17 => 3 | 18 => 4 | 19 => 5 | n => n⟩
theorem Tryz.lays172 : Go.Proofs.Lays.n172 Tryz.prog Tryz.lays172_ren := {
  mixed := by kernel_rfl
  f129 := Tryz.func134.trans (congrArg some (by kernel_rfl))
  f171 := Tryz.func88.trans (congrArg some (by kernel_rfl))
  f172 := Tryz.func172.trans (congrArg some (by kernel_rfl))
  f205 := Tryz.func204.trans (congrArg some (by kernel_rfl))
  f243 := Tryz.func114.trans (congrArg some (by kernel_rfl))
  f244 := Tryz.func188.trans (congrArg some (by kernel_rfl))
  f245 := Tryz.func189.trans (congrArg some (by kernel_rfl))
  f246 := Tryz.func136.trans (congrArg some (by kernel_rfl))
  f247 := Tryz.func196.trans (congrArg some (by kernel_rfl))
  f279 := Tryz.func197.trans (congrArg some (by kernel_rfl))
  f280 := Tryz.func198.trans (congrArg some (by kernel_rfl))
  f281 := Tryz.func199.trans (congrArg some (by kernel_rfl))
  f282 := Tryz.func200.trans (congrArg some (by kernel_rfl))
  f283 := Tryz.func165.trans (congrArg some (by kernel_rfl))
  f284 := Tryz.func166.trans (congrArg some (by kernel_rfl))
  f285 := Tryz.func167.trans (congrArg some (by kernel_rfl))
  f286 := Tryz.func168.trans (congrArg some (by kernel_rfl))
  f287 := Tryz.func202.trans (congrArg some (by kernel_rfl))
  f316 := Tryz.func203.trans (congrArg some (by kernel_rfl))
  f317 := Tryz.func181.trans (congrArg some (by kernel_rfl))
  f318 := Tryz.func182.trans (congrArg some (by kernel_rfl))
  f319 := Tryz.func183.trans (congrArg some (by kernel_rfl))
  f320 := Tryz.func184.trans (congrArg some (by kernel_rfl))
  f321 := Tryz.func205.trans (congrArg some (by kernel_rfl))
  f322 := Tryz.func206.trans (congrArg some (by kernel_rfl))
  f337 := Tryz.func193.trans (congrArg some (by kernel_rfl))
  f338 := Tryz.func194.trans (congrArg some (by kernel_rfl))
  t0 := Tryz.underlying0
  a0 := Tryz.isAgg0
  z0 := Tryz.sizeOf0
  v0 := Tryz.zeroValue0
  t2 := Tryz.underlying2
  a2 := Tryz.isAgg2
  z2 := Tryz.sizeOf2
  v2 := Tryz.zeroValue2
  t3 := Tryz.underlying3
  a3 := Tryz.isAgg3
  z3 := Tryz.sizeOf3
  v3 := Tryz.zeroValue3
  t4 := Tryz.underlying4
  a4 := Tryz.isAgg4
  z4 := Tryz.sizeOf4
  v4 := Tryz.zeroValue4
  t5 := Tryz.underlying5
  a5 := Tryz.isAgg5
  z5 := Tryz.sizeOf5
  v5 := Tryz.zeroValue5
  t9 := Tryz.underlying9
  a9 := Tryz.isAgg9
  z9 := Tryz.sizeOf9
  v9 := Tryz.zeroValue9
  t20 := Tryz.underlying20
  a20 := Tryz.isAgg20
  z20 := Tryz.sizeOf20
  v20 := Tryz.zeroValue20
  t21 := Tryz.underlying21
  a21 := Tryz.isAgg21
  z21 := Tryz.sizeOf21
  v21 := Tryz.zeroValue21
  t37 := Tryz.underlying51
  a37 := Tryz.isAgg51
  z37 := Tryz.sizeOf51
  v37 := Tryz.zeroValue51
  t46 := Tryz.underlying37
  a46 := Tryz.isAgg37
  z46 := Tryz.sizeOf37
  v46 := Tryz.zeroValue37
  t51 := Tryz.underlying170
  a51 := Tryz.isAgg170
  z51 := Tryz.sizeOf170
  v51 := Tryz.zeroValue170
  t53 := Tryz.underlying159
  a53 := Tryz.isAgg159
  z53 := Tryz.sizeOf159
  v53 := Tryz.zeroValue159
  t75 := Tryz.underlying132
  a75 := Tryz.isAgg132
  z75 := Tryz.sizeOf132
  v75 := Tryz.zeroValue132
  t76 := Tryz.underlying133
  a76 := Tryz.isAgg133
  z76 := Tryz.sizeOf133
  v76 := Tryz.zeroValue133
  t85 := Tryz.underlying209
  a85 := Tryz.isAgg209
  z85 := Tryz.sizeOf209
  v85 := Tryz.zeroValue209
  t127 := Tryz.underlying156
  a127 := Tryz.isAgg156
  z127 := Tryz.sizeOf156
  v127 := Tryz.zeroValue156
  t143 := Tryz.underlying225
  a143 := Tryz.isAgg225
  z143 := Tryz.sizeOf225
  v143 := Tryz.zeroValue225
  t145 := Tryz.underlying227
  a145 := Tryz.isAgg227
  z145 := Tryz.sizeOf227
  v145 := Tryz.zeroValue227
  t167 := Tryz.underlying208
  a167 := Tryz.isAgg208
  z167 := Tryz.sizeOf208
  v167 := Tryz.zeroValue208
  t168 := Tryz.underlying211
  a168 := Tryz.isAgg211
  z168 := Tryz.sizeOf211
  v168 := Tryz.zeroValue211
  t171 := Tryz.underlying192
  a171 := Tryz.isAgg192
  z171 := Tryz.sizeOf192
  v171 := Tryz.zeroValue192
  t173 := Tryz.underlying194
  a173 := Tryz.isAgg194
  z173 := Tryz.sizeOf194
  v173 := Tryz.zeroValue194
  t175 := Tryz.underlying218
  a175 := Tryz.isAgg218
  z175 := Tryz.sizeOf218
  v175 := Tryz.zeroValue218
  t210 := Tryz.underlying222
  a210 := Tryz.isAgg222
  z210 := Tryz.sizeOf222
  v210 := Tryz.zeroValue222
  t212 := Tryz.underlying204
  a212 := Tryz.isAgg204
  z212 := Tryz.sizeOf204
  v212 := Tryz.zeroValue204
  t213 := Tryz.underlying205
  a213 := Tryz.isAgg205
  z213 := Tryz.sizeOf205
  t232 := Tryz.underlying216
  a232 := Tryz.isAgg216
  z232 := Tryz.sizeOf216
  v232 := Tryz.zeroValue216
  t233 := Tryz.underlying217
  a233 := Tryz.isAgg217
  z233 := Tryz.sizeOf217
  v233 := Tryz.zeroValue217
  g15 := by kernel_rfl
  g16 := by kernel_rfl
  g17 := by kernel_rfl
  g18 := by kernel_rfl
  g19 := by kernel_rfl }
def Tryz.lays99_ren : Go.Shelf.Ren := ⟨fun | 99 => 116 | 206 => 137 | n => n, fun | 9 => 9 | 4 => 4 | 3 => 3 | n => n, fun | n => n⟩
theorem Tryz.lays99 : Go.Proofs.Lays.n99 Tryz.prog Tryz.lays99_ren := {
  mixed := by kernel_rfl
  f99 := Tryz.func116.trans (congrArg some (by kernel_rfl))
  f206 := Tryz.func137.trans (congrArg some (by kernel_rfl))
  t3 := Tryz.underlying3
  a3 := Tryz.isAgg3
  z3 := Tryz.sizeOf3
  v3 := Tryz.zeroValue3
  t4 := Tryz.underlying4
  a4 := Tryz.isAgg4
  z4 := Tryz.sizeOf4
  v4 := Tryz.zeroValue4
  t9 := Tryz.underlying9
  a9 := Tryz.isAgg9
  z9 := Tryz.sizeOf9
  v9 := Tryz.zeroValue9 }
def Tryz.lays197_ren : Go.Shelf.Ren := ⟨fun | 197 => 80 | 260 => 106 | n => n, fun | 9 => 9 | 21 => 21 | 3 => 3 | 4 => 4 | 5 => 5 | 105 => 119 | 119 => 145 | 0 => 0 | 46 => 37 | 139 => 148 | 138 => 147 | n => n, fun | 3 => 0 | 4 => 1 | n => n⟩
theorem Tryz.lays197 : Go.Proofs.Lays.n197 Tryz.prog Tryz.lays197_ren := {
  mixed := by kernel_rfl
  f197 := Tryz.func80.trans (congrArg some (by kernel_rfl))
  f260 := Tryz.func106.trans (congrArg some (by kernel_rfl))
  t0 := Tryz.underlying0
  a0 := Tryz.isAgg0
  z0 := Tryz.sizeOf0
  v0 := Tryz.zeroValue0
  t3 := Tryz.underlying3
  a3 := Tryz.isAgg3
  z3 := Tryz.sizeOf3
  v3 := Tryz.zeroValue3
  t4 := Tryz.underlying4
  a4 := Tryz.isAgg4
  z4 := Tryz.sizeOf4
  v4 := Tryz.zeroValue4
  t5 := Tryz.underlying5
  a5 := Tryz.isAgg5
  z5 := Tryz.sizeOf5
  v5 := Tryz.zeroValue5
  t9 := Tryz.underlying9
  a9 := Tryz.isAgg9
  z9 := Tryz.sizeOf9
  v9 := Tryz.zeroValue9
  t21 := Tryz.underlying21
  a21 := Tryz.isAgg21
  z21 := Tryz.sizeOf21
  v21 := Tryz.zeroValue21
  t46 := Tryz.underlying37
  a46 := Tryz.isAgg37
  z46 := Tryz.sizeOf37
  v46 := Tryz.zeroValue37
  t105 := Tryz.underlying119
  a105 := Tryz.isAgg119
  z105 := Tryz.sizeOf119
  v105 := Tryz.zeroValue119
  t119 := Tryz.underlying145
  a119 := Tryz.isAgg145
  z119 := Tryz.sizeOf145
  t138 := Tryz.underlying147
  a138 := Tryz.isAgg147
  z138 := Tryz.sizeOf147
  v138 := Tryz.zeroValue147
  t139 := Tryz.underlying148
  a139 := Tryz.isAgg148
  z139 := Tryz.sizeOf148
  v139 := Tryz.zeroValue148
  g3 := by kernel_rfl
  g4 := by kernel_rfl }
def Tryz.lays196_ren : Go.Shelf.Ren := ⟨fun | 196 => 72 | 259 => 99 | n => n, fun | 9 => 9 | 4 => 4 | 3 => 3 | 5 => 5 | 12 => 12 | 119 => 145 | 0 => 0 | 46 => 37 | 139 => 148 | 138 => 147 | 53 => 159 | n => n, fun | 3 => 0 | 4 => 1 | n => n⟩
theorem Tryz.lays196 : Go.Proofs.Lays.n196 Tryz.prog Tryz.lays196_ren := {
  mixed := by kernel_rfl
  f196 := Tryz.func72.trans (congrArg some (by kernel_rfl))
  f259 := Tryz.func99.trans (congrArg some (by kernel_rfl))
  t0 := Tryz.underlying0
  a0 := Tryz.isAgg0
  z0 := Tryz.sizeOf0
  v0 := Tryz.zeroValue0
  t3 := Tryz.underlying3
  a3 := Tryz.isAgg3
  z3 := Tryz.sizeOf3
  v3 := Tryz.zeroValue3
  t4 := Tryz.underlying4
  a4 := Tryz.isAgg4
  z4 := Tryz.sizeOf4
  v4 := Tryz.zeroValue4
  t5 := Tryz.underlying5
  a5 := Tryz.isAgg5
  z5 := Tryz.sizeOf5
  v5 := Tryz.zeroValue5
  t9 := Tryz.underlying9
  a9 := Tryz.isAgg9
  z9 := Tryz.sizeOf9
  v9 := Tryz.zeroValue9
  t12 := Tryz.underlying12
  a12 := Tryz.isAgg12
  z12 := Tryz.sizeOf12
  v12 := Tryz.zeroValue12
  t46 := Tryz.underlying37
  a46 := Tryz.isAgg37
  z46 := Tryz.sizeOf37
  v46 := Tryz.zeroValue37
  t53 := Tryz.underlying159
  a53 := Tryz.isAgg159
  z53 := Tryz.sizeOf159
  v53 := Tryz.zeroValue159
  t119 := Tryz.underlying145
  a119 := Tryz.isAgg145
  z119 := Tryz.sizeOf145
  t138 := Tryz.underlying147
  a138 := Tryz.isAgg147
  z138 := Tryz.sizeOf147
  v138 := Tryz.zeroValue147
  t139 := Tryz.underlying148
  a139 := Tryz.isAgg148
  z139 := Tryz.sizeOf148
  v139 := Tryz.zeroValue148
  g3 := by kernel_rfl
  g4 := by kernel_rfl }
def Tryz.lays151_ren : Go.Shelf.Ren := ⟨fun | 151 => 141 | 152 => 171 | 137 => 170 | 119 => 115 | 224 => 186 | 225 => 187 | 217 => 185 | 266 => 195 | n => n, fun | 9 => 9 | 21 => 21 | 4 => 4 | 3 => 3 | 5 => 5 | 0 => 0 | 46 => 37 | n => n, fun | n => n⟩
theorem Tryz.lays151 : Go.Proofs.Lays.n151 Tryz.prog Tryz.lays151_ren := {
  mixed := by kernel_rfl
  f119 := Tryz.func115.trans (congrArg some (by kernel_rfl))
  f137 := Tryz.func170.trans (congrArg some (by kernel_rfl))
  f151 := Tryz.func141.trans (congrArg some (by kernel_rfl))
  f152 := Tryz.func171.trans (congrArg some (by kernel_rfl))
  f217 := Tryz.func185.trans (congrArg some (by kernel_rfl))
  f224 := Tryz.func186.trans (congrArg some (by kernel_rfl))
  f225 := Tryz.func187.trans (congrArg some (by kernel_rfl))
  f266 := Tryz.func195.trans (congrArg some (by kernel_rfl))
  t0 := Tryz.underlying0
  a0 := Tryz.isAgg0
  z0 := Tryz.sizeOf0
  v0 := Tryz.zeroValue0
  t3 := Tryz.underlying3
  a3 := Tryz.isAgg3
  z3 := Tryz.sizeOf3
  v3 := Tryz.zeroValue3
  t4 := Tryz.underlying4
  a4 := Tryz.isAgg4
  z4 := Tryz.sizeOf4
  v4 := Tryz.zeroValue4
  t5 := Tryz.underlying5
  a5 := Tryz.isAgg5
  z5 := Tryz.sizeOf5
  v5 := Tryz.zeroValue5
  t9 := Tryz.underlying9
  a9 := Tryz.isAgg9
  z9 := Tryz.sizeOf9
  v9 := Tryz.zeroValue9
  t21 := Tryz.underlying21
  a21 := Tryz.isAgg21
  z21 := Tryz.sizeOf21
  v21 := Tryz.zeroValue21
  t46 := Tryz.underlying37
  a46 := Tryz.isAgg37
  z46 := Tryz.sizeOf37
  v46 := Tryz.zeroValue37 }
end Go.Proofs
end

section
namespace Go.AL
open Go.RowKit
set_option linter.unusedVariables false
variable {P : Program} {GL : List (Nat × List PV)}

/-- a call that leaves all that was there -/
theorem sim_below {f : FuncId} {args : List AT} {res : AT} (h : ∀ (w : World) (I : Nat → Prop) (G : Nat → Option Nat) (vs : List Value), Sr GL w I G [] → As w I G (shape []) args vs →
    Calls P f ⟨vs⟩ w fun e w' => ∃ v, e = .returned v ∧ (∀ w' I' G' sh, ATr w' I' G' sh res v) ∧ Below w.heap.size w w') : Sim P GL f args [] res [] := by
  intro w I G vs hs ha
  refine Calls.imp (h w I G vs hs ha) ?_
  rintro e w' ⟨v, rfl, hr, hb⟩
  obtain ⟨s1, k1⟩ := Sr.move (os := number []) (w' := w') (I' := I) hs (fun _ h => h) (fun k hk => hb.block k hk) hb.size (fun _ h => .inl h) (fun k hk => Nat.lt_of_lt_of_le (hs.lt k hk) hb.size)
  exact ⟨v, I, G, rfl, ⟨hb.size, hb.os, hb.tape, hb.output, fun k hk _ => hb.block k hk, fun _ h => h, fun _ h => .inl h, fun _ h => .inl h⟩, s1, hr _ _ _ _, k1.weaken fun _ _ => trivial⟩

theorem as_str {w : World} {I : Nat → Prop} {G : Nat → Option Nat} {sh : Sh} {s : List UInt8} {l : List AT} {vs : List Value} (h : As w I G sh (one (.str s) :: l) vs) : ∃ vs', vs = .string ⟨s.toArray⟩ :: vs' ∧ As w I G sh l vs' := by
  obtain ⟨v, vs', rfl, hv, hl⟩ := h
  have h1 : PVr w I (.str s) v := atr_one hv
  cases h1
  exact ⟨vs', rfl, hl⟩

theorem as_int {w : World} {I : Nat → Prop} {G : Nat → Option Nat} {sh : Sh} {k : IntKind} {n : Int} {l : List AT} {vs : List Value} (h : As w I G sh (one (.int k n) :: l) vs) : ∃ vs', vs = .int k n :: vs' ∧ As w I G sh l vs' := by
  obtain ⟨v, vs', rfl, hv, hl⟩ := h
  have h1 : PVr w I (.int k n) v := atr_one hv
  cases h1
  exact ⟨vs', rfl, hl⟩

theorem as_nil {w : World} {I : Nat → Prop} {G : Nat → Option Nat} {sh : Sh} {vs : List Value} (h : As w I G sh [] vs) : vs = [] := h

theorem atr_int (k : IntKind) (n : Int) (w : World) (I : Nat → Prop) (G : Nat → Option Nat) (sh : Sh) : ATr w I G sh (one (.int k n)) (.int k n) := ⟨_, rfl, .int _ _⟩
theorem atr_bool (b : Bool) (w : World) (I : Nat → Prop) (G : Nat → Option Nat) (sh : Sh) : ATr w I G sh (one (.bool b)) (.bool b) := ⟨_, rfl, .bool _⟩
end Go.AL

namespace Go.Proofs.YthilboheomikjaaGreatDoor
open Go.AL Go.RowKit
set_option linter.unusedVariables false

/-- the tables of the library that are read -/
def GL0 : List (Nat × List PV) := [(0, (List.range 256).map fun c => .int .u8 (Lib.firstT c)), (1, (List.range 32).map fun i => .int .u8 (if i % 2 = 0 then Lib.accLo (i / 2) else Lib.accHi (i / 2)))]

theorem tabs_of {w : World} {I : Nat → Prop} {G : Nat → Option Nat} {os : Objs} (h : Sr GL0 w I G os) : Lib.Utf8Tabs 0 1 w := by
  obtain ⟨_, h0⟩ := h.gl 0 _ rfl
  obtain ⟨_, h1⟩ := h.gl 1 _ rfl
  refine ⟨fun c hc => ?_, fun i hi => ⟨?_, ?_⟩⟩
  · obtain ⟨u, hu, hr⟩ := h0 c (.int .u8 (Lib.firstT c)) (by simp [hc])
    cases hr; exact hu
  · obtain ⟨u, hu, hr⟩ := h1 (2 * i) (.int .u8 (Lib.accLo i)) (by
      rw [List.getElem?_map, List.getElem?_range (by omega)]
      simp only [Option.map_some, show 2 * i % 2 = 0 from by omega, if_true, show 2 * i / 2 = i from by omega])
    cases hr; exact hu
  · obtain ⟨u, hu, hr⟩ := h1 (2 * i + 1) (.int .u8 (Lib.accHi i)) (by
      rw [List.getElem?_map, List.getElem?_range (by omega)]
      simp only [Option.map_some, show (2 * i + 1) % 2 = 1 from by omega, show (2 * i + 1) / 2 = i from by omega]
      rfl)
    cases hr; exact hu

/-- utf8.DecodeRuneInString -/
def F80 (k : Nat) (s : List UInt8) : Option (Int × Int) := some (((Lib.decodeGo ⟨s.toArray⟩).1 : Nat), ((Lib.decodeGo ⟨s.toArray⟩).2 : Nat))
theorem F80_ok (k : Nat) (v0 : List UInt8) (r : Int × Int) (hF : F80 k v0 = some r) : Sim Tryz.prog GL0 80 [one (.str v0)] [] (.tup [(false, [.pv (.int .i32 r.1)]), (false, [.pv (.int .i64 r.2)])]) [] := by
  obtain rfl := Option.some.inj hF
  refine sim_below fun w I G vs hs ha => ?_
  obtain ⟨vs, rfl, hb⟩ := as_str ha; clear ha; have ha := hb; clear hb
  obtain rfl := as_nil ha
  refine Calls.imp (Any.utf8_DecodeRuneInString Tryz.lays197 ⟨v0.toArray⟩ w (tabs_of hs)) ?_
  rintro e w' ⟨rfl, hb⟩
  exact ⟨_, rfl, fun _ _ _ _ => ⟨_, rfl, _, _, rfl, ⟨_, rfl, .int _ _⟩, _, _, rfl, ⟨_, rfl, .int _ _⟩, rfl⟩, hb⟩

/-- utf8.ValidString -/
def F72 (k : Nat) (s : List UInt8) : Option Bool := if s.length ≤ 9223372036854775807 then some (Lib.validD s) else none
theorem F72_ok (k : Nat) (v0 : List UInt8) (r : Bool) (hF : F72 k v0 = some r) : Sim Tryz.prog GL0 72 [one (.str v0)] [] (one (.bool r)) [] := by
  obtain ⟨hl, hF⟩ := if_some hF
  obtain rfl := Option.some.inj hF
  refine sim_below fun w I G vs hs ha => ?_
  obtain ⟨vs, rfl, hb⟩ := as_str ha; clear ha; have ha := hb; clear hb
  obtain rfl := as_nil ha
  refine Calls.imp (Any.utf8_ValidString Tryz.lays196 ⟨v0.toArray⟩ w (by rw [size_mk]; exact hl) (tabs_of hs)) ?_
  rintro e w' ⟨rfl, hb⟩
  exact ⟨_, rfl, fun _ _ _ _ => ⟨_, rfl, .bool _⟩, hb⟩

/-- strings.HasPrefix -/
def F116 (k : Nat) (s p : List UInt8) : Option Bool := some (Lib.hasPrefix s p)
theorem F116_ok (k : Nat) (v0 v1 : List UInt8) (r : Bool) (hF : F116 k v0 v1 = some r) : Sim Tryz.prog GL0 116 [one (.str v0), one (.str v1)] [] (one (.bool r)) [] := by
  obtain rfl := Option.some.inj hF
  refine sim_below fun w I G vs hs ha => ?_
  obtain ⟨vs, rfl, hb⟩ := as_str ha; clear ha; have ha := hb; clear hb
  obtain ⟨vs, rfl, hb⟩ := as_str ha; clear ha; have ha := hb; clear hb
  obtain rfl := as_nil ha
  refine Calls.imp (Any.strings_HasPrefix Tryz.lays99 ⟨v0.toArray⟩ ⟨v1.toArray⟩ w) ?_
  rintro e w' ⟨rfl, rfl⟩
  exact ⟨_, rfl, fun _ _ _ _ => ⟨_, rfl, .bool _⟩, .refl _ _⟩

/-- strings.IndexByte -/
def F170 (k : Nat) (s : List UInt8) (c : Int) : Option Int := some (Lib.indexByte s c.toNat.toUInt8)
theorem F170_ok (k : Nat) (v0 : List UInt8) (v1 : Int) (r : Int) (hF : F170 k v0 v1 = some r) : Sim Tryz.prog GL0 170 [one (.str v0), one (.int .u8 v1)] [] (one (.int .i64 r)) [] := by
  obtain rfl := Option.some.inj hF
  refine sim_below fun w I G vs hs ha => ?_
  obtain ⟨vs, rfl, hb⟩ := as_str ha; clear ha; have ha := hb; clear hb
  obtain ⟨vs, rfl, hb⟩ := as_int ha; clear ha; have ha := hb; clear hb
  obtain rfl := as_nil ha
  refine Calls.imp (Any.strings_IndexByte Tryz.lays137 ⟨v0.toArray⟩ v1 w) ?_
  rintro e w' ⟨rfl, rfl⟩
  exact ⟨_, rfl, fun _ _ _ _ => ⟨_, rfl, .int _ _⟩, .refl _ _⟩

/-- strconv.Atoi, of a number -/
def F172 (k : Nat) (s : List UInt8) : Option Int := if s.length ≤ 18 then Lib.atoi s else none
theorem F172_ok (k : Nat) (v0 : List UInt8) (r : Int) (hF : F172 k v0 = some r) : Sim Tryz.prog GL0 172 [one (.str v0)] [] (.tup [(false, [.pv (.int .i64 r)]), (false, [.pv .nilif])]) [] := by
  obtain ⟨hl, hF⟩ := if_some hF
  refine sim_below fun w I G vs hs ha => ?_
  obtain ⟨vs, rfl, hb⟩ := as_str ha; clear ha; have ha := hb; clear hb
  obtain rfl := as_nil ha
  refine Calls.imp (Any.strconv_Atoi Tryz.lays172 ⟨v0.toArray⟩ r (by rw [size_mk]; exact hl) hF w) ?_
  rintro e w' ⟨rfl, t, rfl⟩
  refine ⟨_, rfl, fun _ _ _ _ => ⟨_, rfl, _, _, rfl, ⟨_, rfl, .int _ _⟩, _, _, rfl, ⟨_, rfl, .nilif⟩, rfl⟩, ?_⟩
  exact Lib.bytesWorld_below _ _ _
end Go.Proofs.YthilboheomikjaaGreatDoor
end

section
namespace Go.Proofs.YthilboheomikjaaGreatDoor
open Go.AL Go.RowKit Go.Shelf Go.Lib Go.ChangeShapes Go.WideShapes Go.ChangeAt
set_option maxRecDepth 100000
set_option linter.unusedVariables false

theorem own : ownKnob Tryz.prog.godebug = none := by kernel_rfl
theorem first_eq : Go.Pinned.utf8First = firstData := by kernel_rfl
theorem accept_eq : (Rows.laid_unicode_utf8_acceptRanges : DataW Unit) = acceptData := by kernel_rfl

theorem u8x : U8Extra Tryz.prog Tryz.lays197_ren := ⟨by kernel_rfl, by kernel_rfl, by kernel_rfl, by kernel_rfl, by kernel_rfl, by kernel_rfl, by kernel_rfl⟩

/-- the cells of the tables -/
theorem sr_of_tabs {W : World} (h : Lib.Utf8Tabs 0 1 W) : Sr GL0 W (fun k => k < 2) (fun _ => none) [] := by
  have hb : ∀ {b o : Nat} {v : Value}, W.cell? ⟨b, o, none⟩ = some v → b < W.heap.size := fun {b o v} h => by
    simp only [World.cell?] at h
    cases hq : W.heap[b]? with
    | none => rw [hq] at h; cases h
    | some x => exact (Array.getElem?_eq_some_iff.1 hq).1
  refine ⟨fun g ps hg => ?_, (fun id o h1 => by cases h1), (fun id o b h1 => by cases h1), (fun id id' o o' b h1 => by cases h1), fun k hk => ?_⟩
  · match g, hg with
    | 0, hg =>
      cases hg
      refine ⟨by omega, fun j p hp => ?_⟩
      simp only [List.getElem?_map] at hp
      have hj : j < 256 := by
        rcases Nat.lt_or_ge j 256 with h | h
        · exact h
        · rw [List.getElem?_eq_none (by simpa using h)] at hp; cases hp
      rw [List.getElem?_range hj] at hp
      cases hp
      exact ⟨_, h.1 j hj, .int _ _⟩
    | 1, hg =>
      cases hg
      refine ⟨by omega, fun j p hp => ?_⟩
      simp only [List.getElem?_map] at hp
      have hj : j < 32 := by
        rcases Nat.lt_or_ge j 32 with h | h
        · exact h
        · rw [List.getElem?_eq_none (by simpa using h)] at hp; cases hp
      rw [List.getElem?_range hj] at hp
      cases hp
      obtain ⟨h1, h2⟩ := h.2 (j / 2) (by omega)
      rcases Nat.mod_two_eq_zero_or_one j with e | e
      · show ∃ u, _ ∧ PVr _ _ (PV.int IntKind.u8 (if j % 2 = 0 then _ else _)) u
        rw [if_pos e]
        have : 2 * (j / 2) = j := by omega
        rw [this] at h1
        exact ⟨_, h1, .int _ _⟩
      · show ∃ u, _ ∧ PVr _ _ (PV.int IntKind.u8 (if j % 2 = 0 then _ else _)) u
        rw [if_neg (by omega)]
        have : 2 * (j / 2) + 1 = j := by omega
        rw [this] at h2
        exact ⟨_, h2, .int _ _⟩
  · have : k = 0 ∨ k = 1 := by omega
    rcases this with rfl | rfl
    · exact hb (h.1 0 (by omega))
    · exact hb (h.2 0 (by omega)).1

/-- a call that comes to true, over the tables alone -/
theorem true_of_sim {f : FuncId} {args : List AT} {vs : List Value} {W : World} {I : Nat → Prop} (h : Sim Tryz.prog GL0 f args [] (one (.bool true)) []) (hs : Sr GL0 W I (fun _ => none) []) (ha : As W I (fun _ => none) (Go.AL.shape []) args vs) :
    Calls Tryz.prog f ⟨vs⟩ W fun e w' => e = .returned (.bool true) ∧ Below W.heap.size W w' := by
  refine Calls.imp (h W I (fun _ => none) vs hs ha) ?_
  rintro e w' ⟨v, I', G', rfl, h1, h2, h3, h4⟩
  have hb : v = .bool true := by
    obtain ⟨c, e, hr⟩ := h3; cases e; cases hr; rfl
  subst hb
  exact ⟨rfl, h1.os, h1.tape, h1.output, h1.size, fun k hk => h1.keep k hk fun ⟨id, o, q, _⟩ => by cases q⟩

theorem i64_bounds {n : Int} (h : (Lit.int .i64 n).wf = true) : -9223372036854775808 ≤ n ∧ n ≤ 9223372036854775807 := by
  simpa [Lit.wf, IntKind.min, IntKind.max, IntKind.signed, IntKind.bits] using h
end Go.Proofs.YthilboheomikjaaGreatDoor
end

section
namespace Go.Proofs.YthilboheomikjaaGreatDoor
open Go.AL
set_option linter.unusedVariables false
set_option linter.unusedSimpArgs false
set_option maxRecDepth 100000

structure api_Range where
  f_Lo : Int
  f_Hi : Int
def e_api_Range (x : api_Range) : List PV := [.int .i64 x.f_Lo, .int .i64 x.f_Hi]
theorem len_api_Range (l : List api_Range) : ∀ es, es ∈ l.map e_api_Range → es.length = 2 := fun es h => by obtain ⟨y, _, rfl⟩ := List.mem_map.1 h; rfl
structure api_Re where
  f_Kind : Int
  f_Set : List api_Range
  f_L : List api_Re
  f_Min : Int
  f_Max : Int
mutual
def e0_api_Re : api_Re → List PV
  | ⟨x0, x1, x2, x3, x4⟩ => [.int .i64 x0, .sl (x1.map e_api_Range), .sl (es_api_Re x2), .int .i64 x3, .int .i64 x4]
def es_api_Re : List api_Re → List (List PV)
  | [] => []
  | x :: l => e0_api_Re x :: es_api_Re l
end
def e_api_Re (x : api_Re) : List PV := [.int .i64 x.f_Kind, .sl (x.f_Set.map e_api_Range), .sl (es_api_Re x.f_L), .int .i64 x.f_Min, .int .i64 x.f_Max]
theorem e0_eq_api_Re (x : api_Re) : e0_api_Re x = e_api_Re x := by cases x; simp [e0_api_Re, e_api_Re]
theorem es_map_api_Re (l : List api_Re) : es_api_Re l = l.map e_api_Re := by induction l with | nil => rfl | cons x l ih => simp [es_api_Re, ih, e0_eq_api_Re]
theorem idx_api_Re {l : List api_Re} {i : Int} {x : api_Re} (h : idxL l i = some x) : idxL (es_api_Re l) i = some (e_api_Re x) := by rw [es_map_api_Re]; exact idx_map _ h
theorem lens_api_Re (l : List api_Re) : (es_api_Re l).length = l.length := by rw [es_map_api_Re, List.length_map]
theorem app_api_Re (a b : List api_Re) : es_api_Re a ++ es_api_Re b = es_api_Re (a ++ b) := by simp only [es_map_api_Re, e0_eq_api_Re]; exact app_map .. 
theorem take_api_Re (l : List api_Re) (n : Nat) : (es_api_Re l).take n = es_api_Re (l.take n) := by simp only [es_map_api_Re, e0_eq_api_Re]; exact take_map .. 
theorem drop_api_Re (l : List api_Re) (n : Nat) : (es_api_Re l).drop n = es_api_Re (l.drop n) := by simp only [es_map_api_Re, e0_eq_api_Re]; exact drop_map .. 
theorem set_api_Re (l : List api_Re) (i : Nat) (x : api_Re) : (es_api_Re l).set i (e0_api_Re x) = es_api_Re (l.set i x) := by simp only [es_map_api_Re, e0_eq_api_Re]; exact set_map .. 
theorem len_api_Re (l : List api_Re) : ∀ es, es ∈ es_api_Re l → es.length = 5 := fun es h => by rw [es_map_api_Re] at h; obtain ⟨y, _, rfl⟩ := List.mem_map.1 h; rfl
/-! entrepot entrepotref1.Point -/
def F67_j0 (v104 : Bool) : Option Bool :=
  some v104
def F67 (k : Nat) (v0 : Int) : Option Bool :=
  (cond (decide (v0 ≥ 0)) (cond (decide (v0 ≤ 1114111)) (cond (decide (v0 < 55296)) ((F67_j0 true)) ((F67_j0 (decide (v0 > 57343))))) ((F67_j0 false))) ((F67_j0 false)))
theorem F67_ok (k : Nat) (v0 : Int) (r : Bool) (hF : F67 k v0 = some r) : Sim Tryz.prog GL0 67 [one (.int .i64 v0)] [] (one (.bool r)) [] := by
  refine sim_of [] Tryz.func67 rfl (by kernel_rfl) (by kernel_rfl) ?_
  show WA _ _ 17 _ _ _
  refine WA.seq ?_
  refine WA.reg [0] [] [] (env' := [(0, one (.int .i64 v0))]) (os' := []) (O := []) (by kernel_rfl) (sound _ _) trivial ?_
  refine WA.join (fun s_ => ∃ (v104 : Bool), pickE s_.env [2] = [(2, one (.bool v104))] ∧ pickE s_.os [] = [] ∧ F67_j0 v104 = some r) ?_ ?_
  · rintro s_ ⟨v104, he, ho, hF⟩
    refine WA.keep _ _ he ho ?_
    clear he ho
    refine WA.ret ?_
    obtain rfl := Option.some.inj hF
    exact out_ret (one (.bool v104)) [] (by kernel_rfl) (by kernel_rfl) (by kernel_rfl) (by kernel_rfl) (by decide) rfl rfl
  · rcases Bool.eq_false_or_eq_true (decide (v0 ≥ 0)) with hb101 | hb101
    · have hF := cond_t hF hb101
      rcases Bool.eq_false_or_eq_true (decide (v0 ≤ 1114111)) with hb102 | hb102
      · have hF := cond_t hF hb102
        rcases Bool.eq_false_or_eq_true (decide (v0 < 55296)) with hb103 | hb103
        · have hF := cond_t hF hb103
          refine WA.reg [2] [] [(2, .bool true), (6, .bool true), (9, .bool true)] (env' := [(2, one (.bool true))]) (os' := []) (O := [(decide (v0 ≥ 0)) = true, (decide (v0 ≤ 1114111)) = true, (decide (v0 < 55296)) = true]) (by kernel_rfl) (sound _ _) ⟨hb101, hb102, hb103, trivial⟩ ?_
          exact ⟨true, by kernel_rfl, by kernel_rfl, hF⟩
        · have hF := cond_f hF hb103
          refine WA.reg [2] [] [(2, .bool true), (6, .bool true), (9, .bool false)] (env' := [(2, one (.bool (decide (v0 > 57343))))]) (os' := []) (O := [(decide (v0 ≥ 0)) = true, (decide (v0 ≤ 1114111)) = true, (decide (v0 < 55296)) = false]) (by kernel_rfl) (sound _ _) ⟨hb101, hb102, hb103, trivial⟩ ?_
          exact ⟨(decide (v0 > 57343)), by kernel_rfl, by kernel_rfl, hF⟩
      · have hF := cond_f hF hb102
        refine WA.reg [2] [] [(2, .bool true), (6, .bool false)] (env' := [(2, one (.bool false))]) (os' := []) (O := [(decide (v0 ≥ 0)) = true, (decide (v0 ≤ 1114111)) = false]) (by kernel_rfl) (sound _ _) ⟨hb101, hb102, trivial⟩ ?_
        exact ⟨false, by kernel_rfl, by kernel_rfl, hF⟩
    · have hF := cond_f hF hb101
      refine WA.reg [2] [] [(2, .bool false)] (env' := [(2, one (.bool false))]) (os' := []) (O := [(decide (v0 ≥ 0)) = false]) (by kernel_rfl) (sound _ _) ⟨hb101, trivial⟩ ?_
      exact ⟨false, by kernel_rfl, by kernel_rfl, hF⟩
/-! entrepot entrepotref1.Next -/
def F46_j6 (v116 : Int) (v129 : Int) (v137 : Bool) : Option (Int × Int) :=
  cond v137 ((some ((-1), 1))) (((some (v129, v116))))
def F46_b5 (k : Nat) (self5 : Int → Int → Option (Int × Int)) (v0 : List UInt8) (v1 : Int) (v116 : Int) (v117 : Int) (v129 : Int) (v130 : Int) : Option (Int × Int) :=
  (cond (decide (v130 < v116)) ((idxL v0 (w64 (v1 + v130))).bind fun y132 => (cond ((bitsI .and .u8 (y132.toNat : Int) 192) != 128) ((some ((-1), 1))) ((idxL v0 (w64 (v1 + v130))).bind fun y134 => (self5 (w64 ((w64 (v129 * 64)) + (w64 (bitsI .and .u8 (y134.toNat : Int) 63)))) (w64 (v130 + 1)))))) ((cond (decide (v129 < v117)) ((F46_j6 v116 v129 true)) ((F67 k v129).bind fun y136 => (F46_j6 v116 v129 (!y136))))))
def F46_l5 (k : Nat) (v0 : List UInt8) (v1 : Int) (v116 : Int) (v117 : Int) : Nat → Int → Int → Option (Int × Int)
  | 0, _, _ => none
  | m_ + 1, v129, v130 => F46_b5 k (F46_l5 k v0 v1 v116 v117 m_) v0 v1 v116 v117 v129 v130
def F46_j4 (k : Nat) (v0 : List UInt8) (v1 : Int) (v115 : Int) (v116 : Int) (v117 : Int) : Option (Int × Int) :=
  (cond (decide ((w64 (v1 + v116)) > (v0.length : Int))) ((some ((-1), 1))) (((F46_l5 k v0 v1 v116 v117 k v115 1))))
def F46_j3 (k : Nat) (v0 : List UInt8) (v1 : Int) (y104 : UInt8) (v113 : Bool) : Option (Int × Int) :=
  cond v113 ((F46_j4 k v0 v1 (bitsI .and .i64 (w64 (y104.toNat : Int)) 7) 4 65536)) ((some ((-1), 1)))
def F46_j2 (k : Nat) (v0 : List UInt8) (v1 : Int) (y104 : UInt8) (v110 : Bool) : Option (Int × Int) :=
  cond v110 ((F46_j4 k v0 v1 (bitsI .and .i64 (w64 (y104.toNat : Int)) 15) 3 2048)) (cond (decide ((w64 (y104.toNat : Int)) ≥ 240)) ((F46_j3 k v0 v1 y104 (decide ((w64 (y104.toNat : Int)) < 248)))) ((F46_j3 k v0 v1 y104 false)))
def F46_j1 (k : Nat) (v0 : List UInt8) (v1 : Int) (y104 : UInt8) (v107 : Bool) : Option (Int × Int) :=
  cond v107 ((F46_j4 k v0 v1 (bitsI .and .i64 (w64 (y104.toNat : Int)) 31) 2 128)) (cond (decide ((w64 (y104.toNat : Int)) ≥ 224)) ((F46_j2 k v0 v1 y104 (decide ((w64 (y104.toNat : Int)) < 240)))) ((F46_j2 k v0 v1 y104 false)))
def F46_j0 (k : Nat) (v0 : List UInt8) (v1 : Int) (v102 : Bool) : Option (Int × Int) :=
  cond v102 ((some (0, 0))) ((idxL v0 v1).bind fun y104 => (((cond (decide ((w64 (y104.toNat : Int)) < 128)) ((some ((w64 (y104.toNat : Int)), 1))) (cond (decide ((w64 (y104.toNat : Int)) ≥ 192)) ((F46_j1 k v0 v1 y104 (decide ((w64 (y104.toNat : Int)) < 224)))) ((F46_j1 k v0 v1 y104 false)))))))
def F46 (k : Nat) (v0 : List UInt8) (v1 : Int) : Option (Int × Int) :=
  (cond (decide (v1 < 0)) ((F46_j0 k v0 v1 true)) ((F46_j0 k v0 v1 (decide (v1 ≥ (v0.length : Int))))))
theorem F46_ok (k : Nat) (v0 : List UInt8) (v1 : Int) (r : Int × Int) (hF : F46 k v0 v1 = some r) : Sim Tryz.prog GL0 46 [one (.str v0), one (.int .i64 v1)] [] (.tup [(false, [.pv (.int .i64 r.1)]), (false, [.pv (.int .i64 r.2)])]) [] := by
  refine sim_of [] Tryz.func46 rfl (by kernel_rfl) (by kernel_rfl) ?_
  show WA _ _ 91 _ _ _
  refine WA.seq ?_
  refine WA.reg [0, 1] [] [] (env' := [(0, one (.str v0)), (1, one (.int .i64 v1))]) (os' := []) (O := []) (by kernel_rfl) (sound _ _) trivial ?_
  refine WA.seq ?_
  refine WA.join (fun s_ => ∃ (v102 : Bool), pickE s_.env [0, 1, 17] = [(0, one (.str v0)), (1, one (.int .i64 v1)), (17, one (.bool v102))] ∧ pickE s_.os [] = [] ∧ F46_j0 k v0 v1 v102 = some r) ?_ ?_
  · rintro s_ ⟨v102, he, ho, hF⟩
    refine WA.keep _ _ he ho ?_
    clear he ho
    refine WA.cond (b := v102) rfl (fun hb103 => ?_) (fun hb103 => ?_)
    · have hF := cond_t hF hb103
      refine WA.seq ?_
      refine WA.reg [4, 5] [] [] (env' := [(4, one (.int .i64 0)), (5, one (.int .i64 0))]) (os' := []) (O := []) (by kernel_rfl) (sound _ _) trivial ?_
      refine WA.ret ?_
      obtain rfl := Option.some.inj hF
      exact out_ret (.tup [(false, [.pv (.int .i64 0)]), (false, [.pv (.int .i64 0)])]) [] (by kernel_rfl) (by kernel_rfl) (by kernel_rfl) (by kernel_rfl) (by decide) rfl rfl
    · have hF := cond_f hF hb103
      refine WA.skip ?_
      refine WA.seq ?_
      obtain ⟨y104, hy104, hF⟩ := bind_some hF
      refine WA.reg [0, 1, 6] [] [(2, .num (y104.toNat : Int))] (env' := [(0, one (.str v0)), (1, one (.int .i64 v1)), (6, one (.int .i64 (w64 (y104.toNat : Int))))]) (os' := []) (O := [(idxL v0 v1).map (fun b => (b.toNat : Int)) = some (y104.toNat : Int)]) (by kernel_rfl) (sound _ _) ⟨(by rw [hy104]; rfl), trivial⟩ ?_
      refine WA.seq ?_
      refine WA.reg [0, 1, 6] [] [] (env' := [(0, one (.str v0)), (1, one (.int .i64 v1)), (6, one (.int .i64 (w64 (y104.toNat : Int))))]) (os' := []) (O := []) (by kernel_rfl) (sound _ _) trivial ?_
      refine WA.join (fun s_ => ∃ (v115 : Int) (v116 : Int) (v117 : Int), pickE s_.env [0, 1, 6, 7, 8] = [(0, one (.str v0)), (1, one (.int .i64 v1)), (6, one (.int .i64 v115)), (7, one (.int .i64 v116)), (8, one (.int .i64 v117))] ∧ pickE s_.os [] = [] ∧ F46_j4 k v0 v1 v115 v116 v117 = some r) ?_ ?_
      · rintro s_ ⟨v115, v116, v117, he, ho, hF⟩
        refine WA.keep _ _ he ho ?_
        clear he ho
        refine WA.seq ?_
        refine WA.seq ?_
        refine WA.reg [0, 1, 6, 7, 8, 58] [] [] (env' := [(0, one (.str v0)), (1, one (.int .i64 v1)), (6, one (.int .i64 v115)), (7, one (.int .i64 v116)), (8, one (.int .i64 v117)), (58, one (.bool (decide ((w64 (v1 + v116)) > (v0.length : Int)))))]) (os' := []) (O := []) (by kernel_rfl) (sound _ _) trivial ?_
        refine WA.cond (b := (decide ((w64 (v1 + v116)) > (v0.length : Int)))) rfl (fun hb118 => ?_) (fun hb118 => ?_)
        · have hF := cond_t hF hb118
          refine WA.seq ?_
          refine WA.reg [4, 5] [] [] (env' := [(4, one (.int .i64 (-1))), (5, one (.int .i64 1))]) (os' := []) (O := []) (by kernel_rfl) (sound _ _) trivial ?_
          refine WA.ret ?_
          obtain rfl := Option.some.inj hF
          exact out_ret (.tup [(false, [.pv (.int .i64 (-1))]), (false, [.pv (.int .i64 1)])]) [] (by kernel_rfl) (by kernel_rfl) (by kernel_rfl) (by kernel_rfl) (by decide) rfl rfl
        · have hF := cond_f hF hb118
          refine WA.skip ?_
          refine WA.seq ?_
          refine WA.seq ?_
          refine WA.reg [0, 1, 6, 7, 8, 9] [] [] (env' := [(0, one (.str v0)), (1, one (.int .i64 v1)), (6, one (.int .i64 v115)), (7, one (.int .i64 v116)), (8, one (.int .i64 v117)), (9, one (.int .i64 1))]) (os' := []) (O := []) (by kernel_rfl) (sound _ _) trivial ?_
          refine WA.block ?_
          refine WA.loop (fun m s_ => ∃ (v129 : Int) (v130 : Int), pickE s_.env [0, 1, 6, 7, 8, 9] = [(0, one (.str v0)), (1, one (.int .i64 v1)), (6, one (.int .i64 v129)), (7, one (.int .i64 v116)), (8, one (.int .i64 v117)), (9, one (.int .i64 v130))] ∧ pickE s_.os [] = [] ∧ F46_l5 k v0 v1 v116 v117 m v129 v130 = some r) k ⟨v115, 1, by kernel_rfl, by kernel_rfl, hF⟩ ?_
          clear hF
          rintro m5 s_ ⟨v129, v130, he, ho, hF⟩
          refine WA.keep _ _ he ho ?_
          clear he ho
          cases m5 with
          | zero => cases hF
          | succ m5 =>
            obtain ⟨self5, hself5⟩ : ∃ g, g = F46_l5 k v0 v1 v116 v117 m5 := ⟨_, rfl⟩
            have hF : F46_b5 k self5 v0 v1 v116 v117 v129 v130 = some r := by rw [hself5]; exact hF
            refine WA.seq ?_
            refine WA.seq ?_
            refine WA.reg [0, 1, 6, 7, 8, 9, 61] [] [] (env' := [(0, one (.str v0)), (1, one (.int .i64 v1)), (6, one (.int .i64 v129)), (7, one (.int .i64 v116)), (8, one (.int .i64 v117)), (9, one (.int .i64 v130)), (61, one (.bool (decide (v130 < v116))))]) (os' := []) (O := []) (by kernel_rfl) (sound _ _) trivial ?_
            refine WA.cond (b := (decide (v130 < v116))) rfl (fun hb131 => ?_) (fun hb131 => ?_)
            · have hF := cond_t hF hb131
              refine WA.skip ?_
              refine WA.seq ?_
              refine WA.block ?_
              refine WA.seq ?_
              refine WA.seq ?_
              obtain ⟨y132, hy132, hF⟩ := bind_some hF
              refine WA.reg [0, 1, 6, 7, 8, 9, 70] [] [(4, .num (y132.toNat : Int))] (env' := [(0, one (.str v0)), (1, one (.int .i64 v1)), (6, one (.int .i64 v129)), (7, one (.int .i64 v116)), (8, one (.int .i64 v117)), (9, one (.int .i64 v130)), (70, one (.bool ((bitsI .and .u8 (y132.toNat : Int) 192) != 128)))]) (os' := []) (O := [(idxL v0 (w64 (v1 + v130))).map (fun b => (b.toNat : Int)) = some (y132.toNat : Int)]) (by kernel_rfl) (sound _ _) ⟨(by rw [hy132]; rfl), trivial⟩ ?_
              refine WA.cond (b := ((bitsI .and .u8 (y132.toNat : Int) 192) != 128)) rfl (fun hb133 => ?_) (fun hb133 => ?_)
              · have hF := cond_t hF hb133
                refine WA.seq ?_
                refine WA.reg [4, 5] [] [] (env' := [(4, one (.int .i64 (-1))), (5, one (.int .i64 1))]) (os' := []) (O := []) (by kernel_rfl) (sound _ _) trivial ?_
                refine WA.ret ?_
                obtain rfl := Option.some.inj hF
                exact out_ret (.tup [(false, [.pv (.int .i64 (-1))]), (false, [.pv (.int .i64 1)])]) [] (by kernel_rfl) (by kernel_rfl) (by kernel_rfl) (by kernel_rfl) (by decide) rfl rfl
              · have hF := cond_f hF hb133
                refine WA.skip ?_
                obtain ⟨y134, hy134, hF⟩ := bind_some hF
                refine WA.reg [0, 1, 6, 7, 8, 9] [] [(6, .num (y134.toNat : Int))] (env' := [(0, one (.str v0)), (1, one (.int .i64 v1)), (6, one (.int .i64 (w64 ((w64 (v129 * 64)) + (w64 (bitsI .and .u8 (y134.toNat : Int) 63)))))), (7, one (.int .i64 v116)), (8, one (.int .i64 v117)), (9, one (.int .i64 v130))]) (os' := []) (O := [(idxL v0 (w64 (v1 + v130))).map (fun b => (b.toNat : Int)) = some (y134.toNat : Int)]) (by kernel_rfl) (sound _ _) ⟨(by rw [hy134]; rfl), trivial⟩ ?_
                refine WA.reg [0, 1, 6, 7, 8, 9] [] [] (env' := [(0, one (.str v0)), (1, one (.int .i64 v1)), (6, one (.int .i64 (w64 ((w64 (v129 * 64)) + (w64 (bitsI .and .u8 (y134.toNat : Int) 63)))))), (7, one (.int .i64 v116)), (8, one (.int .i64 v117)), (9, one (.int .i64 (w64 (v130 + 1))))]) (os' := []) (O := []) (by kernel_rfl) (sound _ _) trivial ?_
                exact ⟨m5, Nat.lt_succ_self _, (w64 ((w64 (v129 * 64)) + (w64 (bitsI .and .u8 (y134.toNat : Int) 63)))), (w64 (v130 + 1)), by kernel_rfl, by kernel_rfl, by rw [hself5] at hF; exact hF⟩
            · have hF := cond_f hF hb131
              refine WA.exit ?_
              refine WA.seq ?_
              refine WA.join (fun s_ => ∃ (v137 : Bool), pickE s_.env [6, 7, 88] = [(6, one (.int .i64 v129)), (7, one (.int .i64 v116)), (88, one (.bool v137))] ∧ pickE s_.os [] = [] ∧ F46_j6 v116 v129 v137 = some r) ?_ ?_
              · rintro s_ ⟨v137, he, ho, hF⟩
                refine WA.keep _ _ he ho ?_
                clear he ho
                refine WA.cond (b := v137) rfl (fun hb138 => ?_) (fun hb138 => ?_)
                · have hF := cond_t hF hb138
                  refine WA.seq ?_
                  refine WA.reg [4, 5] [] [] (env' := [(4, one (.int .i64 (-1))), (5, one (.int .i64 1))]) (os' := []) (O := []) (by kernel_rfl) (sound _ _) trivial ?_
                  refine WA.ret ?_
                  obtain rfl := Option.some.inj hF
                  exact out_ret (.tup [(false, [.pv (.int .i64 (-1))]), (false, [.pv (.int .i64 1)])]) [] (by kernel_rfl) (by kernel_rfl) (by kernel_rfl) (by kernel_rfl) (by decide) rfl rfl
                · have hF := cond_f hF hb138
                  refine WA.skip ?_
                  refine WA.seq ?_
                  refine WA.reg [4, 5] [] [] (env' := [(4, one (.int .i64 v129)), (5, one (.int .i64 v116))]) (os' := []) (O := []) (by kernel_rfl) (sound _ _) trivial ?_
                  refine WA.ret ?_
                  obtain rfl := Option.some.inj hF
                  exact out_ret (.tup [(false, [.pv (.int .i64 v129)]), (false, [.pv (.int .i64 v116)])]) [] (by kernel_rfl) (by kernel_rfl) (by kernel_rfl) (by kernel_rfl) (by decide) rfl rfl
              · rcases Bool.eq_false_or_eq_true (decide (v129 < v117)) with hb135 | hb135
                · have hF := cond_t hF hb135
                  refine WA.reg [6, 7, 88] [] [(3, .bool true)] (env' := [(6, one (.int .i64 v129)), (7, one (.int .i64 v116)), (88, one (.bool true))]) (os' := []) (O := [(decide (v129 < v117)) = true]) (by kernel_rfl) (sound _ _) ⟨hb135, trivial⟩ ?_
                  exact ⟨true, by kernel_rfl, by kernel_rfl, hF⟩
                · have hF := cond_f hF hb135
                  obtain ⟨y136, hy136, hF⟩ := bind_some hF
                  refine WA.reg [6, 7, 88] [] [(3, .bool false), (5, .callR [] (one (.bool y136)))] (env' := [(6, one (.int .i64 v129)), (7, one (.int .i64 v116)), (88, one (.bool (!y136)))]) (os' := []) (O := [(decide (v129 < v117)) = false, Sim Tryz.prog GL0 67 [one (.int .i64 v129)] [] (one (.bool y136)) [], ([] : List Nat).Nodup]) (by kernel_rfl) (sound _ _) ⟨hb135, (F67_ok k _ _ hy136), (by decide), trivial⟩ ?_
                  exact ⟨(!y136), by kernel_rfl, by kernel_rfl, hF⟩
      · refine WA.block ?_
        refine WA.seq ?_
        refine WA.reg [0, 1, 6, 22] [] [] (env' := [(0, one (.str v0)), (1, one (.int .i64 v1)), (6, one (.int .i64 (w64 (y104.toNat : Int)))), (22, one (.bool (decide ((w64 (y104.toNat : Int)) < 128))))]) (os' := []) (O := []) (by kernel_rfl) (sound _ _) trivial ?_
        refine WA.cond (b := (decide ((w64 (y104.toNat : Int)) < 128))) rfl (fun hb105 => ?_) (fun hb105 => ?_)
        · have hF := cond_t hF hb105
          refine WA.seq ?_
          refine WA.reg [4, 5] [] [] (env' := [(4, one (.int .i64 (w64 (y104.toNat : Int)))), (5, one (.int .i64 1))]) (os' := []) (O := []) (by kernel_rfl) (sound _ _) trivial ?_
          refine WA.ret ?_
          obtain rfl := Option.some.inj hF
          exact out_ret (.tup [(false, [.pv (.int .i64 (w64 (y104.toNat : Int)))]), (false, [.pv (.int .i64 1)])]) [] (by kernel_rfl) (by kernel_rfl) (by kernel_rfl) (by kernel_rfl) (by decide) rfl rfl
        · have hF := cond_f hF hb105
          refine WA.join (fun s_ => ∃ (v107 : Bool), pickE s_.env [0, 1, 6, 26] = [(0, one (.str v0)), (1, one (.int .i64 v1)), (6, one (.int .i64 (w64 (y104.toNat : Int)))), (26, one (.bool v107))] ∧ pickE s_.os [] = [] ∧ F46_j1 k v0 v1 y104 v107 = some r) ?_ ?_
          · rintro s_ ⟨v107, he, ho, hF⟩
            refine WA.keep _ _ he ho ?_
            clear he ho
            refine WA.cond (b := v107) rfl (fun hb108 => ?_) (fun hb108 => ?_)
            · have hF := cond_t hF hb108
              refine WA.reg [0, 1, 6, 7, 8] [] [] (env' := [(0, one (.str v0)), (1, one (.int .i64 v1)), (6, one (.int .i64 (bitsI .and .i64 (w64 (y104.toNat : Int)) 31))), (7, one (.int .i64 2)), (8, one (.int .i64 128))]) (os' := []) (O := []) (by kernel_rfl) (sound _ _) trivial ?_
              exact ⟨(bitsI .and .i64 (w64 (y104.toNat : Int)) 31), 2, 128, by kernel_rfl, by kernel_rfl, hF⟩
            · have hF := cond_f hF hb108
              refine WA.join (fun s_ => ∃ (v110 : Bool), pickE s_.env [0, 1, 6, 35] = [(0, one (.str v0)), (1, one (.int .i64 v1)), (6, one (.int .i64 (w64 (y104.toNat : Int)))), (35, one (.bool v110))] ∧ pickE s_.os [] = [] ∧ F46_j2 k v0 v1 y104 v110 = some r) ?_ ?_
              · rintro s_ ⟨v110, he, ho, hF⟩
                refine WA.keep _ _ he ho ?_
                clear he ho
                refine WA.cond (b := v110) rfl (fun hb111 => ?_) (fun hb111 => ?_)
                · have hF := cond_t hF hb111
                  refine WA.reg [0, 1, 6, 7, 8] [] [] (env' := [(0, one (.str v0)), (1, one (.int .i64 v1)), (6, one (.int .i64 (bitsI .and .i64 (w64 (y104.toNat : Int)) 15))), (7, one (.int .i64 3)), (8, one (.int .i64 2048))]) (os' := []) (O := []) (by kernel_rfl) (sound _ _) trivial ?_
                  exact ⟨(bitsI .and .i64 (w64 (y104.toNat : Int)) 15), 3, 2048, by kernel_rfl, by kernel_rfl, hF⟩
                · have hF := cond_f hF hb111
                  refine WA.join (fun s_ => ∃ (v113 : Bool), pickE s_.env [0, 1, 6, 44] = [(0, one (.str v0)), (1, one (.int .i64 v1)), (6, one (.int .i64 (w64 (y104.toNat : Int)))), (44, one (.bool v113))] ∧ pickE s_.os [] = [] ∧ F46_j3 k v0 v1 y104 v113 = some r) ?_ ?_
                  · rintro s_ ⟨v113, he, ho, hF⟩
                    refine WA.keep _ _ he ho ?_
                    clear he ho
                    refine WA.cond (b := v113) rfl (fun hb114 => ?_) (fun hb114 => ?_)
                    · have hF := cond_t hF hb114
                      refine WA.reg [0, 1, 6, 7, 8] [] [] (env' := [(0, one (.str v0)), (1, one (.int .i64 v1)), (6, one (.int .i64 (bitsI .and .i64 (w64 (y104.toNat : Int)) 7))), (7, one (.int .i64 4)), (8, one (.int .i64 65536))]) (os' := []) (O := []) (by kernel_rfl) (sound _ _) trivial ?_
                      exact ⟨(bitsI .and .i64 (w64 (y104.toNat : Int)) 7), 4, 65536, by kernel_rfl, by kernel_rfl, hF⟩
                    · have hF := cond_f hF hb114
                      refine WA.seq ?_
                      refine WA.reg [4, 5] [] [] (env' := [(4, one (.int .i64 (-1))), (5, one (.int .i64 1))]) (os' := []) (O := []) (by kernel_rfl) (sound _ _) trivial ?_
                      refine WA.ret ?_
                      obtain rfl := Option.some.inj hF
                      exact out_ret (.tup [(false, [.pv (.int .i64 (-1))]), (false, [.pv (.int .i64 1)])]) [] (by kernel_rfl) (by kernel_rfl) (by kernel_rfl) (by kernel_rfl) (by decide) rfl rfl
                  · rcases Bool.eq_false_or_eq_true (decide ((w64 (y104.toNat : Int)) ≥ 240)) with hb112 | hb112
                    · have hF := cond_t hF hb112
                      refine WA.reg [0, 1, 6, 44] [] [(2, .bool true)] (env' := [(0, one (.str v0)), (1, one (.int .i64 v1)), (6, one (.int .i64 (w64 (y104.toNat : Int)))), (44, one (.bool (decide ((w64 (y104.toNat : Int)) < 248))))]) (os' := []) (O := [(decide ((w64 (y104.toNat : Int)) ≥ 240)) = true]) (by kernel_rfl) (sound _ _) ⟨hb112, trivial⟩ ?_
                      exact ⟨(decide ((w64 (y104.toNat : Int)) < 248)), by kernel_rfl, by kernel_rfl, hF⟩
                    · have hF := cond_f hF hb112
                      refine WA.reg [0, 1, 6, 44] [] [(2, .bool false)] (env' := [(0, one (.str v0)), (1, one (.int .i64 v1)), (6, one (.int .i64 (w64 (y104.toNat : Int)))), (44, one (.bool false))]) (os' := []) (O := [(decide ((w64 (y104.toNat : Int)) ≥ 240)) = false]) (by kernel_rfl) (sound _ _) ⟨hb112, trivial⟩ ?_
                      exact ⟨false, by kernel_rfl, by kernel_rfl, hF⟩
              · rcases Bool.eq_false_or_eq_true (decide ((w64 (y104.toNat : Int)) ≥ 224)) with hb109 | hb109
                · have hF := cond_t hF hb109
                  refine WA.reg [0, 1, 6, 35] [] [(2, .bool true)] (env' := [(0, one (.str v0)), (1, one (.int .i64 v1)), (6, one (.int .i64 (w64 (y104.toNat : Int)))), (35, one (.bool (decide ((w64 (y104.toNat : Int)) < 240))))]) (os' := []) (O := [(decide ((w64 (y104.toNat : Int)) ≥ 224)) = true]) (by kernel_rfl) (sound _ _) ⟨hb109, trivial⟩ ?_
                  exact ⟨(decide ((w64 (y104.toNat : Int)) < 240)), by kernel_rfl, by kernel_rfl, hF⟩
                · have hF := cond_f hF hb109
                  refine WA.reg [0, 1, 6, 35] [] [(2, .bool false)] (env' := [(0, one (.str v0)), (1, one (.int .i64 v1)), (6, one (.int .i64 (w64 (y104.toNat : Int)))), (35, one (.bool false))]) (os' := []) (O := [(decide ((w64 (y104.toNat : Int)) ≥ 224)) = false]) (by kernel_rfl) (sound _ _) ⟨hb109, trivial⟩ ?_
                  exact ⟨false, by kernel_rfl, by kernel_rfl, hF⟩
          · rcases Bool.eq_false_or_eq_true (decide ((w64 (y104.toNat : Int)) ≥ 192)) with hb106 | hb106
            · have hF := cond_t hF hb106
              refine WA.reg [0, 1, 6, 26] [] [(2, .bool true)] (env' := [(0, one (.str v0)), (1, one (.int .i64 v1)), (6, one (.int .i64 (w64 (y104.toNat : Int)))), (26, one (.bool (decide ((w64 (y104.toNat : Int)) < 224))))]) (os' := []) (O := [(decide ((w64 (y104.toNat : Int)) ≥ 192)) = true]) (by kernel_rfl) (sound _ _) ⟨hb106, trivial⟩ ?_
              exact ⟨(decide ((w64 (y104.toNat : Int)) < 224)), by kernel_rfl, by kernel_rfl, hF⟩
            · have hF := cond_f hF hb106
              refine WA.reg [0, 1, 6, 26] [] [(2, .bool false)] (env' := [(0, one (.str v0)), (1, one (.int .i64 v1)), (6, one (.int .i64 (w64 (y104.toNat : Int)))), (26, one (.bool false))]) (os' := []) (O := [(decide ((w64 (y104.toNat : Int)) ≥ 192)) = false]) (by kernel_rfl) (sound _ _) ⟨hb106, trivial⟩ ?_
              exact ⟨false, by kernel_rfl, by kernel_rfl, hF⟩
  · rcases Bool.eq_false_or_eq_true (decide (v1 < 0)) with hb101 | hb101
    · have hF := cond_t hF hb101
      refine WA.reg [0, 1, 17] [] [(2, .bool true)] (env' := [(0, one (.str v0)), (1, one (.int .i64 v1)), (17, one (.bool true))]) (os' := []) (O := [(decide (v1 < 0)) = true]) (by kernel_rfl) (sound _ _) ⟨hb101, trivial⟩ ?_
      exact ⟨true, by kernel_rfl, by kernel_rfl, hF⟩
    · have hF := cond_f hF hb101
      refine WA.reg [0, 1, 17] [] [(2, .bool false)] (env' := [(0, one (.str v0)), (1, one (.int .i64 v1)), (17, one (.bool (decide (v1 ≥ (v0.length : Int)))))]) (os' := []) (O := [(decide (v1 < 0)) = false]) (by kernel_rfl) (sound _ _) ⟨hb101, trivial⟩ ?_
      exact ⟨(decide (v1 ≥ (v0.length : Int))), by kernel_rfl, by kernel_rfl, hF⟩
/-! entrepot entrepotref1.Count -/
def F24_b0 (k : Nat) (self0 : Int → Int → Option Int) (v0 : List UInt8) (v107 : Int) (v108 : Int) : Option Int :=
  (cond (decide (v108 < (v0.length : Int))) ((F46 k v0 v108).bind fun y110 => ((self0 (w64 (v107 + 1)) (w64 (v108 + y110.2))))) (((some v107))))
def F24_l0 (k : Nat) (v0 : List UInt8) : Nat → Int → Int → Option Int
  | 0, _, _ => none
  | m_ + 1, v107, v108 => F24_b0 k (F24_l0 k v0 m_) v0 v107 v108
def F24 (k : Nat) (v0 : List UInt8) : Option Int :=
  (((F24_l0 k v0 k 0 0)))
theorem F24_ok (k : Nat) (v0 : List UInt8) (r : Int) (hF : F24 k v0 = some r) : Sim Tryz.prog GL0 24 [one (.str v0)] [] (one (.int .i64 r)) [] := by
  refine sim_of [] Tryz.func24 rfl (by kernel_rfl) (by kernel_rfl) ?_
  show WA _ _ 23 _ _ _
  refine WA.seq ?_
  refine WA.reg [0] [] [] (env' := [(0, one (.str v0))]) (os' := []) (O := []) (by kernel_rfl) (sound _ _) trivial ?_
  refine WA.seq ?_
  refine WA.reg [0, 3] [] [] (env' := [(0, one (.str v0)), (3, one (.int .i64 0))]) (os' := []) (O := []) (by kernel_rfl) (sound _ _) trivial ?_
  refine WA.seq ?_
  refine WA.seq ?_
  refine WA.reg [0, 3, 4] [] [] (env' := [(0, one (.str v0)), (3, one (.int .i64 0)), (4, one (.int .i64 0))]) (os' := []) (O := []) (by kernel_rfl) (sound _ _) trivial ?_
  refine WA.block ?_
  refine WA.loop (fun m s_ => ∃ (v107 : Int) (v108 : Int), pickE s_.env [0, 3, 4] = [(0, one (.str v0)), (3, one (.int .i64 v107)), (4, one (.int .i64 v108))] ∧ pickE s_.os [] = [] ∧ F24_l0 k v0 m v107 v108 = some r) k ⟨0, 0, by kernel_rfl, by kernel_rfl, hF⟩ ?_
  clear hF
  rintro m0 s_ ⟨v107, v108, he, ho, hF⟩
  refine WA.keep _ _ he ho ?_
  clear he ho
  cases m0 with
  | zero => cases hF
  | succ m0 =>
    obtain ⟨self0, hself0⟩ : ∃ g, g = F24_l0 k v0 m0 := ⟨_, rfl⟩
    have hF : F24_b0 k self0 v0 v107 v108 = some r := by rw [hself0]; exact hF
    refine WA.seq ?_
    refine WA.seq ?_
    refine WA.reg [0, 3, 4, 10] [] [] (env' := [(0, one (.str v0)), (3, one (.int .i64 v107)), (4, one (.int .i64 v108)), (10, one (.bool (decide (v108 < (v0.length : Int)))))]) (os' := []) (O := []) (by kernel_rfl) (sound _ _) trivial ?_
    refine WA.cond (b := (decide (v108 < (v0.length : Int)))) rfl (fun hb109 => ?_) (fun hb109 => ?_)
    · have hF := cond_t hF hb109
      refine WA.skip ?_
      refine WA.seq ?_
      refine WA.block ?_
      refine WA.seq ?_
      obtain ⟨y110, hy110, hF⟩ := bind_some hF
      refine WA.reg [0, 3, 4, 6] [] [(2, .callR [] (.tup [(false, [.pv (.int .i64 y110.1)]), (false, [.pv (.int .i64 y110.2)])]))] (env' := [(0, one (.str v0)), (3, one (.int .i64 v107)), (4, one (.int .i64 v108)), (6, one (.int .i64 y110.2))]) (os' := []) (O := [Sim Tryz.prog GL0 46 [one (.str v0), one (.int .i64 v108)] [] (.tup [(false, [.pv (.int .i64 y110.1)]), (false, [.pv (.int .i64 y110.2)])]) [], ([] : List Nat).Nodup]) (by kernel_rfl) (sound _ _) ⟨(F46_ok k _ _ _ hy110), (by decide), trivial⟩ ?_
      refine WA.reg [0, 3, 4] [] [] (env' := [(0, one (.str v0)), (3, one (.int .i64 v107)), (4, one (.int .i64 (w64 (v108 + y110.2))))]) (os' := []) (O := []) (by kernel_rfl) (sound _ _) trivial ?_
      refine WA.reg [0, 3, 4] [] [] (env' := [(0, one (.str v0)), (3, one (.int .i64 (w64 (v107 + 1)))), (4, one (.int .i64 (w64 (v108 + y110.2))))]) (os' := []) (O := []) (by kernel_rfl) (sound _ _) trivial ?_
      exact ⟨m0, Nat.lt_succ_self _, (w64 (v107 + 1)), (w64 (v108 + y110.2)), by kernel_rfl, by kernel_rfl, by rw [hself0] at hF; exact hF⟩
    · have hF := cond_f hF hb109
      refine WA.exit ?_
      refine WA.seq ?_
      refine WA.reg [2] [] [] (env' := [(2, one (.int .i64 v107))]) (os' := []) (O := []) (by kernel_rfl) (sound _ _) trivial ?_
      refine WA.ret ?_
      obtain rfl := Option.some.inj hF
      exact out_ret (one (.int .i64 v107)) [] (by kernel_rfl) (by kernel_rfl) (by kernel_rfl) (by kernel_rfl) (by decide) rfl rfl
/-! entrepot entrepotref1.Valid -/
def F25_b0 (k : Nat) (self0 : Int → Option Bool) (v0 : List UInt8) (v108 : Int) : Option Bool :=
  (cond (decide (v108 < (v0.length : Int))) ((F46 k v0 v108).bind fun y110 => ((cond (decide (y110.1 < 0)) ((some false)) ((self0 (w64 (v108 + y110.2))))))) (((some true))))
def F25_l0 (k : Nat) (v0 : List UInt8) : Nat → Int → Option Bool
  | 0, _ => none
  | m_ + 1, v108 => F25_b0 k (F25_l0 k v0 m_) v0 v108
def F25 (k : Nat) (v0 : List UInt8) : Option Bool :=
  ((F25_l0 k v0 k 0))
theorem F25_ok (k : Nat) (v0 : List UInt8) (r : Bool) (hF : F25 k v0 = some r) : Sim Tryz.prog GL0 25 [one (.str v0)] [] (one (.bool r)) [] := by
  refine sim_of [] Tryz.func25 rfl (by kernel_rfl) (by kernel_rfl) ?_
  show WA _ _ 21 _ _ _
  refine WA.seq ?_
  refine WA.reg [0] [] [] (env' := [(0, one (.str v0))]) (os' := []) (O := []) (by kernel_rfl) (sound _ _) trivial ?_
  refine WA.seq ?_
  refine WA.seq ?_
  refine WA.reg [0, 3] [] [] (env' := [(0, one (.str v0)), (3, one (.int .i64 0))]) (os' := []) (O := []) (by kernel_rfl) (sound _ _) trivial ?_
  refine WA.block ?_
  refine WA.loop (fun m s_ => ∃ (v108 : Int), pickE s_.env [0, 3] = [(0, one (.str v0)), (3, one (.int .i64 v108))] ∧ pickE s_.os [] = [] ∧ F25_l0 k v0 m v108 = some r) k ⟨0, by kernel_rfl, by kernel_rfl, hF⟩ ?_
  clear hF
  rintro m0 s_ ⟨v108, he, ho, hF⟩
  refine WA.keep _ _ he ho ?_
  clear he ho
  cases m0 with
  | zero => cases hF
  | succ m0 =>
    obtain ⟨self0, hself0⟩ : ∃ g, g = F25_l0 k v0 m0 := ⟨_, rfl⟩
    have hF : F25_b0 k self0 v0 v108 = some r := by rw [hself0]; exact hF
    refine WA.seq ?_
    refine WA.seq ?_
    refine WA.reg [0, 3, 9] [] [] (env' := [(0, one (.str v0)), (3, one (.int .i64 v108)), (9, one (.bool (decide (v108 < (v0.length : Int)))))]) (os' := []) (O := []) (by kernel_rfl) (sound _ _) trivial ?_
    refine WA.cond (b := (decide (v108 < (v0.length : Int)))) rfl (fun hb109 => ?_) (fun hb109 => ?_)
    · have hF := cond_t hF hb109
      refine WA.skip ?_
      refine WA.block ?_
      refine WA.seq ?_
      obtain ⟨y110, hy110, hF⟩ := bind_some hF
      refine WA.reg [0, 3, 4, 5] [] [(2, .callR [] (.tup [(false, [.pv (.int .i64 y110.1)]), (false, [.pv (.int .i64 y110.2)])]))] (env' := [(0, one (.str v0)), (3, one (.int .i64 v108)), (4, one (.int .i64 y110.1)), (5, one (.int .i64 y110.2))]) (os' := []) (O := [Sim Tryz.prog GL0 46 [one (.str v0), one (.int .i64 v108)] [] (.tup [(false, [.pv (.int .i64 y110.1)]), (false, [.pv (.int .i64 y110.2)])]) [], ([] : List Nat).Nodup]) (by kernel_rfl) (sound _ _) ⟨(F46_ok k _ _ _ hy110), (by decide), trivial⟩ ?_
      refine WA.seq ?_
      refine WA.seq ?_
      refine WA.reg [0, 3, 5, 17] [] [] (env' := [(0, one (.str v0)), (3, one (.int .i64 v108)), (5, one (.int .i64 y110.2)), (17, one (.bool (decide (y110.1 < 0))))]) (os' := []) (O := []) (by kernel_rfl) (sound _ _) trivial ?_
      refine WA.cond (b := (decide (y110.1 < 0))) rfl (fun hb111 => ?_) (fun hb111 => ?_)
      · have hF := cond_t hF hb111
        refine WA.seq ?_
        refine WA.reg [2] [] [] (env' := [(2, one (.bool false))]) (os' := []) (O := []) (by kernel_rfl) (sound _ _) trivial ?_
        refine WA.ret ?_
        obtain rfl := Option.some.inj hF
        exact out_ret (one (.bool false)) [] (by kernel_rfl) (by kernel_rfl) (by kernel_rfl) (by kernel_rfl) (by decide) rfl rfl
      · have hF := cond_f hF hb111
        refine WA.skip ?_
        refine WA.reg [0, 3] [] [] (env' := [(0, one (.str v0)), (3, one (.int .i64 (w64 (v108 + y110.2))))]) (os' := []) (O := []) (by kernel_rfl) (sound _ _) trivial ?_
        exact ⟨m0, Nat.lt_succ_self _, (w64 (v108 + y110.2)), by kernel_rfl, by kernel_rfl, by rw [hself0] at hF; exact hF⟩
    · have hF := cond_f hF hb109
      refine WA.exit ?_
      refine WA.seq ?_
      refine WA.reg [2] [] [] (env' := [(2, one (.bool true))]) (os' := []) (O := []) (by kernel_rfl) (sound _ _) trivial ?_
      refine WA.ret ?_
      obtain rfl := Option.some.inj hF
      exact out_ret (one (.bool true)) [] (by kernel_rfl) (by kernel_rfl) (by kernel_rfl) (by kernel_rfl) (by decide) rfl rfl
/-! entrepot rex.depth -/
def F50_b0 (R50 : api_Re → Option Int) (self0 : Int → Int → Option Int) (v0 : api_Re) (v109 : Int) (v110 : Int) : Option Int :=
  (cond (decide (v110 < (v0.f_L.length : Int))) ((idxL v0.f_L v110).bind fun y112 => (R50 y112).bind fun y113 => (self0 (mx v109 y113) (w64 (v110 + 1)))) (((some (w64 (v109 + 1))))))
def F50_l0 (R50 : api_Re → Option Int) (v0 : api_Re) : Nat → Int → Int → Option Int
  | 0, _, _ => none
  | m_ + 1, v109, v110 => F50_b0 R50 (F50_l0 R50 v0 m_) v0 v109 v110
def F50_b (R50 : api_Re → Option Int) (k : Nat) (v0 : api_Re) : Option Int :=
  (((F50_l0 R50 v0 k 0 0)))
theorem F50_b_ok (R50 : api_Re → Option Int) (IH50 : ∀ (v0 : api_Re) (r : Int), R50 v0 = some r → Sim Tryz.prog GL0 50 [.val true (pvL (e_api_Re v0))] [] (one (.int .i64 r)) []) (k : Nat) (v0 : api_Re) (r : Int) (hF : F50_b R50 k v0 = some r) : Sim Tryz.prog GL0 50 [.val true (pvL (e_api_Re v0))] [] (one (.int .i64 r)) [] := by
  refine sim_of [] Tryz.func50 rfl (by kernel_rfl) (by kernel_rfl) ?_
  show WA _ _ 20 _ _ _
  refine WA.seq ?_
  refine WA.reg [1] [101] [(0, .obj 101)] (env' := [(1, .val false [.ptr 101 1 0 0])]) (os' := [(101, .box (pvL (e_api_Re v0)))]) (O := []) (by kernel_rfl) (sound _ _) trivial ?_
  refine WA.seq ?_
  refine WA.reg [1, 3] [101] [] (env' := [(1, .val false [.ptr 101 1 0 0]), (3, one (.int .i64 0))]) (os' := [(101, .box (pvL (e_api_Re v0)))]) (O := []) (by kernel_rfl) (sound _ _) trivial ?_
  refine WA.seq ?_
  refine WA.seq ?_
  refine WA.regM (α := Int) (raw := ((es_api_Re v0.f_L).length : Int)) (can := (v0.f_L.length : Int)) (fun m_ => ([(3, one (.int .i64 0)), (7, one (.sl (es_api_Re v0.f_L))), (8, one (.int .i64 m_)), (9, one (.int .i64 0))], [], [])) ((by first | (simp only [zlm, zla, zlc, zln, zls, zlr, zlt, zld, lens_api_Re]; done) | (simp only [zlm, zla, zlc, zln, zls, zlr, zlt, zld, lens_api_Re]; omega) | omega)) [3, 7, 8, 9] [] [] (env' := [(3, one (.int .i64 0)), (7, one (.sl (es_api_Re v0.f_L))), (8, one (.int .i64 (v0.f_L.length : Int))), (9, one (.int .i64 0))]) (os' := []) (O := []) (by kernel_rfl) (by kernel_rfl) (sound _ _) trivial ?_
  refine WA.block ?_
  refine WA.loop (fun m s_ => ∃ (v109 : Int) (v110 : Int), pickE s_.env [3, 7, 8, 9] = [(3, one (.int .i64 v109)), (7, one (.sl (es_api_Re v0.f_L))), (8, one (.int .i64 (v0.f_L.length : Int))), (9, one (.int .i64 v110))] ∧ pickE s_.os [] = [] ∧ F50_l0 R50 v0 m v109 v110 = some r) k ⟨0, 0, by kernel_rfl, by kernel_rfl, hF⟩ ?_
  clear hF
  rintro m0 s_ ⟨v109, v110, he, ho, hF⟩
  refine WA.keep _ _ he ho ?_
  clear he ho
  cases m0 with
  | zero => cases hF
  | succ m0 =>
    obtain ⟨self0, hself0⟩ : ∃ g, g = F50_l0 R50 v0 m0 := ⟨_, rfl⟩
    have hF : F50_b0 R50 self0 v0 v109 v110 = some r := by rw [hself0]; exact hF
    refine WA.seq ?_
    refine WA.reg [3, 7, 8, 9, 10] [] [] (env' := [(3, one (.int .i64 v109)), (7, one (.sl (es_api_Re v0.f_L))), (8, one (.int .i64 (v0.f_L.length : Int))), (9, one (.int .i64 v110)), (10, one (.bool (decide (v110 < (v0.f_L.length : Int)))))]) (os' := []) (O := []) (by kernel_rfl) (sound _ _) trivial ?_
    refine WA.seq ?_
    refine WA.cond (b := (decide (v110 < (v0.f_L.length : Int)))) rfl (fun hb111 => ?_) (fun hb111 => ?_)
    · have hF := cond_t hF hb111
      refine WA.skip ?_
      refine WA.seq ?_
      refine WA.block ?_
      refine WA.seq ?_
      obtain ⟨y112, hy112, hF⟩ := bind_some hF
      refine WA.reg [3, 5, 7, 8, 9] [105] [(0, .cells (e_api_Re y112)), (2, .obj 105)] (env' := [(3, one (.int .i64 v109)), (5, .val false [.ptr 105 1 0 0]), (7, one (.sl (es_api_Re v0.f_L))), (8, one (.int .i64 (v0.f_L.length : Int))), (9, one (.int .i64 v110))]) (os' := [(105, .box (pvL (e_api_Re y112)))]) (O := [idxL (es_api_Re v0.f_L) v110 = some (e_api_Re y112)]) (by kernel_rfl) (sound _ _) ⟨(idx_api_Re hy112), trivial⟩ ?_
      obtain ⟨y113, hy113, hF⟩ := bind_some hF
      refine WA.reg [3, 7, 8, 9] [] [(2, .callR [] (one (.int .i64 y113)))] (env' := [(3, one (.int .i64 (mx v109 y113))), (7, one (.sl (es_api_Re v0.f_L))), (8, one (.int .i64 (v0.f_L.length : Int))), (9, one (.int .i64 v110))]) (os' := []) (O := [Sim Tryz.prog GL0 50 [.val true (pvL (e_api_Re y112))] [] (one (.int .i64 y113)) [], ([] : List Nat).Nodup]) (by kernel_rfl) (sound _ _) ⟨(IH50 _ _ hy113), (by decide), trivial⟩ ?_
      refine WA.reg [3, 7, 8, 9] [] [] (env' := [(3, one (.int .i64 (mx v109 y113))), (7, one (.sl (es_api_Re v0.f_L))), (8, one (.int .i64 (v0.f_L.length : Int))), (9, one (.int .i64 (w64 (v110 + 1))))]) (os' := []) (O := []) (by kernel_rfl) (sound _ _) trivial ?_
      exact ⟨m0, Nat.lt_succ_self _, (mx v109 y113), (w64 (v110 + 1)), by kernel_rfl, by kernel_rfl, by rw [hself0] at hF; exact hF⟩
    · have hF := cond_f hF hb111
      refine WA.exit ?_
      refine WA.seq ?_
      refine WA.reg [2] [] [] (env' := [(2, one (.int .i64 (w64 (v109 + 1))))]) (os' := []) (O := []) (by kernel_rfl) (sound _ _) trivial ?_
      refine WA.ret ?_
      obtain rfl := Option.some.inj hF
      exact out_ret (one (.int .i64 (w64 (v109 + 1)))) [] (by kernel_rfl) (by kernel_rfl) (by kernel_rfl) (by kernel_rfl) (by decide) rfl rfl
def F50 : Nat → api_Re → Option Int
  | 0, _ => none
  | k + 1, v0 => F50_b (F50 k) k v0
theorem F50_ok : ∀ (k : Nat), ∀ (v0 : api_Re) (r : Int), F50 k v0 = some r → Sim Tryz.prog GL0 50 [.val true (pvL (e_api_Re v0))] [] (one (.int .i64 r)) []
  | 0 => fun _ _ hF => by cases hF
  | k + 1 => fun v0 r hF => F50_b_ok (F50 k) (F50_ok k) k v0 r hF
/-! entrepot entrepotlaw10.few -/
def F41_j4 (R41 : api_Re → Int → Option Int) (self3 : Int → Int → Option Int) (v0 : api_Re) (v1 : Int) (v117 : Int) (v118 : Int) (v120 : Bool) : Option Int :=
  cond v120 ((idxL v0.f_L v118).bind fun y122 => (R41 y122 (w64 (v1 - 1))).bind fun y123 => (self3 (w64 (v117 + y123)) (w64 (v118 + 1)))) (((some v117)))
def F41_b3 (R41 : api_Re → Int → Option Int) (self3 : Int → Int → Option Int) (v0 : api_Re) (v1 : Int) (v117 : Int) (v118 : Int) : Option Int :=
  cond (decide (v118 < (v0.f_L.length : Int))) ((F41_j4 R41 self3 v0 v1 v117 v118 (decide (v117 < 1000)))) ((F41_j4 R41 self3 v0 v1 v117 v118 false))
def F41_l3 (R41 : api_Re → Int → Option Int) (v0 : api_Re) (v1 : Int) : Nat → Int → Int → Option Int
  | 0, _, _ => none
  | m_ + 1, v117, v118 => F41_b3 R41 (F41_l3 R41 v0 v1 m_) v0 v1 v117 v118
def F41_j0 (R41 : api_Re → Int → Option Int) (k : Nat) (v0 : api_Re) (v1 : Int) (v103 : Bool) : Option Int :=
  cond v103 ((some 1000)) ((((F41_l3 R41 v0 v1 k (w64 (1 + (v0.f_Set.length : Int))) 0))))
def F41_b (R41 : api_Re → Int → Option Int) (k : Nat) (v0 : api_Re) (v1 : Int) : Option Int :=
  (cond (v1 == 0) ((F41_j0 R41 k v0 v1 true)) (cond (decide ((v0.f_L.length : Int) > 300)) ((F41_j0 R41 k v0 v1 true)) ((F41_j0 R41 k v0 v1 (decide ((v0.f_Set.length : Int) > 300))))))
theorem F41_b_ok (R41 : api_Re → Int → Option Int) (IH41 : ∀ (v0 : api_Re) (v1 : Int) (r : Int), R41 v0 v1 = some r → Sim Tryz.prog GL0 41 [.val true (pvL (e_api_Re v0)), one (.int .i64 v1)] [] (one (.int .i64 r)) []) (k : Nat) (v0 : api_Re) (v1 : Int) (r : Int) (hF : F41_b R41 k v0 v1 = some r) : Sim Tryz.prog GL0 41 [.val true (pvL (e_api_Re v0)), one (.int .i64 v1)] [] (one (.int .i64 r)) [] := by
  refine sim_of [] Tryz.func41 rfl (by kernel_rfl) (by kernel_rfl) ?_
  show WA _ _ 47 _ _ _
  refine WA.seq ?_
  refine WA.reg [1, 2] [102] [(0, .obj 102)] (env' := [(1, one (.int .i64 v1)), (2, .val false [.ptr 102 1 0 0])]) (os' := [(102, .box (pvL (e_api_Re v0)))]) (O := []) (by kernel_rfl) (sound _ _) trivial ?_
  refine WA.seq ?_
  refine WA.join (fun s_ => ∃ (v103 : Bool), pickE s_.env [1, 2, 20] = [(1, one (.int .i64 v1)), (2, .val false [.ptr 102 1 0 0]), (20, one (.bool v103))] ∧ pickE s_.os [102] = [(102, .box (pvL (e_api_Re v0)))] ∧ F41_j0 R41 k v0 v1 v103 = some r) ?_ ?_
  · rintro s_ ⟨v103, he, ho, hF⟩
    refine WA.keep _ _ he ho ?_
    clear he ho
    refine WA.cond (b := v103) rfl (fun hb104 => ?_) (fun hb104 => ?_)
    · have hF := cond_t hF hb104
      refine WA.seq ?_
      refine WA.reg [4] [] [] (env' := [(4, one (.int .i64 1000))]) (os' := []) (O := []) (by kernel_rfl) (sound _ _) trivial ?_
      refine WA.ret ?_
      obtain rfl := Option.some.inj hF
      exact out_ret (one (.int .i64 1000)) [] (by kernel_rfl) (by kernel_rfl) (by kernel_rfl) (by kernel_rfl) (by decide) rfl rfl
    · have hF := cond_f hF hb104
      refine WA.skip ?_
      refine WA.seq ?_
      refine WA.regM (α := Int) (raw := ((v0.f_Set.map e_api_Range).length : Int)) (can := (v0.f_Set.length : Int)) (fun m_ => ([(1, one (.int .i64 v1)), (2, .val false [.ptr 102 1 0 0]), (5, one (.int .i64 (w64 (1 + m_))))], [(102, .box (pvL (e_api_Re v0)))], [])) ((by first | (simp only [zlm, zla, zlc, zln, zls, zlr, zlt, zld, lens_api_Re]; done) | (simp only [zlm, zla, zlc, zln, zls, zlr, zlt, zld, lens_api_Re]; omega) | omega)) [1, 2, 5] [102] [] (env' := [(1, one (.int .i64 v1)), (2, .val false [.ptr 102 1 0 0]), (5, one (.int .i64 (w64 (1 + (v0.f_Set.length : Int)))))]) (os' := [(102, .box (pvL (e_api_Re v0)))]) (O := []) (by kernel_rfl) (by kernel_rfl) (sound _ _) trivial ?_
      refine WA.seq ?_
      refine WA.seq ?_
      refine WA.reg [1, 2, 5, 6] [102] [] (env' := [(1, one (.int .i64 v1)), (2, .val false [.ptr 102 1 0 0]), (5, one (.int .i64 (w64 (1 + (v0.f_Set.length : Int))))), (6, one (.int .i64 0))]) (os' := [(102, .box (pvL (e_api_Re v0)))]) (O := []) (by kernel_rfl) (sound _ _) trivial ?_
      refine WA.block ?_
      refine WA.loop (fun m s_ => ∃ (v117 : Int) (v118 : Int), pickE s_.env [1, 2, 5, 6] = [(1, one (.int .i64 v1)), (2, .val false [.ptr 102 1 0 0]), (5, one (.int .i64 v117)), (6, one (.int .i64 v118))] ∧ pickE s_.os [102] = [(102, .box (pvL (e_api_Re v0)))] ∧ F41_l3 R41 v0 v1 m v117 v118 = some r) k ⟨(w64 (1 + (v0.f_Set.length : Int))), 0, by kernel_rfl, by kernel_rfl, hF⟩ ?_
      clear hF
      rintro m3 s_ ⟨v117, v118, he, ho, hF⟩
      refine WA.keep _ _ he ho ?_
      clear he ho
      cases m3 with
      | zero => cases hF
      | succ m3 =>
        obtain ⟨self3, hself3⟩ : ∃ g, g = F41_l3 R41 v0 v1 m3 := ⟨_, rfl⟩
        have hF : F41_b3 R41 self3 v0 v1 v117 v118 = some r := by rw [hself3]; exact hF
        refine WA.seq ?_
        refine WA.join (fun s_ => ∃ (v120 : Bool), pickE s_.env [1, 2, 5, 6, 33] = [(1, one (.int .i64 v1)), (2, .val false [.ptr 102 1 0 0]), (5, one (.int .i64 v117)), (6, one (.int .i64 v118)), (33, one (.bool v120))] ∧ pickE s_.os [102] = [(102, .box (pvL (e_api_Re v0)))] ∧ F41_j4 R41 self3 v0 v1 v117 v118 v120 = some r) ?_ ?_
        · rintro s_ ⟨v120, he, ho, hF⟩
          refine WA.keep _ _ he ho ?_
          clear he ho
          refine WA.cond (b := v120) rfl (fun hb121 => ?_) (fun hb121 => ?_)
          · have hF := cond_t hF hb121
            refine WA.skip ?_
            refine WA.seq ?_
            refine WA.block ?_
            obtain ⟨y122, hy122, hF⟩ := bind_some hF
            obtain ⟨y123, hy123, hF⟩ := bind_some hF
            refine WA.reg [1, 2, 5, 6] [102] [(4, .cells (e_api_Re y122)), (8, .callR [] (one (.int .i64 y123)))] (env' := [(1, one (.int .i64 v1)), (2, .val false [.ptr 102 1 0 0]), (5, one (.int .i64 (w64 (v117 + y123)))), (6, one (.int .i64 v118))]) (os' := [(102, .box (pvL (e_api_Re v0)))]) (O := [idxL (es_api_Re v0.f_L) v118 = some (e_api_Re y122), Sim Tryz.prog GL0 41 [.val true (pvL (e_api_Re y122)), one (.int .i64 (w64 (v1 - 1)))] [] (one (.int .i64 y123)) [], ([] : List Nat).Nodup]) (by kernel_rfl) (sound _ _) ⟨(idx_api_Re hy122), (IH41 _ _ _ hy123), (by decide), trivial⟩ ?_
            refine WA.reg [1, 2, 5, 6] [102] [] (env' := [(1, one (.int .i64 v1)), (2, .val false [.ptr 102 1 0 0]), (5, one (.int .i64 (w64 (v117 + y123)))), (6, one (.int .i64 (w64 (v118 + 1))))]) (os' := [(102, .box (pvL (e_api_Re v0)))]) (O := []) (by kernel_rfl) (sound _ _) trivial ?_
            exact ⟨m3, Nat.lt_succ_self _, (w64 (v117 + y123)), (w64 (v118 + 1)), by kernel_rfl, by kernel_rfl, by rw [hself3] at hF; exact hF⟩
          · have hF := cond_f hF hb121
            refine WA.exit ?_
            refine WA.seq ?_
            refine WA.reg [4] [] [] (env' := [(4, one (.int .i64 v117))]) (os' := []) (O := []) (by kernel_rfl) (sound _ _) trivial ?_
            refine WA.ret ?_
            obtain rfl := Option.some.inj hF
            exact out_ret (one (.int .i64 v117)) [] (by kernel_rfl) (by kernel_rfl) (by kernel_rfl) (by kernel_rfl) (by decide) rfl rfl
        · rcases Bool.eq_false_or_eq_true (decide (v118 < (v0.f_L.length : Int))) with hb119 | hb119
          · have hF := cond_t hF hb119
            refine WA.regM (α := Int) (raw := ((es_api_Re v0.f_L).length : Int)) (can := (v0.f_L.length : Int)) (fun m_ => ([(1, one (.int .i64 v1)), (2, .val false [.ptr 102 1 0 0]), (5, one (.int .i64 v117)), (6, one (.int .i64 v118)), (33, one (.bool (decide (v117 < 1000))))], [(102, .box (pvL (e_api_Re v0)))], [(decide (v118 < m_)) = true])) ((by first | (simp only [zlm, zla, zlc, zln, zls, zlr, zlt, zld, lens_api_Re]; done) | (simp only [zlm, zla, zlc, zln, zls, zlr, zlt, zld, lens_api_Re]; omega) | omega)) [1, 2, 5, 6, 33] [102] [(5, .bool true)] (env' := [(1, one (.int .i64 v1)), (2, .val false [.ptr 102 1 0 0]), (5, one (.int .i64 v117)), (6, one (.int .i64 v118)), (33, one (.bool (decide (v117 < 1000))))]) (os' := [(102, .box (pvL (e_api_Re v0)))]) (O := [(decide (v118 < (v0.f_L.length : Int))) = true]) (by kernel_rfl) (by kernel_rfl) (sound _ _) ⟨hb119, trivial⟩ ?_
            exact ⟨(decide (v117 < 1000)), by kernel_rfl, by kernel_rfl, hF⟩
          · have hF := cond_f hF hb119
            refine WA.regM (α := Int) (raw := ((es_api_Re v0.f_L).length : Int)) (can := (v0.f_L.length : Int)) (fun m_ => ([(1, one (.int .i64 v1)), (2, .val false [.ptr 102 1 0 0]), (5, one (.int .i64 v117)), (6, one (.int .i64 v118)), (33, one (.bool false))], [(102, .box (pvL (e_api_Re v0)))], [(decide (v118 < m_)) = false])) ((by first | (simp only [zlm, zla, zlc, zln, zls, zlr, zlt, zld, lens_api_Re]; done) | (simp only [zlm, zla, zlc, zln, zls, zlr, zlt, zld, lens_api_Re]; omega) | omega)) [1, 2, 5, 6, 33] [102] [(5, .bool false)] (env' := [(1, one (.int .i64 v1)), (2, .val false [.ptr 102 1 0 0]), (5, one (.int .i64 v117)), (6, one (.int .i64 v118)), (33, one (.bool false))]) (os' := [(102, .box (pvL (e_api_Re v0)))]) (O := [(decide (v118 < (v0.f_L.length : Int))) = false]) (by kernel_rfl) (by kernel_rfl) (sound _ _) ⟨hb119, trivial⟩ ?_
            exact ⟨false, by kernel_rfl, by kernel_rfl, hF⟩
  · rcases Bool.eq_false_or_eq_true (v1 == 0) with hb101 | hb101
    · have hF := cond_t hF hb101
      refine WA.reg [1, 2, 20] [102] [(2, .bool true)] (env' := [(1, one (.int .i64 v1)), (2, .val false [.ptr 102 1 0 0]), (20, one (.bool true))]) (os' := [(102, .box (pvL (e_api_Re v0)))]) (O := [(v1 == 0) = true]) (by kernel_rfl) (sound _ _) ⟨hb101, trivial⟩ ?_
      exact ⟨true, by kernel_rfl, by kernel_rfl, hF⟩
    · have hF := cond_f hF hb101
      rcases Bool.eq_false_or_eq_true (decide ((v0.f_L.length : Int) > 300)) with hb102 | hb102
      · have hF := cond_t hF hb102
        refine WA.regM (α := Int) (raw := ((es_api_Re v0.f_L).length : Int)) (can := (v0.f_L.length : Int)) (fun m_ => ([(1, one (.int .i64 v1)), (2, .val false [.ptr 102 1 0 0]), (20, one (.bool true))], [(102, .box (pvL (e_api_Re v0)))], [(v1 == 0) = false, (decide (m_ > 300)) = true])) ((by first | (simp only [zlm, zla, zlc, zln, zls, zlr, zlt, zld, lens_api_Re]; done) | (simp only [zlm, zla, zlc, zln, zls, zlr, zlt, zld, lens_api_Re]; omega) | omega)) [1, 2, 20] [102] [(2, .bool false), (8, .bool true)] (env' := [(1, one (.int .i64 v1)), (2, .val false [.ptr 102 1 0 0]), (20, one (.bool true))]) (os' := [(102, .box (pvL (e_api_Re v0)))]) (O := [(v1 == 0) = false, (decide ((v0.f_L.length : Int) > 300)) = true]) (by kernel_rfl) (by kernel_rfl) (sound _ _) ⟨hb101, hb102, trivial⟩ ?_
        exact ⟨true, by kernel_rfl, by kernel_rfl, hF⟩
      · have hF := cond_f hF hb102
        refine WA.regM (α := Int × Int) (raw := (((v0.f_Set.map e_api_Range).length : Int), ((es_api_Re v0.f_L).length : Int))) (can := ((v0.f_Set.length : Int), (v0.f_L.length : Int))) (fun m_ => ([(1, one (.int .i64 v1)), (2, .val false [.ptr 102 1 0 0]), (20, one (.bool (decide (m_.1 > 300))))], [(102, .box (pvL (e_api_Re v0)))], [(v1 == 0) = false, (decide (m_.2 > 300)) = false])) (pair_eq (by first | (simp only [zlm, zla, zlc, zln, zls, zlr, zlt, zld, lens_api_Re]; done) | (simp only [zlm, zla, zlc, zln, zls, zlr, zlt, zld, lens_api_Re]; omega) | omega) (by first | (simp only [zlm, zla, zlc, zln, zls, zlr, zlt, zld, lens_api_Re]; done) | (simp only [zlm, zla, zlc, zln, zls, zlr, zlt, zld, lens_api_Re]; omega) | omega)) [1, 2, 20] [102] [(2, .bool false), (8, .bool false)] (env' := [(1, one (.int .i64 v1)), (2, .val false [.ptr 102 1 0 0]), (20, one (.bool (decide ((v0.f_Set.length : Int) > 300))))]) (os' := [(102, .box (pvL (e_api_Re v0)))]) (O := [(v1 == 0) = false, (decide ((v0.f_L.length : Int) > 300)) = false]) (by kernel_rfl) (by kernel_rfl) (sound _ _) ⟨hb101, hb102, trivial⟩ ?_
        exact ⟨(decide ((v0.f_Set.length : Int) > 300)), by kernel_rfl, by kernel_rfl, hF⟩
def F41 : Nat → api_Re → Int → Option Int
  | 0, _, _ => none
  | k + 1, v0, v1 => F41_b (F41 k) k v0 v1
theorem F41_ok : ∀ (k : Nat), ∀ (v0 : api_Re) (v1 : Int) (r : Int), F41 k v0 v1 = some r → Sim Tryz.prog GL0 41 [.val true (pvL (e_api_Re v0)), one (.int .i64 v1)] [] (one (.int .i64 r)) []
  | 0 => fun _ _ _ hF => by cases hF
  | k + 1 => fun v0 v1 r hF => F41_b_ok (F41 k) (F41_ok k) k v0 v1 r hF
/-! entrepot entrepotref10.deep -/
def F42_b0 (R42 : api_Re → Int → Option Int) (self0 : Int → Int → Option Int) (v0 : api_Re) (v1 : Int) (v110 : Int) (v111 : Int) : Option Int :=
  (cond (decide (v111 < (v0.f_L.length : Int))) ((idxL v0.f_L v111).bind fun y113 => (R42 y113 (w64 (v1 + 1))).bind fun y114 => (self0 (mx v110 y114) (w64 (v111 + 1)))) (((some v110))))
def F42_l0 (R42 : api_Re → Int → Option Int) (v0 : api_Re) (v1 : Int) : Nat → Int → Int → Option Int
  | 0, _, _ => none
  | m_ + 1, v110, v111 => F42_b0 R42 (F42_l0 R42 v0 v1 m_) v0 v1 v110 v111
def F42_b (R42 : api_Re → Int → Option Int) (k : Nat) (v0 : api_Re) (v1 : Int) : Option Int :=
  ((cond (decide (v1 > 16)) ((some v1)) ((((F42_l0 R42 v0 v1 k v1 0))))))
theorem F42_b_ok (R42 : api_Re → Int → Option Int) (IH42 : ∀ (v0 : api_Re) (v1 : Int) (r : Int), R42 v0 v1 = some r → Sim Tryz.prog GL0 42 [.val true (pvL (e_api_Re v0)), one (.int .i64 v1)] [] (one (.int .i64 r)) []) (k : Nat) (v0 : api_Re) (v1 : Int) (r : Int) (hF : F42_b R42 k v0 v1 = some r) : Sim Tryz.prog GL0 42 [.val true (pvL (e_api_Re v0)), one (.int .i64 v1)] [] (one (.int .i64 r)) [] := by
  refine sim_of [] Tryz.func42 rfl (by kernel_rfl) (by kernel_rfl) ?_
  show WA _ _ 29 _ _ _
  refine WA.seq ?_
  refine WA.reg [1, 2] [102] [(0, .obj 102)] (env' := [(1, one (.int .i64 v1)), (2, .val false [.ptr 102 1 0 0])]) (os' := [(102, .box (pvL (e_api_Re v0)))]) (O := []) (by kernel_rfl) (sound _ _) trivial ?_
  refine WA.seq ?_
  refine WA.seq ?_
  refine WA.reg [1, 2, 8] [102] [] (env' := [(1, one (.int .i64 v1)), (2, .val false [.ptr 102 1 0 0]), (8, one (.bool (decide (v1 > 16))))]) (os' := [(102, .box (pvL (e_api_Re v0)))]) (O := []) (by kernel_rfl) (sound _ _) trivial ?_
  refine WA.cond (b := (decide (v1 > 16))) rfl (fun hb101 => ?_) (fun hb101 => ?_)
  · have hF := cond_t hF hb101
    refine WA.seq ?_
    refine WA.reg [4] [] [] (env' := [(4, one (.int .i64 v1))]) (os' := []) (O := []) (by kernel_rfl) (sound _ _) trivial ?_
    refine WA.ret ?_
    obtain rfl := Option.some.inj hF
    exact out_ret (one (.int .i64 v1)) [] (by kernel_rfl) (by kernel_rfl) (by kernel_rfl) (by kernel_rfl) (by decide) rfl rfl
  · have hF := cond_f hF hb101
    refine WA.skip ?_
    refine WA.seq ?_
    refine WA.reg [1, 2, 5] [102] [] (env' := [(1, one (.int .i64 v1)), (2, .val false [.ptr 102 1 0 0]), (5, one (.int .i64 v1))]) (os' := [(102, .box (pvL (e_api_Re v0)))]) (O := []) (by kernel_rfl) (sound _ _) trivial ?_
    refine WA.seq ?_
    refine WA.seq ?_
    refine WA.reg [1, 2, 5, 6] [102] [] (env' := [(1, one (.int .i64 v1)), (2, .val false [.ptr 102 1 0 0]), (5, one (.int .i64 v1)), (6, one (.int .i64 0))]) (os' := [(102, .box (pvL (e_api_Re v0)))]) (O := []) (by kernel_rfl) (sound _ _) trivial ?_
    refine WA.block ?_
    refine WA.loop (fun m s_ => ∃ (v110 : Int) (v111 : Int), pickE s_.env [1, 2, 5, 6] = [(1, one (.int .i64 v1)), (2, .val false [.ptr 102 1 0 0]), (5, one (.int .i64 v110)), (6, one (.int .i64 v111))] ∧ pickE s_.os [102] = [(102, .box (pvL (e_api_Re v0)))] ∧ F42_l0 R42 v0 v1 m v110 v111 = some r) k ⟨v1, 0, by kernel_rfl, by kernel_rfl, hF⟩ ?_
    clear hF
    rintro m0 s_ ⟨v110, v111, he, ho, hF⟩
    refine WA.keep _ _ he ho ?_
    clear he ho
    cases m0 with
    | zero => cases hF
    | succ m0 =>
      obtain ⟨self0, hself0⟩ : ∃ g, g = F42_l0 R42 v0 v1 m0 := ⟨_, rfl⟩
      have hF : F42_b0 R42 self0 v0 v1 v110 v111 = some r := by rw [hself0]; exact hF
      refine WA.seq ?_
      refine WA.seq ?_
      refine WA.regM (α := Int) (raw := ((es_api_Re v0.f_L).length : Int)) (can := (v0.f_L.length : Int)) (fun m_ => ([(1, one (.int .i64 v1)), (2, .val false [.ptr 102 1 0 0]), (5, one (.int .i64 v110)), (6, one (.int .i64 v111)), (15, one (.bool (decide (v111 < m_))))], [(102, .box (pvL (e_api_Re v0)))], [])) ((by first | (simp only [zlm, zla, zlc, zln, zls, zlr, zlt, zld, lens_api_Re]; done) | (simp only [zlm, zla, zlc, zln, zls, zlr, zlt, zld, lens_api_Re]; omega) | omega)) [1, 2, 5, 6, 15] [102] [] (env' := [(1, one (.int .i64 v1)), (2, .val false [.ptr 102 1 0 0]), (5, one (.int .i64 v110)), (6, one (.int .i64 v111)), (15, one (.bool (decide (v111 < (v0.f_L.length : Int)))))]) (os' := [(102, .box (pvL (e_api_Re v0)))]) (O := []) (by kernel_rfl) (by kernel_rfl) (sound _ _) trivial ?_
      refine WA.cond (b := (decide (v111 < (v0.f_L.length : Int)))) rfl (fun hb112 => ?_) (fun hb112 => ?_)
      · have hF := cond_t hF hb112
        refine WA.skip ?_
        refine WA.seq ?_
        refine WA.block ?_
        obtain ⟨y113, hy113, hF⟩ := bind_some hF
        obtain ⟨y114, hy114, hF⟩ := bind_some hF
        refine WA.reg [1, 2, 5, 6] [102] [(4, .cells (e_api_Re y113)), (8, .callR [] (one (.int .i64 y114)))] (env' := [(1, one (.int .i64 v1)), (2, .val false [.ptr 102 1 0 0]), (5, one (.int .i64 (mx v110 y114))), (6, one (.int .i64 v111))]) (os' := [(102, .box (pvL (e_api_Re v0)))]) (O := [idxL (es_api_Re v0.f_L) v111 = some (e_api_Re y113), Sim Tryz.prog GL0 42 [.val true (pvL (e_api_Re y113)), one (.int .i64 (w64 (v1 + 1)))] [] (one (.int .i64 y114)) [], ([] : List Nat).Nodup]) (by kernel_rfl) (sound _ _) ⟨(idx_api_Re hy113), (IH42 _ _ _ hy114), (by decide), trivial⟩ ?_
        refine WA.reg [1, 2, 5, 6] [102] [] (env' := [(1, one (.int .i64 v1)), (2, .val false [.ptr 102 1 0 0]), (5, one (.int .i64 (mx v110 y114))), (6, one (.int .i64 (w64 (v111 + 1))))]) (os' := [(102, .box (pvL (e_api_Re v0)))]) (O := []) (by kernel_rfl) (sound _ _) trivial ?_
        exact ⟨m0, Nat.lt_succ_self _, (mx v110 y114), (w64 (v111 + 1)), by kernel_rfl, by kernel_rfl, by rw [hself0] at hF; exact hF⟩
      · have hF := cond_f hF hb112
        refine WA.exit ?_
        refine WA.seq ?_
        refine WA.reg [4] [] [] (env' := [(4, one (.int .i64 v110))]) (os' := []) (O := []) (by kernel_rfl) (sound _ _) trivial ?_
        refine WA.ret ?_
        obtain rfl := Option.some.inj hF
        exact out_ret (one (.int .i64 v110)) [] (by kernel_rfl) (by kernel_rfl) (by kernel_rfl) (by kernel_rfl) (by decide) rfl rfl
def F42 : Nat → api_Re → Int → Option Int
  | 0, _, _ => none
  | k + 1, v0, v1 => F42_b (F42 k) k v0 v1
theorem F42_ok : ∀ (k : Nat), ∀ (v0 : api_Re) (v1 : Int) (r : Int), F42 k v0 v1 = some r → Sim Tryz.prog GL0 42 [.val true (pvL (e_api_Re v0)), one (.int .i64 v1)] [] (one (.int .i64 r)) []
  | 0 => fun _ _ _ hF => by cases hF
  | k + 1 => fun v0 v1 r hF => F42_b_ok (F42 k) (F42_ok k) k v0 v1 r hF
end Go.Proofs.YthilboheomikjaaGreatDoor
end

section
namespace Go.Proofs.YthilboheomikjaaGreatDoor
open Go.AL
set_option linter.unusedVariables false
set_option linter.unusedSimpArgs false
set_option maxRecDepth 100000

/-! entrepot utf.Next -/
def F55_j1 (y105 : Int × Int) (v107 : Bool) : Option (Int × Int) :=
  cond v107 ((some ((-1), 1))) (((some ((w64 y105.1), y105.2))))
def F55_j0 (k : Nat) (v0 : List UInt8) (v1 : Int) (v102 : Bool) : Option (Int × Int) :=
  cond v102 ((some (0, 0))) ((if (0 : Int) ≤ v1 ∧ (v1 : Int) ≤ (v0.length : Int) ∧ (v0.length : Int) ≤ (v0.length : Int) then (F80 k ((v0.take (Int.toNat (v0.length : Int))).drop (Int.toNat v1))).bind fun y105 => (cond (y105.1 == 65533) ((F55_j1 y105 (y105.2 == 1))) ((F55_j1 y105 false))) else none))
def F55 (k : Nat) (v0 : List UInt8) (v1 : Int) : Option (Int × Int) :=
  (cond (decide (v1 < 0)) ((F55_j0 k v0 v1 true)) ((F55_j0 k v0 v1 (decide (v1 ≥ (v0.length : Int))))))
theorem F55_ok (k : Nat) (v0 : List UInt8) (v1 : Int) (r : Int × Int) (hF : F55 k v0 v1 = some r) : Sim Tryz.prog GL0 55 [one (.str v0), one (.int .i64 v1)] [] (.tup [(false, [.pv (.int .i64 r.1)]), (false, [.pv (.int .i64 r.2)])]) [] := by
  refine sim_of [] Tryz.func55 rfl (by kernel_rfl) (by kernel_rfl) ?_
  show WA _ _ 32 _ _ _
  refine WA.seq ?_
  refine WA.reg [0, 1] [] [] (env' := [(0, one (.str v0)), (1, one (.int .i64 v1))]) (os' := []) (O := []) (by kernel_rfl) (sound _ _) trivial ?_
  refine WA.seq ?_
  refine WA.join (fun s_ => ∃ (v102 : Bool), pickE s_.env [0, 1, 15] = [(0, one (.str v0)), (1, one (.int .i64 v1)), (15, one (.bool v102))] ∧ pickE s_.os [] = [] ∧ F55_j0 k v0 v1 v102 = some r) ?_ ?_
  · rintro s_ ⟨v102, he, ho, hF⟩
    refine WA.keep _ _ he ho ?_
    clear he ho
    refine WA.cond (b := v102) rfl (fun hb103 => ?_) (fun hb103 => ?_)
    · have hF := cond_t hF hb103
      refine WA.seq ?_
      refine WA.reg [4, 5] [] [] (env' := [(4, one (.int .i64 0)), (5, one (.int .i64 0))]) (os' := []) (O := []) (by kernel_rfl) (sound _ _) trivial ?_
      refine WA.ret ?_
      obtain rfl := Option.some.inj hF
      exact out_ret (.tup [(false, [.pv (.int .i64 0)]), (false, [.pv (.int .i64 0)])]) [] (by kernel_rfl) (by kernel_rfl) (by kernel_rfl) (by kernel_rfl) (by decide) rfl rfl
    · have hF := cond_f hF hb103
      refine WA.skip ?_
      refine WA.seq ?_
      obtain ⟨hc104, hF⟩ := if_some hF
      obtain ⟨y105, hy105, hF⟩ := bind_some hF
      refine WA.reg [6, 7] [] [(3, .callR [] (.tup [(false, [.pv (.int .i32 y105.1)]), (false, [.pv (.int .i64 y105.2)])]))] (env' := [(6, one (.int .i32 y105.1)), (7, one (.int .i64 y105.2))]) (os' := []) (O := [(0 : Int) ≤ v1, (v1 : Int) ≤ (v0.length : Int), (v0.length : Int) ≤ (v0.length : Int), Sim Tryz.prog GL0 80 [one (.str ((v0.take (Int.toNat (v0.length : Int))).drop (Int.toNat v1)))] [] (.tup [(false, [.pv (.int .i32 y105.1)]), (false, [.pv (.int .i64 y105.2)])]) [], ([] : List Nat).Nodup]) (by kernel_rfl) (sound _ _) ⟨hc104.1, hc104.2.1, hc104.2.2, (F80_ok k _ _ hy105), (by decide), trivial⟩ ?_
      refine WA.seq ?_
      refine WA.join (fun s_ => ∃ (v107 : Bool), pickE s_.env [6, 7, 28] = [(6, one (.int .i32 y105.1)), (7, one (.int .i64 y105.2)), (28, one (.bool v107))] ∧ pickE s_.os [] = [] ∧ F55_j1 y105 v107 = some r) ?_ ?_
      · rintro s_ ⟨v107, he, ho, hF⟩
        refine WA.keep _ _ he ho ?_
        clear he ho
        refine WA.cond (b := v107) rfl (fun hb108 => ?_) (fun hb108 => ?_)
        · have hF := cond_t hF hb108
          refine WA.seq ?_
          refine WA.reg [4, 5] [] [] (env' := [(4, one (.int .i64 (-1))), (5, one (.int .i64 1))]) (os' := []) (O := []) (by kernel_rfl) (sound _ _) trivial ?_
          refine WA.ret ?_
          obtain rfl := Option.some.inj hF
          exact out_ret (.tup [(false, [.pv (.int .i64 (-1))]), (false, [.pv (.int .i64 1)])]) [] (by kernel_rfl) (by kernel_rfl) (by kernel_rfl) (by kernel_rfl) (by decide) rfl rfl
        · have hF := cond_f hF hb108
          refine WA.skip ?_
          refine WA.seq ?_
          refine WA.reg [4, 5] [] [] (env' := [(4, one (.int .i64 (w64 y105.1))), (5, one (.int .i64 y105.2))]) (os' := []) (O := []) (by kernel_rfl) (sound _ _) trivial ?_
          refine WA.ret ?_
          obtain rfl := Option.some.inj hF
          exact out_ret (.tup [(false, [.pv (.int .i64 (w64 y105.1))]), (false, [.pv (.int .i64 y105.2)])]) [] (by kernel_rfl) (by kernel_rfl) (by kernel_rfl) (by kernel_rfl) (by decide) rfl rfl
      · rcases Bool.eq_false_or_eq_true (y105.1 == 65533) with hb106 | hb106
        · have hF := cond_t hF hb106
          refine WA.reg [6, 7, 28] [] [(2, .bool true)] (env' := [(6, one (.int .i32 y105.1)), (7, one (.int .i64 y105.2)), (28, one (.bool (y105.2 == 1)))]) (os' := []) (O := [(y105.1 == 65533) = true]) (by kernel_rfl) (sound _ _) ⟨hb106, trivial⟩ ?_
          exact ⟨(y105.2 == 1), by kernel_rfl, by kernel_rfl, hF⟩
        · have hF := cond_f hF hb106
          refine WA.reg [6, 7, 28] [] [(2, .bool false)] (env' := [(6, one (.int .i32 y105.1)), (7, one (.int .i64 y105.2)), (28, one (.bool false))]) (os' := []) (O := [(y105.1 == 65533) = false]) (by kernel_rfl) (sound _ _) ⟨hb106, trivial⟩ ?_
          exact ⟨false, by kernel_rfl, by kernel_rfl, hF⟩
  · rcases Bool.eq_false_or_eq_true (decide (v1 < 0)) with hb101 | hb101
    · have hF := cond_t hF hb101
      refine WA.reg [0, 1, 15] [] [(2, .bool true)] (env' := [(0, one (.str v0)), (1, one (.int .i64 v1)), (15, one (.bool true))]) (os' := []) (O := [(decide (v1 < 0)) = true]) (by kernel_rfl) (sound _ _) ⟨hb101, trivial⟩ ?_
      exact ⟨true, by kernel_rfl, by kernel_rfl, hF⟩
    · have hF := cond_f hF hb101
      refine WA.reg [0, 1, 15] [] [(2, .bool false)] (env' := [(0, one (.str v0)), (1, one (.int .i64 v1)), (15, one (.bool (decide (v1 ≥ (v0.length : Int)))))]) (os' := []) (O := [(decide (v1 < 0)) = false]) (by kernel_rfl) (sound _ _) ⟨hb101, trivial⟩ ?_
      exact ⟨(decide (v1 ≥ (v0.length : Int))), by kernel_rfl, by kernel_rfl, hF⟩
/-! entrepot utf.Valid -/
def F49 (k : Nat) (v0 : List UInt8) : Option Bool :=
  (F72 k v0).bind fun y101 => (some y101)
theorem F49_ok (k : Nat) (v0 : List UInt8) (r : Bool) (hF : F49 k v0 = some r) : Sim Tryz.prog GL0 49 [one (.str v0)] [] (one (.bool r)) [] := by
  refine sim_of [] Tryz.func49 rfl (by kernel_rfl) (by kernel_rfl) ?_
  show WA _ _ 5 _ _ _
  refine WA.seq ?_
  refine WA.reg [0] [] [] (env' := [(0, one (.str v0))]) (os' := []) (O := []) (by kernel_rfl) (sound _ _) trivial ?_
  refine WA.seq ?_
  obtain ⟨y101, hy101, hF⟩ := bind_some hF
  refine WA.reg [2] [] [(1, .callR [] (one (.bool y101)))] (env' := [(2, one (.bool y101))]) (os' := []) (O := [Sim Tryz.prog GL0 72 [one (.str v0)] [] (one (.bool y101)) [], ([] : List Nat).Nodup]) (by kernel_rfl) (sound _ _) ⟨(F72_ok k _ _ hy101), (by decide), trivial⟩ ?_
  refine WA.ret ?_
  obtain rfl := Option.some.inj hF
  exact out_ret (one (.bool y101)) [] (by kernel_rfl) (by kernel_rfl) (by kernel_rfl) (by kernel_rfl) (by decide) rfl rfl
/-! entrepot rex.all -/
def F59 (k : Nat) : Option (List api_Range) :=
  ((some ([(⟨0, 55295⟩ : api_Range), (⟨57344, 1114111⟩ : api_Range)] : List api_Range)))
theorem F59_ok (k : Nat) (r : List api_Range) (hF : F59 k = some r) : Sim Tryz.prog GL0 59 [] [] (one (.sl (r.map e_api_Range))) [] := by
  refine sim_of [] Tryz.func59 rfl (by kernel_rfl) (by kernel_rfl) ?_
  show WA _ _ 4 _ _ _
  refine WA.seq ?_
  refine WA.reg [] [] [] (env' := []) (os' := []) (O := []) (by kernel_rfl) (sound _ _) trivial ?_
  refine WA.seq ?_
  refine WA.reg [0] [] [] (env' := [(0, one (.sl (([(⟨0, 55295⟩ : api_Range), (⟨57344, 1114111⟩ : api_Range)] : List api_Range).map e_api_Range)))]) (os' := []) (O := []) (by kernel_rfl) (sound _ _) trivial ?_
  refine WA.ret ?_
  obtain rfl := Option.some.inj hF
  exact out_ret (one (.sl (([(⟨0, 55295⟩ : api_Range), (⟨57344, 1114111⟩ : api_Range)] : List api_Range).map e_api_Range))) [] (by kernel_rfl) (by kernel_rfl) (by kernel_rfl) (by kernel_rfl) (by decide) rfl rfl
/-! entrepot rex.set -/
def F58 (k : Nat) (v0 : List api_Range) : Option api_Re :=
  ((some (⟨1, v0, ([] : List api_Re), 0, 0⟩ : api_Re)))
theorem F58_ok (k : Nat) (v0 : List api_Range) (r : api_Re) (hF : F58 k v0 = some r) : Sim Tryz.prog GL0 58 [one (.sl (v0.map e_api_Range))] [] (.val true (pvL (e_api_Re r))) [] := by
  refine sim_of [] Tryz.func58 rfl (by kernel_rfl) (by kernel_rfl) ?_
  show WA _ _ 5 _ _ _
  refine WA.seq ?_
  refine WA.reg [0, 2] [102] [(0, .obj 102)] (env' := [(0, one (.sl (v0.map e_api_Range))), (2, .val false [.ptr 102 1 0 0])]) (os' := [(102, .box (pvL (e_api_Re (⟨0, ([] : List api_Range), ([] : List api_Re), 0, 0⟩ : api_Re))))]) (O := []) (by kernel_rfl) (sound _ _) trivial ?_
  refine WA.seq ?_
  refine WA.reg [2] [102] [] (env' := [(2, .val false [.ptr 102 1 0 0])]) (os' := [(102, .box (pvL (e_api_Re (⟨1, v0, ([] : List api_Re), 0, 0⟩ : api_Re))))]) (O := []) (by kernel_rfl) (sound _ _) trivial ?_
  refine WA.ret ?_
  obtain rfl := Option.some.inj hF
  exact out_ret (.val true (pvL (e_api_Re (⟨1, v0, ([] : List api_Re), 0, 0⟩ : api_Re)))) [] (by kernel_rfl) (by kernel_rfl) (by kernel_rfl) (by kernel_rfl) (by decide) rfl rfl
/-! entrepot rex.Size -/
def F32_j6 (self4 : Int → Int → Option Int) (v122 : Int) (v131 : Int) : Option Int :=
  self4 v131 (w64 (v122 + 1))
def F32_j5 (R32 : api_Re → Option Int) (self4 : Int → Int → Option Int) (v121 : Int) (v122 : Int) (y124 : api_Re) (v128 : Bool) : Option Int :=
  cond v128 ((R32 y124).bind fun y130 => (F32_j6 self4 v122 (mn (w64 (v121 + y130)) 1000))) ((F32_j6 self4 v122 v121))
def F32_j7 (v121 : Int) (v135 : Int) : Option Int :=
  (some (mn (w64 ((w64 (v121 * (mn (mx v135 1) 1000))) + 1)) 1000))
def F32_b4 (R32 : api_Re → Option Int) (self4 : Int → Int → Option Int) (v0 : api_Re) (v121 : Int) (v122 : Int) : Option Int :=
  (cond (decide (v122 < (v0.f_L.length : Int))) ((idxL v0.f_L v122).bind fun y124 => (cond (v0.f_Kind == 2) ((F32_j5 R32 self4 v121 v122 y124 true)) (cond (v0.f_Kind == 3) ((F32_j5 R32 self4 v121 v122 y124 true)) (cond (v0.f_Kind == 4) ((F32_j5 R32 self4 v121 v122 y124 (v122 == 0))) ((F32_j5 R32 self4 v121 v122 y124 false)))))) ((((cond (v0.f_Kind == 1) ((some 1)) ((cond (v0.f_Kind == 4) (((cond (decide (v0.f_Max < 0)) ((F32_j7 v121 (w64 (v0.f_Min + 1)))) ((F32_j7 v121 v0.f_Max))))) (((some (mn (w64 (v121 + 1)) 1000)))))))))))
def F32_l4 (R32 : api_Re → Option Int) (v0 : api_Re) : Nat → Int → Int → Option Int
  | 0, _, _ => none
  | m_ + 1, v121, v122 => F32_b4 R32 (F32_l4 R32 v0 m_) v0 v121 v122
def F32_b (R32 : api_Re → Option Int) (k : Nat) (v0 : api_Re) : Option Int :=
  (((F32_l4 R32 v0 k 0 0)))
theorem F32_b_ok (R32 : api_Re → Option Int) (IH32 : ∀ (v0 : api_Re) (r : Int), R32 v0 = some r → Sim Tryz.prog GL0 32 [.val true (pvL (e_api_Re v0))] [] (one (.int .i64 r)) []) (k : Nat) (v0 : api_Re) (r : Int) (hF : F32_b R32 k v0 = some r) : Sim Tryz.prog GL0 32 [.val true (pvL (e_api_Re v0))] [] (one (.int .i64 r)) [] := by
  refine sim_of [] Tryz.func32 rfl (by kernel_rfl) (by kernel_rfl) ?_
  show WA _ _ 61 _ _ _
  refine WA.seq ?_
  refine WA.reg [1] [101] [(0, .obj 101)] (env' := [(1, .val false [.ptr 101 1 0 0])]) (os' := [(101, .box (pvL (e_api_Re v0)))]) (O := []) (by kernel_rfl) (sound _ _) trivial ?_
  refine WA.seq ?_
  refine WA.reg [1, 3] [101] [] (env' := [(1, .val false [.ptr 101 1 0 0]), (3, one (.int .i64 0))]) (os' := [(101, .box (pvL (e_api_Re v0)))]) (O := []) (by kernel_rfl) (sound _ _) trivial ?_
  refine WA.seq ?_
  refine WA.seq ?_
  refine WA.regM (α := Int) (raw := ((es_api_Re v0.f_L).length : Int)) (can := (v0.f_L.length : Int)) (fun m_ => ([(1, .val false [.ptr 101 1 0 0]), (3, one (.int .i64 0)), (8, one (.sl (es_api_Re v0.f_L))), (9, one (.int .i64 m_)), (10, one (.int .i64 0))], [(101, .box (pvL (e_api_Re v0)))], [])) ((by first | (simp only [zlm, zla, zlc, zln, zls, zlr, zlt, zld, lens_api_Re]; done) | (simp only [zlm, zla, zlc, zln, zls, zlr, zlt, zld, lens_api_Re]; omega) | omega)) [1, 3, 8, 9, 10] [101] [] (env' := [(1, .val false [.ptr 101 1 0 0]), (3, one (.int .i64 0)), (8, one (.sl (es_api_Re v0.f_L))), (9, one (.int .i64 (v0.f_L.length : Int))), (10, one (.int .i64 0))]) (os' := [(101, .box (pvL (e_api_Re v0)))]) (O := []) (by kernel_rfl) (by kernel_rfl) (sound _ _) trivial ?_
  refine WA.block ?_
  refine WA.loop (fun m s_ => ∃ (v121 : Int) (v122 : Int), pickE s_.env [1, 3, 8, 9, 10] = [(1, .val false [.ptr 101 1 0 0]), (3, one (.int .i64 v121)), (8, one (.sl (es_api_Re v0.f_L))), (9, one (.int .i64 (v0.f_L.length : Int))), (10, one (.int .i64 v122))] ∧ pickE s_.os [101] = [(101, .box (pvL (e_api_Re v0)))] ∧ F32_l4 R32 v0 m v121 v122 = some r) k ⟨0, 0, by kernel_rfl, by kernel_rfl, hF⟩ ?_
  clear hF
  rintro m4 s_ ⟨v121, v122, he, ho, hF⟩
  refine WA.keep _ _ he ho ?_
  clear he ho
  cases m4 with
  | zero => cases hF
  | succ m4 =>
    obtain ⟨self4, hself4⟩ : ∃ g, g = F32_l4 R32 v0 m4 := ⟨_, rfl⟩
    have hF : F32_b4 R32 self4 v0 v121 v122 = some r := by rw [hself4]; exact hF
    refine WA.seq ?_
    refine WA.reg [1, 3, 8, 9, 10, 11] [101] [] (env' := [(1, .val false [.ptr 101 1 0 0]), (3, one (.int .i64 v121)), (8, one (.sl (es_api_Re v0.f_L))), (9, one (.int .i64 (v0.f_L.length : Int))), (10, one (.int .i64 v122)), (11, one (.bool (decide (v122 < (v0.f_L.length : Int)))))]) (os' := [(101, .box (pvL (e_api_Re v0)))]) (O := []) (by kernel_rfl) (sound _ _) trivial ?_
    refine WA.seq ?_
    refine WA.cond (b := (decide (v122 < (v0.f_L.length : Int)))) rfl (fun hb123 => ?_) (fun hb123 => ?_)
    · have hF := cond_t hF hb123
      refine WA.skip ?_
      refine WA.join (fun s_ => ∃ (v131 : Int), pickE s_.env [1, 3, 8, 9, 10] = [(1, .val false [.ptr 101 1 0 0]), (3, one (.int .i64 v131)), (8, one (.sl (es_api_Re v0.f_L))), (9, one (.int .i64 (v0.f_L.length : Int))), (10, one (.int .i64 v122))] ∧ pickE s_.os [101] = [(101, .box (pvL (e_api_Re v0)))] ∧ F32_j6 self4 v122 v131 = some r) ?_ ?_
      · rintro s_ ⟨v131, he, ho, hF⟩
        refine WA.keep _ _ he ho ?_
        clear he ho
        refine WA.reg [1, 3, 8, 9, 10] [101] [] (env' := [(1, .val false [.ptr 101 1 0 0]), (3, one (.int .i64 v131)), (8, one (.sl (es_api_Re v0.f_L))), (9, one (.int .i64 (v0.f_L.length : Int))), (10, one (.int .i64 (w64 (v122 + 1))))]) (os' := [(101, .box (pvL (e_api_Re v0)))]) (O := []) (by kernel_rfl) (sound _ _) trivial ?_
        exact ⟨m4, Nat.lt_succ_self _, v131, (w64 (v122 + 1)), by kernel_rfl, by kernel_rfl, by rw [hself4] at hF; exact hF⟩
      · refine WA.block ?_
        refine WA.seq ?_
        obtain ⟨y124, hy124, hF⟩ := bind_some hF
        refine WA.reg [1, 3, 4, 5, 8, 9, 10] [101, 105] [(1, .cells (e_api_Re y124)), (3, .obj 105)] (env' := [(1, .val false [.ptr 101 1 0 0]), (3, one (.int .i64 v121)), (4, one (.int .i64 v122)), (5, .val false [.ptr 105 1 0 0]), (8, one (.sl (es_api_Re v0.f_L))), (9, one (.int .i64 (v0.f_L.length : Int))), (10, one (.int .i64 v122))]) (os' := [(101, .box (pvL (e_api_Re v0))), (105, .box (pvL (e_api_Re y124)))]) (O := [idxL (es_api_Re v0.f_L) v122 = some (e_api_Re y124)]) (by kernel_rfl) (sound _ _) ⟨(idx_api_Re hy124), trivial⟩ ?_
        refine WA.join (fun s_ => ∃ (v128 : Bool), pickE s_.env [1, 3, 5, 8, 9, 10, 31] = [(1, .val false [.ptr 101 1 0 0]), (3, one (.int .i64 v121)), (5, .val false [.ptr 105 1 0 0]), (8, one (.sl (es_api_Re v0.f_L))), (9, one (.int .i64 (v0.f_L.length : Int))), (10, one (.int .i64 v122)), (31, one (.bool v128))] ∧ pickE s_.os [101, 105] = [(101, .box (pvL (e_api_Re v0))), (105, .box (pvL (e_api_Re y124)))] ∧ F32_j5 R32 self4 v121 v122 y124 v128 = some r) ?_ ?_
        · rintro s_ ⟨v128, he, ho, hF⟩
          refine WA.keep _ _ he ho ?_
          clear he ho
          refine WA.cond (b := v128) rfl (fun hb129 => ?_) (fun hb129 => ?_)
          · have hF := cond_t hF hb129
            obtain ⟨y130, hy130, hF⟩ := bind_some hF
            refine WA.reg [1, 3, 8, 9, 10] [101] [(2, .callR [] (one (.int .i64 y130)))] (env' := [(1, .val false [.ptr 101 1 0 0]), (3, one (.int .i64 (mn (w64 (v121 + y130)) 1000))), (8, one (.sl (es_api_Re v0.f_L))), (9, one (.int .i64 (v0.f_L.length : Int))), (10, one (.int .i64 v122))]) (os' := [(101, .box (pvL (e_api_Re v0)))]) (O := [Sim Tryz.prog GL0 32 [.val true (pvL (e_api_Re y124))] [] (one (.int .i64 y130)) [], ([] : List Nat).Nodup]) (by kernel_rfl) (sound _ _) ⟨(IH32 _ _ hy130), (by decide), trivial⟩ ?_
            exact ⟨(mn (w64 (v121 + y130)) 1000), by kernel_rfl, by kernel_rfl, hF⟩
          · have hF := cond_f hF hb129
            refine WA.skip ?_
            exact ⟨v121, by kernel_rfl, by kernel_rfl, hF⟩
        · rcases Bool.eq_false_or_eq_true (v0.f_Kind == 2) with hb125 | hb125
          · have hF := cond_t hF hb125
            refine WA.reg [1, 3, 5, 8, 9, 10, 31] [101, 105] [(3, .bool true)] (env' := [(1, .val false [.ptr 101 1 0 0]), (3, one (.int .i64 v121)), (5, .val false [.ptr 105 1 0 0]), (8, one (.sl (es_api_Re v0.f_L))), (9, one (.int .i64 (v0.f_L.length : Int))), (10, one (.int .i64 v122)), (31, one (.bool true))]) (os' := [(101, .box (pvL (e_api_Re v0))), (105, .box (pvL (e_api_Re y124)))]) (O := [(v0.f_Kind == 2) = true]) (by kernel_rfl) (sound _ _) ⟨hb125, trivial⟩ ?_
            exact ⟨true, by kernel_rfl, by kernel_rfl, hF⟩
          · have hF := cond_f hF hb125
            rcases Bool.eq_false_or_eq_true (v0.f_Kind == 3) with hb126 | hb126
            · have hF := cond_t hF hb126
              refine WA.reg [1, 3, 5, 8, 9, 10, 31] [101, 105] [(3, .bool false), (8, .bool true)] (env' := [(1, .val false [.ptr 101 1 0 0]), (3, one (.int .i64 v121)), (5, .val false [.ptr 105 1 0 0]), (8, one (.sl (es_api_Re v0.f_L))), (9, one (.int .i64 (v0.f_L.length : Int))), (10, one (.int .i64 v122)), (31, one (.bool true))]) (os' := [(101, .box (pvL (e_api_Re v0))), (105, .box (pvL (e_api_Re y124)))]) (O := [(v0.f_Kind == 2) = false, (v0.f_Kind == 3) = true]) (by kernel_rfl) (sound _ _) ⟨hb125, hb126, trivial⟩ ?_
              exact ⟨true, by kernel_rfl, by kernel_rfl, hF⟩
            · have hF := cond_f hF hb126
              rcases Bool.eq_false_or_eq_true (v0.f_Kind == 4) with hb127 | hb127
              · have hF := cond_t hF hb127
                refine WA.reg [1, 3, 5, 8, 9, 10, 31] [101, 105] [(3, .bool false), (8, .bool false), (12, .bool true)] (env' := [(1, .val false [.ptr 101 1 0 0]), (3, one (.int .i64 v121)), (5, .val false [.ptr 105 1 0 0]), (8, one (.sl (es_api_Re v0.f_L))), (9, one (.int .i64 (v0.f_L.length : Int))), (10, one (.int .i64 v122)), (31, one (.bool (v122 == 0)))]) (os' := [(101, .box (pvL (e_api_Re v0))), (105, .box (pvL (e_api_Re y124)))]) (O := [(v0.f_Kind == 2) = false, (v0.f_Kind == 3) = false, (v0.f_Kind == 4) = true]) (by kernel_rfl) (sound _ _) ⟨hb125, hb126, hb127, trivial⟩ ?_
                exact ⟨(v122 == 0), by kernel_rfl, by kernel_rfl, hF⟩
              · have hF := cond_f hF hb127
                refine WA.reg [1, 3, 5, 8, 9, 10, 31] [101, 105] [(3, .bool false), (8, .bool false), (12, .bool false)] (env' := [(1, .val false [.ptr 101 1 0 0]), (3, one (.int .i64 v121)), (5, .val false [.ptr 105 1 0 0]), (8, one (.sl (es_api_Re v0.f_L))), (9, one (.int .i64 (v0.f_L.length : Int))), (10, one (.int .i64 v122)), (31, one (.bool false))]) (os' := [(101, .box (pvL (e_api_Re v0))), (105, .box (pvL (e_api_Re y124)))]) (O := [(v0.f_Kind == 2) = false, (v0.f_Kind == 3) = false, (v0.f_Kind == 4) = false]) (by kernel_rfl) (sound _ _) ⟨hb125, hb126, hb127, trivial⟩ ?_
                exact ⟨false, by kernel_rfl, by kernel_rfl, hF⟩
    · have hF := cond_f hF hb123
      refine WA.exit ?_
      refine WA.seq ?_
      refine WA.seq ?_
      refine WA.reg [1, 3, 39] [101] [] (env' := [(1, .val false [.ptr 101 1 0 0]), (3, one (.int .i64 v121)), (39, one (.int .i64 v0.f_Kind))]) (os' := [(101, .box (pvL (e_api_Re v0)))]) (O := []) (by kernel_rfl) (sound _ _) trivial ?_
      refine WA.block ?_
      refine WA.seq ?_
      refine WA.reg [1, 3, 39, 40] [101] [] (env' := [(1, .val false [.ptr 101 1 0 0]), (3, one (.int .i64 v121)), (39, one (.int .i64 v0.f_Kind)), (40, one (.bool (v0.f_Kind == 1)))]) (os' := [(101, .box (pvL (e_api_Re v0)))]) (O := []) (by kernel_rfl) (sound _ _) trivial ?_
      refine WA.cond (b := (v0.f_Kind == 1)) rfl (fun hb132 => ?_) (fun hb132 => ?_)
      · have hF := cond_t hF hb132
        refine WA.seq ?_
        refine WA.reg [2] [] [] (env' := [(2, one (.int .i64 1))]) (os' := []) (O := []) (by kernel_rfl) (sound _ _) trivial ?_
        refine WA.ret ?_
        obtain rfl := Option.some.inj hF
        exact out_ret (one (.int .i64 1)) [] (by kernel_rfl) (by kernel_rfl) (by kernel_rfl) (by kernel_rfl) (by decide) rfl rfl
      · have hF := cond_f hF hb132
        refine WA.seq ?_
        refine WA.reg [1, 3, 42] [101] [] (env' := [(1, .val false [.ptr 101 1 0 0]), (3, one (.int .i64 v121)), (42, one (.bool (v0.f_Kind == 4)))]) (os' := [(101, .box (pvL (e_api_Re v0)))]) (O := []) (by kernel_rfl) (sound _ _) trivial ?_
        refine WA.cond (b := (v0.f_Kind == 4)) rfl (fun hb133 => ?_) (fun hb133 => ?_)
        · have hF := cond_t hF hb133
          refine WA.seq ?_
          refine WA.reg [1, 3, 6] [101] [] (env' := [(1, .val false [.ptr 101 1 0 0]), (3, one (.int .i64 v121)), (6, one (.int .i64 v0.f_Max))]) (os' := [(101, .box (pvL (e_api_Re v0)))]) (O := []) (by kernel_rfl) (sound _ _) trivial ?_
          refine WA.join (fun s_ => ∃ (v135 : Int), pickE s_.env [3, 6] = [(3, one (.int .i64 v121)), (6, one (.int .i64 v135))] ∧ pickE s_.os [] = [] ∧ F32_j7 v121 v135 = some r) ?_ ?_
          · rintro s_ ⟨v135, he, ho, hF⟩
            refine WA.keep _ _ he ho ?_
            clear he ho
            refine WA.seq ?_
            refine WA.reg [2] [] [] (env' := [(2, one (.int .i64 (mn (w64 ((w64 (v121 * (mn (mx v135 1) 1000))) + 1)) 1000)))]) (os' := []) (O := []) (by kernel_rfl) (sound _ _) trivial ?_
            refine WA.ret ?_
            obtain rfl := Option.some.inj hF
            exact out_ret (one (.int .i64 (mn (w64 ((w64 (v121 * (mn (mx v135 1) 1000))) + 1)) 1000))) [] (by kernel_rfl) (by kernel_rfl) (by kernel_rfl) (by kernel_rfl) (by decide) rfl rfl
          · refine WA.seq ?_
            refine WA.reg [1, 3, 6, 47] [101] [] (env' := [(1, .val false [.ptr 101 1 0 0]), (3, one (.int .i64 v121)), (6, one (.int .i64 v0.f_Max)), (47, one (.bool (decide (v0.f_Max < 0))))]) (os' := [(101, .box (pvL (e_api_Re v0)))]) (O := []) (by kernel_rfl) (sound _ _) trivial ?_
            refine WA.cond (b := (decide (v0.f_Max < 0))) rfl (fun hb134 => ?_) (fun hb134 => ?_)
            · have hF := cond_t hF hb134
              refine WA.reg [3, 6] [] [] (env' := [(3, one (.int .i64 v121)), (6, one (.int .i64 (w64 (v0.f_Min + 1))))]) (os' := []) (O := []) (by kernel_rfl) (sound _ _) trivial ?_
              exact ⟨(w64 (v0.f_Min + 1)), by kernel_rfl, by kernel_rfl, hF⟩
            · have hF := cond_f hF hb134
              refine WA.skip ?_
              exact ⟨v0.f_Max, by kernel_rfl, by kernel_rfl, hF⟩
        · have hF := cond_f hF hb133
          refine WA.skip ?_
          refine WA.seq ?_
          refine WA.reg [2] [] [] (env' := [(2, one (.int .i64 (mn (w64 (v121 + 1)) 1000)))]) (os' := []) (O := []) (by kernel_rfl) (sound _ _) trivial ?_
          refine WA.ret ?_
          obtain rfl := Option.some.inj hF
          exact out_ret (one (.int .i64 (mn (w64 (v121 + 1)) 1000))) [] (by kernel_rfl) (by kernel_rfl) (by kernel_rfl) (by kernel_rfl) (by decide) rfl rfl
def F32 : Nat → api_Re → Option Int
  | 0, _ => none
  | k + 1, v0 => F32_b (F32 k) k v0
theorem F32_ok : ∀ (k : Nat), ∀ (v0 : api_Re) (r : Int), F32 k v0 = some r → Sim Tryz.prog GL0 32 [.val true (pvL (e_api_Re v0))] [] (one (.int .i64 r)) []
  | 0 => fun _ _ hF => by cases hF
  | k + 1 => fun v0 r hF => F32_b_ok (F32 k) (F32_ok k) k v0 r hF
/-! slices.Equal   entrepot api.Range entrepot api.Range  -/
def F75_b0 (self0 : Int → Option Bool) (v0 : List api_Range) (v1 : List api_Range) (v111 : Int) : Option Bool :=
  (cond (decide (v111 < (v0.length : Int))) (((idxL v0 v111).bind fun y113 => (idxL v1 v111).bind fun y114 => (cond (!((y113.f_Lo == y114.f_Lo) && ((y113.f_Hi == y114.f_Hi) && true))) ((some false)) ((self0 (w64 (v111 + 1))))))) (((some true))))
def F75_l0 (v0 : List api_Range) (v1 : List api_Range) : Nat → Int → Option Bool
  | 0, _ => none
  | m_ + 1, v111 => F75_b0 (F75_l0 v0 v1 m_) v0 v1 v111
def F75 (k : Nat) (v0 : List api_Range) (v1 : List api_Range) : Option Bool :=
  ((cond ((v0.length : Int) != (v1.length : Int)) ((some false)) (((F75_l0 v0 v1 k 0)))))
theorem F75_ok (k : Nat) (v0 : List api_Range) (v1 : List api_Range) (r : Bool) (hF : F75 k v0 v1 = some r) : Sim Tryz.prog GL0 75 [one (.sl (v0.map e_api_Range)), one (.sl (v1.map e_api_Range))] [] (one (.bool r)) [] := by
  refine sim_of [] Tryz.func75 rfl (by kernel_rfl) (by kernel_rfl) ?_
  show WA _ _ 26 _ _ _
  refine WA.seq ?_
  refine WA.reg [0, 1] [] [] (env' := [(0, one (.sl (v0.map e_api_Range))), (1, one (.sl (v1.map e_api_Range)))]) (os' := []) (O := []) (by kernel_rfl) (sound _ _) trivial ?_
  refine WA.seq ?_
  refine WA.seq ?_
  refine WA.regM (α := Int × Int) (raw := (((v0.map e_api_Range).length : Int), ((v1.map e_api_Range).length : Int))) (can := ((v0.length : Int), (v1.length : Int))) (fun m_ => ([(0, one (.sl (v0.map e_api_Range))), (1, one (.sl (v1.map e_api_Range))), (10, one (.bool (m_.1 != m_.2)))], [], [])) (pair_eq (by first | (simp only [zlm, zla, zlc, zln, zls, zlr, zlt, zld, lens_api_Re]; done) | (simp only [zlm, zla, zlc, zln, zls, zlr, zlt, zld, lens_api_Re]; omega) | omega) (by first | (simp only [zlm, zla, zlc, zln, zls, zlr, zlt, zld, lens_api_Re]; done) | (simp only [zlm, zla, zlc, zln, zls, zlr, zlt, zld, lens_api_Re]; omega) | omega)) [0, 1, 10] [] [] (env' := [(0, one (.sl (v0.map e_api_Range))), (1, one (.sl (v1.map e_api_Range))), (10, one (.bool ((v0.length : Int) != (v1.length : Int))))]) (os' := []) (O := []) (by kernel_rfl) (by kernel_rfl) (sound _ _) trivial ?_
  refine WA.cond (b := ((v0.length : Int) != (v1.length : Int))) rfl (fun hb101 => ?_) (fun hb101 => ?_)
  · have hF := cond_t hF hb101
    refine WA.seq ?_
    refine WA.reg [4] [] [] (env' := [(4, one (.bool false))]) (os' := []) (O := []) (by kernel_rfl) (sound _ _) trivial ?_
    refine WA.ret ?_
    obtain rfl := Option.some.inj hF
    exact out_ret (one (.bool false)) [] (by kernel_rfl) (by kernel_rfl) (by kernel_rfl) (by kernel_rfl) (by decide) rfl rfl
  · have hF := cond_f hF hb101
    refine WA.skip ?_
    refine WA.seq ?_
    refine WA.seq ?_
    refine WA.regM (α := Int) (raw := ((v0.map e_api_Range).length : Int)) (can := (v0.length : Int)) (fun m_ => ([(0, one (.sl (v0.map e_api_Range))), (1, one (.sl (v1.map e_api_Range))), (12, one (.int .i64 m_)), (13, one (.int .i64 0))], [], [])) ((by first | (simp only [zlm, zla, zlc, zln, zls, zlr, zlt, zld, lens_api_Re]; done) | (simp only [zlm, zla, zlc, zln, zls, zlr, zlt, zld, lens_api_Re]; omega) | omega)) [0, 1, 12, 13] [] [] (env' := [(0, one (.sl (v0.map e_api_Range))), (1, one (.sl (v1.map e_api_Range))), (12, one (.int .i64 (v0.length : Int))), (13, one (.int .i64 0))]) (os' := []) (O := []) (by kernel_rfl) (by kernel_rfl) (sound _ _) trivial ?_
    refine WA.block ?_
    refine WA.loop (fun m s_ => ∃ (v111 : Int), pickE s_.env [0, 1, 12, 13] = [(0, one (.sl (v0.map e_api_Range))), (1, one (.sl (v1.map e_api_Range))), (12, one (.int .i64 (v0.length : Int))), (13, one (.int .i64 v111))] ∧ pickE s_.os [] = [] ∧ F75_l0 v0 v1 m v111 = some r) k ⟨0, by kernel_rfl, by kernel_rfl, hF⟩ ?_
    clear hF
    rintro m0 s_ ⟨v111, he, ho, hF⟩
    refine WA.keep _ _ he ho ?_
    clear he ho
    cases m0 with
    | zero => cases hF
    | succ m0 =>
      obtain ⟨self0, hself0⟩ : ∃ g, g = F75_l0 v0 v1 m0 := ⟨_, rfl⟩
      have hF : F75_b0 self0 v0 v1 v111 = some r := by rw [hself0]; exact hF
      refine WA.seq ?_
      refine WA.reg [0, 1, 12, 13, 14] [] [] (env' := [(0, one (.sl (v0.map e_api_Range))), (1, one (.sl (v1.map e_api_Range))), (12, one (.int .i64 (v0.length : Int))), (13, one (.int .i64 v111)), (14, one (.bool (decide (v111 < (v0.length : Int)))))]) (os' := []) (O := []) (by kernel_rfl) (sound _ _) trivial ?_
      refine WA.seq ?_
      refine WA.cond (b := (decide (v111 < (v0.length : Int)))) rfl (fun hb112 => ?_) (fun hb112 => ?_)
      · have hF := cond_t hF hb112
        refine WA.skip ?_
        refine WA.seq ?_
        refine WA.block ?_
        refine WA.seq ?_
        refine WA.reg [0, 1, 5, 12, 13] [] [] (env' := [(0, one (.sl (v0.map e_api_Range))), (1, one (.sl (v1.map e_api_Range))), (5, one (.int .i64 v111)), (12, one (.int .i64 (v0.length : Int))), (13, one (.int .i64 v111))]) (os' := []) (O := []) (by kernel_rfl) (sound _ _) trivial ?_
        refine WA.seq ?_
        obtain ⟨y113, hy113, hF⟩ := bind_some hF
        obtain ⟨y114, hy114, hF⟩ := bind_some hF
        refine WA.regD (by kernel_rfl) [0, 1, 12, 13, 24] [] [(2, .cells (e_api_Range y113)), (6, .cells (e_api_Range y114))] (env' := [(0, one (.sl (v0.map e_api_Range))), (1, one (.sl (v1.map e_api_Range))), (12, one (.int .i64 (v0.length : Int))), (13, one (.int .i64 v111)), (24, one (.bool (!((y113.f_Lo == y114.f_Lo) && ((y113.f_Hi == y114.f_Hi) && true)))))]) (os' := []) (O := [idxL (v0.map e_api_Range) v111 = some (e_api_Range y113), idxL (v1.map e_api_Range) v111 = some (e_api_Range y114)]) (by kernel_rfl) (by kernel_rfl) (sound _ _) ⟨(idx_map _ hy113), (idx_map _ hy114), trivial⟩ ?_
        refine WA.cond (b := (!((y113.f_Lo == y114.f_Lo) && ((y113.f_Hi == y114.f_Hi) && true)))) rfl (fun hb115 => ?_) (fun hb115 => ?_)
        · have hF := cond_t hF hb115
          refine WA.seq ?_
          refine WA.reg [4] [] [] (env' := [(4, one (.bool false))]) (os' := []) (O := []) (by kernel_rfl) (sound _ _) trivial ?_
          refine WA.ret ?_
          obtain rfl := Option.some.inj hF
          exact out_ret (one (.bool false)) [] (by kernel_rfl) (by kernel_rfl) (by kernel_rfl) (by kernel_rfl) (by decide) rfl rfl
        · have hF := cond_f hF hb115
          refine WA.skip ?_
          refine WA.reg [0, 1, 12, 13] [] [] (env' := [(0, one (.sl (v0.map e_api_Range))), (1, one (.sl (v1.map e_api_Range))), (12, one (.int .i64 (v0.length : Int))), (13, one (.int .i64 (w64 (v111 + 1))))]) (os' := []) (O := []) (by kernel_rfl) (sound _ _) trivial ?_
          exact ⟨m0, Nat.lt_succ_self _, (w64 (v111 + 1)), by kernel_rfl, by kernel_rfl, by rw [hself0] at hF; exact hF⟩
      · have hF := cond_f hF hb112
        refine WA.exit ?_
        refine WA.seq ?_
        refine WA.reg [4] [] [] (env' := [(4, one (.bool true))]) (os' := []) (O := []) (by kernel_rfl) (sound _ _) trivial ?_
        refine WA.ret ?_
        obtain rfl := Option.some.inj hF
        exact out_ret (one (.bool true)) [] (by kernel_rfl) (by kernel_rfl) (by kernel_rfl) (by kernel_rfl) (by decide) rfl rfl
/-! entrepot rex.Quote -/
def F33_j3 (k : Nat) (self2 : (List api_Re) → Int → Option api_Re) (v0 : List UInt8) (v118 : List api_Re) (v120 : Int) (v123 : Bool) : Option api_Re :=
  cond v123 ((F55 k v0 v120).bind fun y125 => (F58 k ([(⟨y125.1, y125.1⟩ : api_Range)] : List api_Range)).bind fun y126 => if v118.length + ([y126] : List api_Re).length ≤ 1073741824 then (self2 (v118 ++ ([y126] : List api_Re)) (w64 (v120 + y125.2))) else none) (((cond ((v118.length : Int) == 1) (if (0 : Int) ≤ 0 ∧ 0 < (v118.length : Int) then (idxL v118 0).bind fun y130 => (some y130) else none) (((some (⟨2, ([] : List api_Range), v118, 0, 0⟩ : api_Re)))))))
def F33_b2 (k : Nat) (self2 : (List api_Re) → Int → Option api_Re) (v0 : List UInt8) (v118 : List api_Re) (v120 : Int) : Option api_Re :=
  (F49 k v0).bind fun y121 => cond y121 ((F33_j3 k self2 v0 v118 v120 (decide (v120 < (v0.length : Int))))) ((F33_j3 k self2 v0 v118 v120 false))
def F33_l2 (k : Nat) (v0 : List UInt8) : Nat → (List api_Re) → Int → Option api_Re
  | 0, _, _ => none
  | m_ + 1, v118, v120 => F33_b2 k (F33_l2 k v0 m_) v0 v118 v120
def F33 (k : Nat) (v0 : List UInt8) : Option api_Re :=
  (((F33_l2 k v0 k ([] : List api_Re) 0)))
theorem F33_ok (k : Nat) (v0 : List UInt8) (r : api_Re) (hF : F33 k v0 = some r) : Sim Tryz.prog GL0 33 [one (.str v0)] [] (.val true (pvL (e_api_Re r))) [] := by
  refine sim_of [] Tryz.func33 rfl (by kernel_rfl) (by kernel_rfl) ?_
  show WA _ _ 40 _ _ _
  refine WA.seq ?_
  refine WA.reg [0, 2] [102] [(0, .obj 102)] (env' := [(0, one (.str v0)), (2, .val false [.ptr 102 1 0 0])]) (os' := [(102, .box (pvL (e_api_Re (⟨0, ([] : List api_Range), ([] : List api_Re), 0, 0⟩ : api_Re))))]) (O := []) (by kernel_rfl) (sound _ _) trivial ?_
  refine WA.seq ?_
  refine WA.reg [0, 2, 3] [102, 103] [(0, .obj 103)] (env' := [(0, one (.str v0)), (2, .val false [.ptr 102 1 0 0]), (3, .val false [.arr 103 0])]) (os' := [(102, .box (pvL (e_api_Re (⟨0, ([] : List api_Range), ([] : List api_Re), 0, 0⟩ : api_Re)))), (103, .arr 5 (es_api_Re ([] : List api_Re)))]) (O := []) (by kernel_rfl) (sound _ _) trivial ?_
  refine WA.seq ?_
  refine WA.seq ?_
  refine WA.reg [0, 2, 3, 4] [102, 103] [] (env' := [(0, one (.str v0)), (2, .val false [.ptr 102 1 0 0]), (3, .val false [.arr 103 0]), (4, one (.int .i64 0))]) (os' := [(102, .box (pvL (e_api_Re (⟨0, ([] : List api_Range), ([] : List api_Re), 0, 0⟩ : api_Re)))), (103, .arr 5 (es_api_Re ([] : List api_Re)))]) (O := []) (by kernel_rfl) (sound _ _) trivial ?_
  refine WA.block ?_
  refine WA.loop (fun m s_ => ∃ (v118 : List api_Re) (v119 : Nat) (v120 : Int), pickE s_.env [0, 2, 3, 4] = [(0, one (.str v0)), (2, .val false [.ptr 102 1 0 0]), (3, .val false [.arr 103 v119]), (4, one (.int .i64 v120))] ∧ pickE s_.os [102, 103] = [(102, .box (pvL (e_api_Re (⟨0, ([] : List api_Range), ([] : List api_Re), 0, 0⟩ : api_Re)))), (103, .arr 5 (es_api_Re v118))] ∧ v119 = (v118 : List _).length ∧ F33_l2 k v0 m v118 v120 = some r) k ⟨([] : List api_Re), 0, 0, by kernel_rfl, by kernel_rfl, (by first | omega | (simp only [zlm, zla, zlc, zln, zls, zlr, zlt, zld, lens_api_Re]; done) | (simp only [zlm, zla, zlc, zln, zls, zlr, zlt, zld, lens_api_Re]; omega) | (simp only [zlm, zla, zlc, zln, zls, zlr, zlt, zld, lens_api_Re] at *; omega)), hF⟩ ?_
  clear hF
  rintro m2 s_ ⟨v118, v119, v120, he, ho, hn_v119, hF⟩
  refine WA.keep _ _ he ho ?_
  clear he ho
  cases m2 with
  | zero => cases hF
  | succ m2 =>
    obtain ⟨self2, hself2⟩ : ∃ g, g = F33_l2 k v0 m2 := ⟨_, rfl⟩
    have hF : F33_b2 k self2 v0 v118 v120 = some r := by rw [hself2]; exact hF
    refine WA.seq ?_
    refine WA.join (fun s_ => ∃ (v123 : Bool), pickE s_.env [0, 2, 3, 4, 14] = [(0, one (.str v0)), (2, .val false [.ptr 102 1 0 0]), (3, .val false [.arr 103 v119]), (4, one (.int .i64 v120)), (14, one (.bool v123))] ∧ pickE s_.os [102, 103] = [(102, .box (pvL (e_api_Re (⟨0, ([] : List api_Range), ([] : List api_Re), 0, 0⟩ : api_Re)))), (103, .arr 5 (es_api_Re v118))] ∧ F33_j3 k self2 v0 v118 v120 v123 = some r) ?_ ?_
    · rintro s_ ⟨v123, he, ho, hF⟩
      refine WA.keep _ _ he ho ?_
      clear he ho
      refine WA.cond (b := v123) rfl (fun hb124 => ?_) (fun hb124 => ?_)
      · have hF := cond_t hF hb124
        refine WA.skip ?_
        refine WA.block ?_
        refine WA.seq ?_
        obtain ⟨y125, hy125, hF⟩ := bind_some hF
        refine WA.reg [0, 2, 3, 4, 5, 6] [102, 103] [(2, .callR [] (.tup [(false, [.pv (.int .i64 y125.1)]), (false, [.pv (.int .i64 y125.2)])]))] (env' := [(0, one (.str v0)), (2, .val false [.ptr 102 1 0 0]), (3, .val false [.arr 103 v119]), (4, one (.int .i64 v120)), (5, one (.int .i64 y125.1)), (6, one (.int .i64 y125.2))]) (os' := [(102, .box (pvL (e_api_Re (⟨0, ([] : List api_Range), ([] : List api_Re), 0, 0⟩ : api_Re)))), (103, .arr 5 (es_api_Re v118))]) (O := [Sim Tryz.prog GL0 55 [one (.str v0), one (.int .i64 v120)] [] (.tup [(false, [.pv (.int .i64 y125.1)]), (false, [.pv (.int .i64 y125.2)])]) [], ([] : List Nat).Nodup]) (by kernel_rfl) (sound _ _) ⟨(F55_ok k _ _ _ hy125), (by decide), trivial⟩ ?_
        refine WA.seq ?_
        obtain ⟨y126, hy126, hF⟩ := bind_some hF
        obtain ⟨hc127, hF⟩ := if_some hF
        refine WA.regM (α := (List (List PV)) × (List (List PV))) (raw := (((es_api_Re v118) ++ ([(e_api_Re y126)])), [(e_api_Re y126)])) (can := ((es_api_Re (v118 ++ ([y126] : List api_Re))), (es_api_Re ([y126] : List api_Re)))) (fun m_ => ([(0, one (.str v0)), (2, .val false [.ptr 102 1 0 0]), (3, .val false [.arr 103 (v119 + 1)]), (4, one (.int .i64 v120)), (6, one (.int .i64 y125.2))], [(102, .box (pvL (e_api_Re (⟨0, ([] : List api_Range), ([] : List api_Re), 0, 0⟩ : api_Re)))), (103, .arr 5 m_.1)], [Sim Tryz.prog GL0 58 [one (.sl (([(⟨y125.1, y125.1⟩ : api_Range)] : List api_Range).map e_api_Range))] [] (.val true (pvL (e_api_Re y126))) [], ([] : List Nat).Nodup, v119 = (es_api_Re v118).length, (es_api_Re v118).length + m_.2.length ≤ 1073741824, ∀ es, es ∈ m_.2 → es.length = 5])) (pair_eq (by first | (simp only [len_map, app_map, take_map, drop_map, set_map, rep_map, lens_api_Re, app_api_Re, take_api_Re, drop_api_Re, set_api_Re, es_api_Re, e0_eq_api_Re]; done) | (simp only [List.map_append, List.map_cons, List.map_nil, List.map_take, List.map_drop, List.map_set, List.map_replicate, List.length_map, es_map_api_Re, e0_eq_api_Re]; done)) (by first | (simp only [len_map, app_map, take_map, drop_map, set_map, rep_map, lens_api_Re, app_api_Re, take_api_Re, drop_api_Re, set_api_Re, es_api_Re, e0_eq_api_Re]; done) | (simp only [List.map_append, List.map_cons, List.map_nil, List.map_take, List.map_drop, List.map_set, List.map_replicate, List.length_map, es_map_api_Re, e0_eq_api_Re]; done))) [0, 2, 3, 4, 6] [102, 103] [(5, .callR [] (.val true (pvL (e_api_Re y126))))] (env' := [(0, one (.str v0)), (2, .val false [.ptr 102 1 0 0]), (3, .val false [.arr 103 (v119 + 1)]), (4, one (.int .i64 v120)), (6, one (.int .i64 y125.2))]) (os' := [(102, .box (pvL (e_api_Re (⟨0, ([] : List api_Range), ([] : List api_Re), 0, 0⟩ : api_Re)))), (103, .arr 5 (es_api_Re (v118 ++ ([y126] : List api_Re))))]) (O := [Sim Tryz.prog GL0 58 [one (.sl (([(⟨y125.1, y125.1⟩ : api_Range)] : List api_Range).map e_api_Range))] [] (.val true (pvL (e_api_Re y126))) [], ([] : List Nat).Nodup, v119 = (es_api_Re v118).length, (es_api_Re v118).length + (es_api_Re ([y126] : List api_Re)).length ≤ 1073741824, ∀ es, es ∈ (es_api_Re ([y126] : List api_Re)) → es.length = 5]) (by kernel_rfl) (by kernel_rfl) (sound _ _) ⟨(F58_ok k _ _ hy126), (by decide), (by first | omega | (simp only [zlm, zla, zlc, zln, zls, zlr, zlt, zld, lens_api_Re]; done) | (simp only [zlm, zla, zlc, zln, zls, zlr, zlt, zld, lens_api_Re]; omega) | (simp only [zlm, zla, zlc, zln, zls, zlr, zlt, zld, lens_api_Re] at *; omega)), (by first | exact hc127 | (simp only [List.length_map, lens_api_Re] ; exact hc127)), (len_api_Re ([y126] : List api_Re)), trivial⟩ ?_
        refine WA.reg [0, 2, 3, 4] [102, 103] [] (env' := [(0, one (.str v0)), (2, .val false [.ptr 102 1 0 0]), (3, .val false [.arr 103 (v119 + 1)]), (4, one (.int .i64 (w64 (v120 + y125.2))))]) (os' := [(102, .box (pvL (e_api_Re (⟨0, ([] : List api_Range), ([] : List api_Re), 0, 0⟩ : api_Re)))), (103, .arr 5 (es_api_Re (v118 ++ ([y126] : List api_Re))))]) (O := []) (by kernel_rfl) (sound _ _) trivial ?_
        exact ⟨m2, Nat.lt_succ_self _, (v118 ++ ([y126] : List api_Re)), (v119 + 1), (w64 (v120 + y125.2)), by kernel_rfl, by kernel_rfl, (by first | omega | (simp only [zlm, zla, zlc, zln, zls, zlr, zlt, zld, lens_api_Re]; done) | (simp only [zlm, zla, zlc, zln, zls, zlr, zlt, zld, lens_api_Re]; omega) | (simp only [zlm, zla, zlc, zln, zls, zlr, zlt, zld, lens_api_Re] at *; omega)), by rw [hself2] at hF; exact hF⟩
      · have hF := cond_f hF hb124
        refine WA.exit ?_
        refine WA.seq ?_
        refine WA.seq ?_
        refine WA.regM (α := Int) (raw := ((v119 : Nat) : Int)) (can := (v118.length : Int)) (fun m_ => ([(2, .val false [.ptr 102 1 0 0]), (3, .val false [.arr 103 v119]), (34, one (.bool (m_ == 1)))], [(102, .box (pvL (e_api_Re (⟨0, ([] : List api_Range), ([] : List api_Re), 0, 0⟩ : api_Re)))), (103, .arr 5 (es_api_Re v118))], [])) ((by first | (simp only [zlm, zla, zlc, zln, zls, zlr, zlt, zld, lens_api_Re]; done) | (simp only [zlm, zla, zlc, zln, zls, zlr, zlt, zld, lens_api_Re]; omega) | omega)) [2, 3, 34] [102, 103] [] (env' := [(2, .val false [.ptr 102 1 0 0]), (3, .val false [.arr 103 v119]), (34, one (.bool ((v118.length : Int) == 1)))]) (os' := [(102, .box (pvL (e_api_Re (⟨0, ([] : List api_Range), ([] : List api_Re), 0, 0⟩ : api_Re)))), (103, .arr 5 (es_api_Re v118))]) (O := []) (by kernel_rfl) (by kernel_rfl) (sound _ _) trivial ?_
        refine WA.cond (b := ((v118.length : Int) == 1)) rfl (fun hb128 => ?_) (fun hb128 => ?_)
        · have hF := cond_t hF hb128
          refine WA.seq ?_
          obtain ⟨hc129, hF⟩ := if_some hF
          obtain ⟨y130, hy130, hF⟩ := bind_some hF
          refine WA.reg [2] [102] [(2, .cells (e_api_Re y130))] (env' := [(2, .val false [.ptr 102 1 0 0])]) (os' := [(102, .box (pvL (e_api_Re y130)))]) (O := [v119 = (es_api_Re v118).length, (0 : Int) ≤ 0, 0 < ((v119 : Nat) : Int), v119 = (es_api_Re v118).length, (es_api_Re v118)[Int.toNat 0]? = some (e_api_Re y130)]) (by kernel_rfl) (sound _ _) ⟨(by first | omega | (simp only [zlm, zla, zlc, zln, zls, zlr, zlt, zld, lens_api_Re]; done) | (simp only [zlm, zla, zlc, zln, zls, zlr, zlt, zld, lens_api_Re]; omega) | (simp only [zlm, zla, zlc, zln, zls, zlr, zlt, zld, lens_api_Re] at *; omega)), hc129.1, (by have h_ := hc129.2; (try simp only [zlm, zla, zlc, zln, zls, zlr, zlt, zld, lens_api_Re] at h_ ⊢); omega), (by first | omega | (simp only [zlm, zla, zlc, zln, zls, zlr, zlt, zld, lens_api_Re]; done) | (simp only [zlm, zla, zlc, zln, zls, zlr, zlt, zld, lens_api_Re]; omega) | (simp only [zlm, zla, zlc, zln, zls, zlr, zlt, zld, lens_api_Re] at *; omega)), (get_of_idx (idx_api_Re hy130)), trivial⟩ ?_
          refine WA.ret ?_
          obtain rfl := Option.some.inj hF
          exact out_ret (.val true (pvL (e_api_Re y130))) [] (by kernel_rfl) (by kernel_rfl) (by kernel_rfl) (by kernel_rfl) (by decide) rfl rfl
        · have hF := cond_f hF hb128
          refine WA.skip ?_
          refine WA.seq ?_
          refine WA.freeze 103 3 (s := 5) (n := v119) (els := (es_api_Re v118)) rfl rfl (by first | omega | (simp only [zlm, zla, zlc, zln, zls, zlr, zlt, zld, lens_api_Re]; done) | (simp only [zlm, zla, zlc, zln, zls, zlr, zlt, zld, lens_api_Re]; omega) | (simp only [zlm, zla, zlc, zln, zls, zlr, zlt, zld, lens_api_Re] at *; omega)) ?_
          refine WA.keep [2, 3] [102] (env' := [(2, .val false [.ptr 102 1 0 0]), (3, one (.sl (es_api_Re v118)))]) (os' := [(102, .box (pvL (e_api_Re (⟨0, ([] : List api_Range), ([] : List api_Re), 0, 0⟩ : api_Re))))]) (by kernel_rfl) (by kernel_rfl) ?_
          refine WA.reg [2] [102] [] (env' := [(2, .val false [.ptr 102 1 0 0])]) (os' := [(102, .box (pvL (e_api_Re (⟨2, ([] : List api_Range), v118, 0, 0⟩ : api_Re))))]) (O := []) (by kernel_rfl) (sound _ _) trivial ?_
          refine WA.ret ?_
          obtain rfl := Option.some.inj hF
          exact out_ret (.val true (pvL (e_api_Re (⟨2, ([] : List api_Range), v118, 0, 0⟩ : api_Re)))) [] (by kernel_rfl) (by kernel_rfl) (by kernel_rfl) (by kernel_rfl) (by decide) rfl rfl
    · obtain ⟨y121, hy121, hF⟩ := bind_some hF
      rcases Bool.eq_false_or_eq_true y121 with hb122 | hb122
      · have hF := cond_t hF hb122
        refine WA.reg [0, 2, 3, 4, 14] [102, 103] [(1, .callR [] (one (.bool y121))), (2, .bool true)] (env' := [(0, one (.str v0)), (2, .val false [.ptr 102 1 0 0]), (3, .val false [.arr 103 v119]), (4, one (.int .i64 v120)), (14, one (.bool (decide (v120 < (v0.length : Int)))))]) (os' := [(102, .box (pvL (e_api_Re (⟨0, ([] : List api_Range), ([] : List api_Re), 0, 0⟩ : api_Re)))), (103, .arr 5 (es_api_Re v118))]) (O := [Sim Tryz.prog GL0 49 [one (.str v0)] [] (one (.bool y121)) [], ([] : List Nat).Nodup, y121 = true]) (by kernel_rfl) (sound _ _) ⟨(F49_ok k _ _ hy121), (by decide), hb122, trivial⟩ ?_
        exact ⟨(decide (v120 < (v0.length : Int))), by kernel_rfl, by kernel_rfl, hF⟩
      · have hF := cond_f hF hb122
        refine WA.reg [0, 2, 3, 4, 14] [102, 103] [(1, .callR [] (one (.bool y121))), (2, .bool false)] (env' := [(0, one (.str v0)), (2, .val false [.ptr 102 1 0 0]), (3, .val false [.arr 103 v119]), (4, one (.int .i64 v120)), (14, one (.bool false))]) (os' := [(102, .box (pvL (e_api_Re (⟨0, ([] : List api_Range), ([] : List api_Re), 0, 0⟩ : api_Re)))), (103, .arr 5 (es_api_Re v118))]) (O := [Sim Tryz.prog GL0 49 [one (.str v0)] [] (one (.bool y121)) [], ([] : List Nat).Nodup, y121 = false]) (by kernel_rfl) (sound _ _) ⟨(F49_ok k _ _ hy121), (by decide), hb122, trivial⟩ ?_
        exact ⟨false, by kernel_rfl, by kernel_rfl, hF⟩
/-! entrepot rex.Any -/
def F34 (k : Nat) : Option api_Re :=
  (F59 k).bind fun y101 => (F58 k y101).bind fun y102 => (some (⟨4, ([] : List api_Range), ([y102] : List api_Re), 0, (-1)⟩ : api_Re))
theorem F34_ok (k : Nat) (r : api_Re) (hF : F34 k = some r) : Sim Tryz.prog GL0 34 [] [] (.val true (pvL (e_api_Re r))) [] := by
  refine sim_of [] Tryz.func34 rfl (by kernel_rfl) (by kernel_rfl) ?_
  show WA _ _ 5 _ _ _
  refine WA.seq ?_
  refine WA.reg [0] [100] [(0, .obj 100)] (env' := [(0, .val false [.ptr 100 1 0 0])]) (os' := [(100, .box (pvL (e_api_Re (⟨0, ([] : List api_Range), ([] : List api_Re), 0, 0⟩ : api_Re))))]) (O := []) (by kernel_rfl) (sound _ _) trivial ?_
  refine WA.seq ?_
  obtain ⟨y101, hy101, hF⟩ := bind_some hF
  obtain ⟨y102, hy102, hF⟩ := bind_some hF
  refine WA.regM (α := (List (List PV))) (raw := [(e_api_Re y102)]) (can := (es_api_Re ([y102] : List api_Re))) (fun m_ => ([(0, .val false [.ptr 100 1 0 0])], [(100, .box (pvL ([.int .i64 4] ++ [.sl (([] : List api_Range).map e_api_Range)] ++ [.sl m_] ++ [.int .i64 0] ++ [.int .i64 (-1)])))], [Sim Tryz.prog GL0 59 [] [] (one (.sl (y101.map e_api_Range))) [], ([] : List Nat).Nodup, Sim Tryz.prog GL0 58 [one (.sl (y101.map e_api_Range))] [] (.val true (pvL (e_api_Re y102))) [], ([] : List Nat).Nodup])) ((by first | (simp only [len_map, app_map, take_map, drop_map, set_map, rep_map, lens_api_Re, app_api_Re, take_api_Re, drop_api_Re, set_api_Re, es_api_Re, e0_eq_api_Re]; done) | (simp only [List.map_append, List.map_cons, List.map_nil, List.map_take, List.map_drop, List.map_set, List.map_replicate, List.length_map, es_map_api_Re, e0_eq_api_Re]; done))) [0] [100] [(0, .callR [] (one (.sl (y101.map e_api_Range)))), (1, .callR [] (.val true (pvL (e_api_Re y102))))] (env' := [(0, .val false [.ptr 100 1 0 0])]) (os' := [(100, .box (pvL ([.int .i64 4] ++ [.sl (([] : List api_Range).map e_api_Range)] ++ [.sl (es_api_Re ([y102] : List api_Re))] ++ [.int .i64 0] ++ [.int .i64 (-1)])))]) (O := [Sim Tryz.prog GL0 59 [] [] (one (.sl (y101.map e_api_Range))) [], ([] : List Nat).Nodup, Sim Tryz.prog GL0 58 [one (.sl (y101.map e_api_Range))] [] (.val true (pvL (e_api_Re y102))) [], ([] : List Nat).Nodup]) (by kernel_rfl) (by kernel_rfl) (sound _ _) ⟨(F59_ok k _ hy101), (by decide), (F58_ok k _ _ hy102), (by decide), trivial⟩ ?_
  refine WA.ret ?_
  obtain rfl := Option.some.inj hF
  exact out_ret (.val true (pvL (e_api_Re (⟨4, ([] : List api_Range), ([y102] : List api_Re), 0, (-1)⟩ : api_Re)))) [] (by kernel_rfl) (by kernel_rfl) (by kernel_rfl) (by kernel_rfl) (by decide) rfl rfl
/-! entrepot rex.norm 1 -/
def F104 (k : Nat) (v0 : api_Range) (v1 : api_Range) : Option Int :=
  ((some (w64 (v0.f_Lo - v1.f_Lo))))
theorem F104_ok (k : Nat) (v0 : api_Range) (v1 : api_Range) (r : Int) (hF : F104 k v0 v1 = some r) : Sim Tryz.prog GL0 104 [.val true (pvL (e_api_Range v0)), .val true (pvL (e_api_Range v1))] [] (one (.int .i64 r)) [] := by
  refine sim_of [] Tryz.func104 rfl (by kernel_rfl) (by kernel_rfl) ?_
  show WA _ _ 10 _ _ _
  refine WA.seq ?_
  refine WA.reg [2, 3] [102, 103] [(0, .obj 102), (1, .obj 103)] (env' := [(2, .val false [.ptr 102 1 0 0]), (3, .val false [.ptr 103 1 0 0])]) (os' := [(102, .box (pvL (e_api_Range v0))), (103, .box (pvL (e_api_Range v1)))]) (O := []) (by kernel_rfl) (sound _ _) trivial ?_
  refine WA.seq ?_
  refine WA.reg [4] [] [] (env' := [(4, one (.int .i64 (w64 (v0.f_Lo - v1.f_Lo))))]) (os' := []) (O := []) (by kernel_rfl) (sound _ _) trivial ?_
  refine WA.ret ?_
  obtain rfl := Option.some.inj hF
  exact out_ret (one (.int .i64 (w64 (v0.f_Lo - v1.f_Lo)))) [] (by kernel_rfl) (by kernel_rfl) (by kernel_rfl) (by kernel_rfl) (by decide) rfl rfl
end Go.Proofs.YthilboheomikjaaGreatDoor
end

section
namespace Go.Proofs.YthilboheomikjaaGreatDoor
open Go.AL Go.Lib
set_option linter.unusedVariables false
set_option linter.unusedSimpArgs false
set_option maxRecDepth 100000

theorem w64_id {x : Int} (h : -9223372036854775808 ≤ x) (h' : x ≤ 9223372036854775807) : w64 x = x := by
  simp only [w64, IntKind.wrap, IntKind.bits, IntKind.signed]; simp; omega
theorem idx_nat {α : Type} (l : List α) (i : Nat) : idxL l (i : Int) = l[i]? := by simp [idxL]
theorem idx_lt {α : Type} {l : List α} {i : Nat} (h : i < l.length) : idxL l (i : Int) = some l[i] := by rw [idx_nat]; exact List.getElem?_eq_getElem h
theorem dt {p : Prop} [Decidable p] (h : p) : decide p = true := decide_eq_true h
theorem df {p : Prop} [Decidable p] (h : ¬ p) : decide p = false := decide_eq_false h

/-! ### code points -/
def bad (l : List UInt8) : Prop := (decodeL l).1 = 65533 ∧ (decodeL l).2 = 1
instance (l : List UInt8) : Decidable (bad l) := by unfold bad; infer_instance

def ptsF : Nat → List UInt8 → List Int
  | 0, _ => []
  | n + 1, l => if l = [] then [] else ((decodeL l).1 : Int) :: ptsF n (l.drop (decodeL l).2)
/-- a text's code points -/
def pts (l : List UInt8) : List Int := ptsF l.length l

theorem ptsF_nil (n : Nat) : ptsF n [] = [] := by cases n <;> simp [ptsF]
theorem ptsF_fuel : ∀ (n m : Nat) (l : List UInt8), l.length ≤ n → l.length ≤ m → ptsF n l = ptsF m l
  | 0, m, l, hn, _ => by
    have : l = [] := List.eq_nil_of_length_eq_zero (by omega)
    subst this; rw [ptsF_nil, ptsF_nil]
  | n + 1, 0, l, _, hm => by
    have : l = [] := List.eq_nil_of_length_eq_zero (by omega)
    subst this; rw [ptsF_nil, ptsF_nil]
  | n + 1, m + 1, l, hn, hm => by
    unfold ptsF
    by_cases hne : l = []
    · simp [hne]
    · have hw := decodeL_width l
      have hl : 0 < l.length := List.length_pos_iff.2 hne
      rw [if_neg hne, if_neg hne, ptsF_fuel n m (l.drop (decodeL l).2) (by rw [List.length_drop]; omega) (by rw [List.length_drop]; omega)]
theorem pts_nil : pts [] = [] := rfl
theorem pts_step {l : List UInt8} (hne : l ≠ []) : pts l = ((decodeL l).1 : Int) :: pts (l.drop (decodeL l).2) := by
  have hl : 0 < l.length := List.length_pos_iff.2 hne
  have hw := decodeL_width l
  obtain ⟨n, hn⟩ : ∃ n, l.length = n + 1 := ⟨l.length - 1, by omega⟩
  unfold pts
  rw [hn]
  show (if l = [] then [] else _) = _
  rw [if_neg hne, ptsF_fuel n (l.drop (decodeL l).2).length _ (by rw [List.length_drop]; omega) (Nat.le_refl _)]

theorem valid_step {l : List UInt8} (hne : l ≠ []) (h : validD l = true) : ¬ bad l ∧ validD (l.drop (decodeL l).2) = true := by
  rw [validD_step l hne] at h
  by_cases hb : (decodeL l).1 = 65533 ∧ (decodeL l).2 = 1
  · rw [if_pos hb] at h; cases h
  · rw [if_neg hb] at h; exact ⟨hb, h⟩
theorem valid_bad {l : List UInt8} (hne : l ≠ []) (h : bad l) : validD l = false := by rw [validD_step l hne]; exact if_pos h
theorem valid_good {l : List UInt8} (hne : l ≠ []) (h : ¬ bad l) : validD l = validD (l.drop (decodeL l).2) := by rw [validD_step l hne]; exact if_neg h

/-- what stands at the head of a text: code point and bytes, or none -/
def nxt (l : List UInt8) : Int × Int := if bad l then (-1, 1) else (((decodeL l).1 : Nat), ((decodeL l).2 : Nat))

def isPoint (c : Int) : Prop := 0 ≤ c ∧ c ≤ 1114111 ∧ (c < 55296 ∨ 57343 < c)

instance (c : Int) : Decidable (isPoint c) := by unfold isPoint; infer_instance

theorem byte_lt (l : List UInt8) (i : Nat) : (l.getD i 0).toNat < 256 := (l.getD i 0).toNat_lt

theorem point_of {l : List UInt8} (h : ¬ bad l) : isPoint ((decodeL l).1 : Int) := by
  unfold bad at h
  rw [decodeL_N] at h ⊢
  have h0 := byte_lt l 0; have h1 := byte_lt l 1; have h2 := byte_lt l 2; have h3 := byte_lt l 3
  generalize (l.getD 0 0).toNat = b0 at *; generalize (l.getD 1 0).toNat = b1 at *; generalize (l.getD 2 0).toNat = b2 at *; generalize (l.getD 3 0).toNat = b3 at *
  unfold decodeN at h ⊢
  unfold isPoint
  repeat' split
  all_goals first | (exfalso; simp_all; done) | (simp only []; omega)

theorem enc_eq {c : Nat} (h : isPoint (c : Int)) : (Utf8.encode (c : Int)).data.toList = if c < 128 then [UInt8.ofNat c] else if c < 2048 then [UInt8.ofNat (192 + c / 64), UInt8.ofNat (128 + c % 64)]
    else if c < 65536 then [UInt8.ofNat (224 + c / 4096), UInt8.ofNat (128 + c / 64 % 64), UInt8.ofNat (128 + c % 64)] else [UInt8.ofNat (240 + c / 262144), UInt8.ofNat (128 + c / 4096 % 64), UInt8.ofNat (128 + c / 64 % 64), UInt8.ofNat (128 + c % 64)] := by
  have hv : Utf8.valid (c : Int) = true := by
    unfold isPoint at h
    simp only [Utf8.valid, Bool.or_eq_true, Bool.and_eq_true, decide_eq_true_eq]; omega
  unfold Utf8.encode
  simp only [hv, if_true, Int.toNat_natCast]
  repeat' split
  all_goals first | rfl | omega

/-- the bytes at the head of a text are those of its code point -/
theorem enc_take {l : List UInt8} (hne : l ≠ []) (h : ¬ bad l) : l.take (decodeL l).2 = (Utf8.encode ((decodeL l).1 : Int)).data.toList := by
  have hp := point_of h
  have hle := decodeL_le l hne
  unfold bad at h
  have hl : 0 < l.length := List.length_pos_iff.2 hne
  rw [decodeL_N] at h hp hle ⊢
  have h0 := byte_lt l 0; have h1 := byte_lt l 1; have h2 := byte_lt l 2; have h3 := byte_lt l 3
  have t : ∀ n, n ≤ l.length → l.take n = (List.range n).map (fun i => l.getD i 0) := fun n hn => by
    refine List.ext_getElem? fun i => ?_
    rw [List.getElem?_map]
    by_cases hi : i < n
    · rw [List.getElem?_take_of_lt hi, List.getElem?_range hi, List.getElem?_eq_getElem (by omega)]
      simp [List.getD, List.getElem?_eq_getElem (show i < l.length by omega)]
    · rw [List.getElem?_eq_none (by simp; omega), List.getElem?_eq_none (by simp; omega)]; rfl
  rw [t _ hle]
  have hb0 := UInt8.ofNat_toNat (x := l.getD 0 0); have hb1 := UInt8.ofNat_toNat (x := l.getD 1 0); have hb2 := UInt8.ofNat_toNat (x := l.getD 2 0); have hb3 := UInt8.ofNat_toNat (x := l.getD 3 0)
  have r1 : (List.range 1).map (fun i => l.getD i 0) = [UInt8.ofNat (l.getD 0 0).toNat] := by rw [hb0]; rfl
  have r2 : (List.range 2).map (fun i => l.getD i 0) = [UInt8.ofNat (l.getD 0 0).toNat, UInt8.ofNat (l.getD 1 0).toNat] := by rw [hb0, hb1]; rfl
  have r3 : (List.range 3).map (fun i => l.getD i 0) = [UInt8.ofNat (l.getD 0 0).toNat, UInt8.ofNat (l.getD 1 0).toNat, UInt8.ofNat (l.getD 2 0).toNat] := by rw [hb0, hb1, hb2]; rfl
  have r4 : (List.range 4).map (fun i => l.getD i 0) = [UInt8.ofNat (l.getD 0 0).toNat, UInt8.ofNat (l.getD 1 0).toNat, UInt8.ofNat (l.getD 2 0).toNat, UInt8.ofNat (l.getD 3 0).toNat] := by rw [hb0, hb1, hb2, hb3]; rfl
  clear hb0 hb1 hb2 hb3 t hle
  rw [enc_eq hp]
  clear hp
  generalize (l.getD 0 0).toNat = b0 at *; generalize (l.getD 1 0).toNat = b1 at *; generalize (l.getD 2 0).toNat = b2 at *; generalize (l.getD 3 0).toNat = b3 at *
  generalize l.length = n at *
  unfold decodeN at h ⊢
  by_cases g0 : b0 < 128
  · rw [if_pos g0, r1]; simp only []; rw [if_pos g0]
  rw [if_neg g0] at h ⊢
  by_cases g1 : b0 / 32 = 6 ∧ (1 < n ∧ b1 / 64 = 2)
  · rw [if_pos g1] at h ⊢
    by_cases k1 : b0 % 32 * 64 + b1 % 64 ≥ 128
    · rw [if_pos k1, r2]; simp only []
      rw [if_neg (by omega), if_pos (by omega), show 192 + (b0 % 32 * 64 + b1 % 64) / 64 = b0 by omega, show 128 + (b0 % 32 * 64 + b1 % 64) % 64 = b1 by omega]
    · rw [if_neg k1] at h; exact absurd ⟨rfl, rfl⟩ h
  rw [if_neg g1] at h ⊢
  by_cases g2 : b0 / 16 = 14 ∧ (1 < n ∧ b1 / 64 = 2) ∧ (2 < n ∧ b2 / 64 = 2)
  · rw [if_pos g2] at h ⊢
    by_cases k1 : b0 % 16 * 4096 + b1 % 64 * 64 + b2 % 64 ≥ 2048 ∧ (b0 % 16 * 4096 + b1 % 64 * 64 + b2 % 64 < 55296 ∨ (57344 ≤ b0 % 16 * 4096 + b1 % 64 * 64 + b2 % 64 ∧ b0 % 16 * 4096 + b1 % 64 * 64 + b2 % 64 ≤ 1114111))
    · rw [if_pos k1, r3]; simp only []
      rw [if_neg (by omega), if_neg (by omega), if_pos (by omega), show 224 + (b0 % 16 * 4096 + b1 % 64 * 64 + b2 % 64) / 4096 = b0 by omega, show 128 + (b0 % 16 * 4096 + b1 % 64 * 64 + b2 % 64) / 64 % 64 = b1 by omega,
        show 128 + (b0 % 16 * 4096 + b1 % 64 * 64 + b2 % 64) % 64 = b2 by omega]
    · rw [if_neg k1] at h; exact absurd ⟨rfl, rfl⟩ h
  rw [if_neg g2] at h ⊢
  by_cases g3 : b0 / 8 = 30 ∧ (1 < n ∧ b1 / 64 = 2) ∧ (2 < n ∧ b2 / 64 = 2) ∧ (3 < n ∧ b3 / 64 = 2)
  · rw [if_pos g3] at h ⊢
    by_cases k1 : b0 % 8 * 262144 + b1 % 64 * 4096 + b2 % 64 * 64 + b3 % 64 ≥ 65536 ∧ (b0 % 8 * 262144 + b1 % 64 * 4096 + b2 % 64 * 64 + b3 % 64 < 55296 ∨ (57344 ≤ b0 % 8 * 262144 + b1 % 64 * 4096 + b2 % 64 * 64 + b3 % 64 ∧ b0 % 8 * 262144 + b1 % 64 * 4096 + b2 % 64 * 64 + b3 % 64 ≤ 1114111))
    · rw [if_pos k1, r4]; simp only []
      rw [if_neg (by omega), if_neg (by omega), if_neg (by omega), show 240 + (b0 % 8 * 262144 + b1 % 64 * 4096 + b2 % 64 * 64 + b3 % 64) / 262144 = b0 by omega, show 128 + (b0 % 8 * 262144 + b1 % 64 * 4096 + b2 % 64 * 64 + b3 % 64) / 4096 % 64 = b1 by omega,
        show 128 + (b0 % 8 * 262144 + b1 % 64 * 4096 + b2 % 64 * 64 + b3 % 64) / 64 % 64 = b2 by omega, show 128 + (b0 % 8 * 262144 + b1 % 64 * 4096 + b2 % 64 * 64 + b3 % 64) % 64 = b3 by omega]
    · rw [if_neg k1] at h; exact absurd ⟨rfl, rfl⟩ h
  rw [if_neg g3] at h; exact absurd ⟨rfl, rfl⟩ h

/-- texts of the same code points are the same -/
theorem pts_inj : ∀ (n : Nat) {s t : List UInt8}, s.length ≤ n → validD s = true → validD t = true → pts s = pts t → s = t
  | n, s, t, hn, hs, ht, h => by
    by_cases es : s = []
    · subst es
      by_cases et : t = []
      · exact et.symm
      · rw [pts_nil, pts_step et] at h; cases h
    · by_cases et : t = []
      · subst et; rw [pts_nil, pts_step es] at h; cases h
      · obtain ⟨b1, v1⟩ := valid_step es hs
        obtain ⟨b2, v2⟩ := valid_step et ht
        rw [pts_step es, pts_step et] at h
        injection h with h1 h2
        have hl : 0 < s.length := List.length_pos_iff.2 es
        have hw := decodeL_width s
        have c1 := enc_take es b1; have c2 := enc_take et b2
        rw [h1, ← c2] at c1
        cases n with
        | zero => omega
        | succ n =>
          have e := pts_inj n (by rw [List.length_drop]; omega) v1 v2 h2
          rw [← List.take_append_drop (decodeL s).2 s, ← List.take_append_drop (decodeL t).2 t, c1, e]

/-! ### utf.Next -/
theorem go_eq (l : List UInt8) (hne : l ≠ []) : decodeGo ⟨l.toArray⟩ = decodeL l := by
  have : ¬ (ByteArray.size ⟨l.toArray⟩) = 0 := by rw [size_mk]; intro h; exact hne (List.eq_nil_of_length_eq_zero h)
  unfold decodeGo decodeL; rw [if_neg this]

theorem F55_at {k : Nat} {s : List UInt8} {i : Nat} (hi : i < s.length) (hs : s.length ≤ 4611686018427387904) : F55 k s (i : Int) = some (nxt (s.drop i)) := by
  have hne : s.drop i ≠ [] := fun h => by have := congrArg List.length h; rw [List.length_drop] at this; simp at this; omega
  have hr := decodeL_rune (s.drop i)
  unfold F55 F55_j0
  rw [df (by omega), df (by omega)]
  simp only [cond]
  rw [if_pos ⟨by omega, by omega, by omega⟩]
  rw [Int.toNat_natCast, Int.toNat_natCast, List.take_length]
  simp only [F80, Option.bind_some, go_eq _ hne, F55_j1, nxt]
  by_cases hb : bad (s.drop i)
  · rw [if_pos hb]
    obtain ⟨h1, h2⟩ := hb
    rw [h1, h2]; rfl
  · rw [if_neg hb, w64_id (by omega) (by omega)]
    by_cases h1 : (decodeL (s.drop i)).1 = 65533
    · have h2 : ¬ (decodeL (s.drop i)).2 = 1 := fun h => hb ⟨h1, h⟩
      have e1 : (((decodeL (s.drop i)).1 : Nat) : Int) == 65533 := by rw [h1]; rfl
      have e2 : ((((decodeL (s.drop i)).2 : Nat) : Int) == 1) = false := by
        rw [beq_eq_false_iff_ne]; omega
      rw [e1, e2]; rfl
    · have e1 : ((((decodeL (s.drop i)).1 : Nat) : Int) == 65533) = false := by
        rw [beq_eq_false_iff_ne]; omega
      rw [e1]; rfl
end Go.Proofs.YthilboheomikjaaGreatDoor
end

section
namespace Go.AL
variable {D : List Deferred}
set_option linter.unusedVariables false
set_option linter.unusedSimpArgs false
variable {P : Program} {GL : List (Nat × List PV)} {C : Spec} {st : S} {N : Nat} {F : Exit → S → Prop}

def thrown (pv : Value) : List PanicEntry := [{ v := pv, recovered := false }]

def boxes (l : List (List PV)) : List Obj := l.map fun ps => .box (pvL ps)

/-- f panics with this value; what was handed over are boxes of plain data still -/
def SimPanic (P : Program) (GL : List (Nat × List PV)) (pv : Value) (f : FuncId) (args : List AT) (os : List Obj) : Prop :=
  ∀ (w : World) (I : Nat → Prop) (G : Nat → Option Nat) (vs : List Value), Sr GL w I G (number os) → As w I G (shape (number os)) args vs →
    Calls P f ⟨vs⟩ w fun e w' => ∃ I' G' psl, e = .panicked (thrown pv) ∧ psl.length = os.length ∧ Ext w w' I I' (Mine G (number os)) (Mine G' (number (boxes psl))) ∧ Sr GL w' I' G' (number (boxes psl)) ∧
      Keeps (· < os.length) w w' I I' G G' (shape (number os)) (shape (number (boxes psl)))

/-- returns that, or panics -/
def SimP (P : Program) (GL : List (Nat × List PV)) (pv : Value) (f : FuncId) (args : List AT) (os : List Obj) : Option (AT × List Obj) → Prop
  | some (res, os') => Sim P GL f args os res os'
  | none => SimPanic P GL pv f args os

theorem renL_pv (ids : List Nat) : ∀ ps : List PV, renL ids (pvL ps) = some (pvL ps)
  | [] => rfl
  | p :: ps => by
    have ih := renL_pv ids ps
    simp only [pvL, List.map_cons, renL, renC] at ih ⊢
    rw [ih]

theorem renOs_boxes (ids : List Nat) : ∀ l : List (List PV), renOs ids (boxes l) = some (boxes l)
  | [] => rfl
  | ps :: l => by
    have ih := renOs_boxes ids l
    simp only [boxes, List.map_cons, renOs, renO, renL_pv, Option.map_some] at ih ⊢
    rw [ih]

theorem ops_wp_k {ops : List Oper} {hs_ : List (Nat × Hint)} (hC : Sound P GL C) (tail : List Oper) : ∀ (pre : List Oper) (i : Nat) (st st' : S) (O : List Prop) (w : World) (I : Nat → Prop) (G : Nat → Option Nat) (a : Act) (Q : Exit → Act → World → Prop),
    evalOps P GL C N ops hs_ i pre st = some (st', O) → All O → Sr GL w I G st.os → Fr D w I G (shape st.os) N a st.env →
    (∀ w' I' G' a', Ext w w' I I' (Mine G st.os) (Mine G' st'.os) → Keeps (· < 100) w w' I I' G G' (shape st.os) (shape st'.os) → Sr GL w' I' G' st'.os → Fr D w' I' G' (shape st'.os) N a' st'.env → wpList P ops.toArray Q tail a' w') →
    wpList P ops.toArray Q (pre ++ tail) a w
  | [], i, st, st', O, w, I, G, a, Q, he, hO, hs, hf, hQ => by
    cases he
    exact hQ w I G a (.refl _ _ _) (.refl _ _ _ _ _) hs hf
  | o :: rest, i, st, st', O, w, I, G, a, Q, he, hO, hs, hf, hQ => by
    simp only [evalOps] at he
    split at he
    · rename_i hw hd
      have hw' := wanted_ok hf hw
      rw [List.cons_append]
      unfold wpList
      rw [hw']
      simp only [Bool.false_eq_true, if_false]
      exact ops_wp_k hC tail rest (i + 1) _ st' O w I G _ Q he hO hs (fr_put hf hd (fun _ _ _ _ h => h) ⟨[], rfl, rfl⟩) hQ
    · rename_i hw hd
      have hw' := wanted_ok hf hw
      split at he
      · cases he
      · rename_i x os O1 he1
        split at he
        · cases he
        · rename_i st2 O2 he2
          cases he
          obtain ⟨h1, h2⟩ := hO.append
          rw [List.cons_append]
          unfold wpList
          rw [hw']
          simp only [if_true]
          refine .inl (op_wp he1 h1 hC hs hf fun v w' I' G' e1 s1 x1 m1 => ?_)
          exact ops_wp_k hC tail rest (i + 1) _ st' O2 w' I' G' _ Q he2 h2 s1 (fr_put hf hd m1.env x1) (fun w2 I2 G2 a2 e2 k2 s2 f2 => hQ w2 I2 G2 a2 (e1.trans e2) (m1.keeps.trans k2) s2 f2)
    · cases he

/-- as far as a call that panics -/
def evalP (P : Program) (GL : List (Nat × List PV)) (C : Spec) (N : Nat) (l : List Oper) (hs_ : List (Nat × Hint)) (n : Nat) (ids ts : List Nat) (st : S) : Option (FuncId × List AT × List Obj × List (Nat × AT) × Objs × List Prop) :=
  match evalOps P GL C N l hs_ 0 (l.take n) st, l[n]? with
  | some (st1, O), some o => match wantedA l st1 o, o.op with
    | some true, .call ⟨.value (.func f), ⟨xs⟩, _⟩ => match (P.funcs[f]?).map (fun fn => (fn.body.isSome, fn.name == "runtime.NumGoroutine")), (opds GL st1 xs).bind (unAs ids), (lookAll st1.os ids).bind (unOs ids), Nat.ble ids.length 100 with
      | some (true, false), some args, some os, true => some (f, args, os, pickE st1.env ts, st1.os, O)
      | _, _, _, _ => none
    | _, _ => none
  | _, _ => none

theorem WA.regP {id : Nat} {l : List Oper} (n : Nat) (ids ts : List Nat) (hs_ : List (Nat × Hint)) (pv : Value) {f : FuncId} {args : List AT} {os : List Obj} {env1 : List (Nat × AT)} {os1 : Objs} {O : List Prop}
    (he : evalP P GL C N l hs_ n ids ts st = some (f, args, os, env1, os1, O)) (hC : Sound P GL C) (hO : All O) (hnd : ids.Nodup) (hp : SimPanic P GL pv f args os)
    (h : ∀ psl : List (List PV), psl.length = ids.length → F (.panic (thrown pv)) ⟨env1, setAll os1 ids (boxes psl)⟩) :
    WA P GL N (.region id l.toArray false) st F := fun D w0 I0 G0 os0 w I G a h1 h2 h3 h4 => by
  unfold evalP at he
  split at he
  · rename_i st1 O' o hev ho
    split at he
    · rename_i f' xs tys hw hop
      split at he
      · rename_i args' os' hfn hargs hos h100
        cases he
        have hn := (List.getElem?_eq_some_iff.1 ho).1
        have hl : l = l.take n ++ (o :: l.drop (n + 1)) := by
          have h2 := (List.getElem?_eq_some_iff.1 ho).2
          rw [← h2, ← List.drop_eq_getElem_cons hn, List.take_append_drop]
        refine wp_region_list ?_
        have key := ops_wp_k (N := N) (hs_ := hs_) hC (o :: l.drop (n + 1)) (l.take n) 0 st st1 O w I G a (Post GL N D w0 I0 G0 os0 F) hev hO h3 h4 fun w' I' G' a' e k s fr => ?_
        · rw [← hl] at key; exact key
        · have hw' := wanted_ok fr hw
          unfold wpList
          rw [hw']
          simp only [if_true]
          refine .inl ?_
          obtain ⟨az, ha1, ha2⟩ := bind_some hargs
          obtain ⟨zs, hz1, hz2⟩ := bind_some hos
          obtain ⟨ho1, ho2⟩ := unOs_ren hz2
          have ho' : Eqs (renOs ids os) (lookAll st1.os ids) := ⟨zs, ho1, hz1⟩
          obtain ⟨yl, yg⟩ := lookAll_get hz1
          have hlen : ids.length = os.length := by omega
          obtain ⟨hin, hshc⟩ := ren_in ho'
          have hGc : ∀ (p k : Nat), ids[p]? = some k → (fun k => (ids[k]?).bind G') p = G' k := fun p k h => by simp [h]
          have hsc := s.ren ho' hnd hlen
          have hargs2 := renAs_back hGc hshc (unAs_ren ha2) (opds_r s fr ha1)
          have hcall := hp w' I' (fun k => (ids[k]?).bind G') (xs.map a'.eval) hsc hargs2
          obtain ⟨fn, hfn1, hfb⟩ := map_some hfn
          simp only [Prod.mk.injEq] at hfb
          obtain ⟨dst, op, ty, pos, after, guard⟩ := o
          simp only at hop; subst hop
          unfold Oper.wp
          have hbody : fn.body.isNone = false := by rw [← Option.not_isSome, hfb.1]; rfl
          have hrun : (execOp a'.eval { dst, op := .call ⟨.value (.func f), ⟨xs⟩, tys⟩, type := ty, pos, after, guard }).run P w' = .ok (.enter f (xs.map a'.eval).toArray) w' := by
            have hname : ¬ fn.name = "runtime.NumGoroutine" := by simpa using hfb.2
            have hbn : ¬ fn.body = none := fun e => by rw [e] at hbody; cases hbody
            simp [execOp, resolve, Act.eval, Deferred.ofValue, invoke, callFunc, hfn1]
            rw [if_neg hname, if_neg hbn]
          rw [hrun, Oper.upon_enter]
          refine Calls.imp hcall ?_
          rintro e' w2 ⟨I2, G1, psl, rfl, hpl, p1, p2, p3⟩
          have hbl : (boxes psl).length = psl.length := by simp [boxes]
          obtain ⟨G2, q1, q2, q3, q4, q5⟩ := back_home (new := []) (os' := boxes psl) (rs := boxes psl) (os2 := setAll st1.os ids (boxes psl)) s ho' hnd hlen (by rw [hbl, hpl, hlen]; exact Nat.le_refl _) (Nat.le_of_ble_eq_true h100) (renOs_boxes _ _)
            (by rw [List.take_of_length_le (by rw [hbl, hpl, hlen]; exact Nat.le_refl _), List.drop_of_length_le (by rw [hbl, hpl, hlen]; exact Nat.le_refl _)]; rfl) p1 p2 p3
          exact ⟨I2, G2, _, (h1.trans e).trans q3, (h2.trans k).trans q5.keeps, q4, ⟨fr.size, fr.defers, fun t x hx => ⟨(fr.slot t x (look_pickE hx)).1, q5.env t x _ (look_pickE hx) (fr.slot t x (look_pickE hx)).2⟩⟩, h psl (by rw [hpl, hlen])⟩
      · cases he
    · cases he
  · cases he
end Go.AL
end

section
namespace Go.AL
variable {D : List Deferred}
set_option linter.unusedVariables false
set_option linter.unusedSimpArgs false
variable {P : Program} {GL : List (Nat × List PV)} {C : Spec} {st : S} {N : Nat} {F : Exit → S → Prop}

/-- a value without parts, put into an interface, and thrown -/
def evalBad (P : Program) (GL : List (Nat × List PV)) (C : Spec) (N : Nat) (l : List Oper) (ts : List Nat) (st : S) : Option (TypeId × List (Nat × AT) × Objs × List Prop) :=
  match l with
  | [o0, o1, o2] => match evalOps P GL C N [o0, o1, o2] [] 0 [o0] st, o1.op, o1.dst, o1.guard, o2.op, o2.guard with
    | some (st1, O), .makeInterface t (.tmp d0), some d1, none, .panic (.tmp d2), none => match look st1.env d0, P.concrete t, Nat.beq d1 d2, Nat.blt d1 N with
      | some (.val true []), true, true, true => match ts.all fun t => !Nat.beq t d1 with
        | true => some (t, pickE st1.env ts, st1.os, O)
        | false => none
      | _, _, _, _ => none
    | _, _, _, _, _, _ => none
  | _ => none

theorem WA.bad {id : Nat} {l : List Oper} (ts : List Nat) {t : TypeId} {env1 : List (Nat × AT)} {os1 : Objs} {O : List Prop} (he : evalBad P GL C N l ts st = some (t, env1, os1, O)) (hC : Sound P GL C) (hO : All O)
    (h : F (.panic (thrown (.iface t (.agg #[])))) ⟨env1, os1⟩) : WA P GL N (.region id l.toArray false) st F := fun D w0 I0 G0 os0 w I G a h1 h2 h3 h4 => by
  unfold evalBad at he
  split at he
  · rename_i o0 o1 o2
    split at he
    · rename_i s1 O' t' d0 d1 d2 hev hop1 hd1 hg1 hop2 hg2
      split at he
      · rename_i hl hcc hdd hlt
        split at he
        case h_2 => cases he
        rename_i hts
        cases he
        have hdd := Nat.eq_of_beq_eq_true hdd
        subst hdd
        have hlt : d1 < N := Nat.le_of_ble_eq_true hlt
        refine wp_region_list ?_
        refine ops_wp_k (N := N) (hs_ := []) hC [o1, o2] [o0] 0 st s1 O w I G a (Post GL N D w0 I0 G0 os0 F) hev hO h3 h4 fun w' I' G' a' e k s fr => ?_
        obtain ⟨vs, hv, hvs⟩ := (fr.slot d0 _ hl).2
        have hvs0 : vs = [] := by
          have h' : CSr w' I' G' (shape s1.os) [] vs := hvs
          cases vs with
          | nil => rfl
          | cons v vs => exact absurd h' (by simp [CSr])
        subst hvs0
        obtain ⟨dst1, op1, ty1, pos1, af1, gd1⟩ := o1
        obtain ⟨dst2, op2, ty2, pos2, af2, gd2⟩ := o2
        simp only at hop1 hd1 hg1 hop2 hg2
        subst hop1; subst hd1; subst hg1; subst hop2; subst hg2
        unfold wpList
        rw [show ∀ y, Region.wanted ⟨some d1, .makeInterface t (.tmp d0), ty1, pos1, af1, none⟩ y = true from fun _ => rfl]
        simp only [if_true]
        refine .inl ?_
        unfold Oper.wp
        have hr1 : (execOp a'.eval ⟨some d1, .makeInterface t (.tmp d0), ty1, pos1, af1, none⟩).run P w' = .ok (.value (.iface t (.agg #[]))) w' := by
          have : a'.eval (.tmp d0) = .agg #[] := hv
          simp [execOp, this, run_makeInterface _ _ _ hcc]
        rw [hr1]
        show wpList P _ _ _ (a'.put (some d1) (.iface t (.agg #[]))) w'
        unfold wpList
        rw [show ∀ y, Region.wanted ⟨dst2, .panic (.tmp d1), ty2, pos2, af2, none⟩ y = true from fun _ => rfl]
        simp only [if_true]
        refine .inl ?_
        unfold Oper.wp
        have hr2 : (execOp (a'.put (some d1) (.iface t (.agg #[]))).eval ⟨dst2, .panic (.tmp d1), ty2, pos2, af2, none⟩).run P w' = .halt (.panic (.iface t (.agg #[]))) w' := by
          have : (a'.put (some d1) (.iface t (.agg #[]))).eval (.tmp d1) = .iface t (.agg #[]) := by
            show (a'.tmps.setIfInBounds d1 _).getD d1 undef = _
            rw [Array.getD_eq_getD_getElem?, Array.getElem?_setIfInBounds_self_of_lt (by rw [fr.size]; exact hlt)]; rfl
          simp [execOp, this, Instr.panic, goPanic]
        rw [hr2, Oper.upon_panic]
        refine ⟨I', G', ⟨pickE s1.env ts, s1.os⟩, h1.trans e, h2.trans k, s, ⟨?_, ?_, fun u x hx => ?_⟩, h⟩
        · simp [Act.put, fr.size]
        · simp [Act.put, fr.defers]
        · have hmem : ∀ {l : List Nat}, look (pickE s1.env l) u = some x → u ∈ l := by
            intro l
            induction l with
            | nil => intro h; cases h
            | cons q l ih =>
              intro h
              simp only [pickE] at h
              split at h
              · rw [look_cons] at h
                split at h
                · subst_vars; simp
                · exact List.mem_cons_of_mem _ (ih h)
              · exact List.mem_cons_of_mem _ (ih h)
          have hne : u ≠ d1 := fun e => by
            have := List.all_eq_true.1 hts u (hmem hx)
            rw [e, Nat.beq_refl] at this; cases this
          have hp : (a'.put (some d1) (.iface t (.agg #[]))).tmps.getD u undef = a'.tmps.getD u undef := by
            show (a'.tmps.setIfInBounds d1 _).getD u undef = _
            rw [Array.getD_eq_getD_getElem?, Array.getElem?_setIfInBounds_ne (Ne.symm hne), ← Array.getD_eq_getD_getElem?]
          rw [hp]
          exact fr.slot u x (look_pickE hx)
      · cases he
    · cases he
  · cases he

/-- what holds where a function ends that may panic -/
def OutP (P : Program) (pv : Value) (rv : List ResultVar) (outs : List Nat) (m : Nat) : Option (AT × List Obj) → Exit → S → Prop
  | some (res, os'), e, s => Out P rv outs m res os' e s
  | none, .panic ch, s => ch = thrown pv ∧ ∃ psl, lookAll s.os (List.range m) = some (boxes psl) ∧ psl.length = m
  | none, _, _ => False

theorem simP_of {f : FuncId} {fn : Func} {code : Code} {args : List AT} {os : List Obj} {pv : Value} {o : Option (AT × List Obj)} (outs : List Nat) (hf : P.funcs[f]? = some fn) (hb : fn.body = some code) (hn : Nat.ble args.length fn.ntmps = true)
    (hm : Nat.ble os.length 100 = true) (h : WA P GL fn.ntmps code ⟨numA 0 args, number os⟩ (OutP P pv fn.results.toList outs os.length o)) : SimP P GL pv f args os o := by
  cases o with
  | some r => exact sim_of outs hf hb hn hm h
  | none =>
    have hn := Nat.le_of_ble_eq_true hn
    have hm := Nat.le_of_ble_eq_true hm
    intro w I G vs hs ha
    obtain ⟨hal, hag⟩ := ha.get
    refine calls_of_wp hf hb (wp_mono (h [] w I G (number os) w I G _ (.refl _ _ _) (.refl _ _ _ _ _) hs ?_) ?_)
    · refine ⟨by simp [hal]; omega, rfl, fun t x hx => ?_⟩
      simp only [look_numA, Nat.zero_le, if_true, Nat.sub_zero] at hx
      obtain ⟨v, hv, hr⟩ := hag t x hx
      have hlt := (List.getElem?_eq_some_iff.1 hx).1
      refine ⟨by omega, ?_⟩
      rw [Array.getD_eq_getD_getElem?, Array.getElem?_append_left (by simp [hal]; omega)]
      simp only [List.getElem?_toArray, hv]; exact hr
    · rintro e a' w' ⟨I', G', s, q1, q2, q3, q4, q5⟩
      cases e with
      | panic ch =>
        obtain ⟨rfl, psl, r1, r2⟩ := q5
        have hEq : Eqs (renOs (List.range os.length) (boxes psl)) (lookAll s.os (List.range os.length)) := ⟨_, renOs_boxes _ _, r1⟩
        have hbl : (boxes psl).length = psl.length := by simp [boxes]
        obtain ⟨hin, hsh⟩ := ren_in hEq
        have hnd : (List.range os.length).Nodup := List.nodup_range
        have hG : ∀ (p k : Nat), (List.range os.length)[p]? = some k → (fun k => ((List.range os.length)[k]?).bind G') p = G' k := fun p k h => by simp [h]
        refine ⟨q4.defers, I', fun k => ((List.range os.length)[k]?).bind G', psl, rfl, r2, ?_, q3.ren hEq hnd (by simp [hbl, r2]), ?_⟩
        · refine ⟨q1.size, q1.os, q1.tape, q1.output, q1.keep, q1.imm, q1.inew, fun b hb => ?_⟩
          obtain ⟨p, o, h1, h2⟩ := hb
          rw [look_number] at h1
          cases hk : (List.range os.length)[p]? with
          | none => simp [hk] at h2
          | some k =>
            obtain ⟨_, o', _, _, h3⟩ := hin p k hk
            exact q1.mnew b ⟨k, o', h3, by simpa [hk] using h2⟩
        · refine ⟨q2.heap, q2.imm, fun p s' m hp hsp => ?_⟩
          have hp' : p < os.length := hp
          have hk : (List.range os.length)[p]? = some p := List.getElem?_range hp'
          rw [hsh p p hk] at hsp
          obtain ⟨m0, e1, e2, e3⟩ := q2.objs p s' m (by show p < 100; omega) hsp
          refine ⟨m0, e1, e2, fun e => ?_⟩
          have := e3 e
          simpa [hk] using this
      | normal => exact q5.elim
      | ret => exact q5.elim
      | exit _ => exact q5.elim
      | goto _ => exact q5.elim
      | outgrown => exact q5.elim

theorem out_retP {pv : Value} {rv : List ResultVar} {outs : List Nat} {m : Nat} {res : AT} {os' : List Obj} {s : S} (r : AT) (l : List Obj) (h1 : resA P s rv = some r) (h2 : renA outs res = some r) (h3 : renOs outs os' = some l) (h4 : lookAll s.os outs = some l)
    (h5 : outs.Nodup) (h6 : outs.length = os'.length) (h7 : outs.take m = List.range m) : OutP P pv rv outs m (some (res, os')) .ret s := ⟨r, h1, h2, ⟨l, h3, h4⟩, h5, h6, h7⟩
theorem out_nrmP {pv : Value} {rv : List ResultVar} {outs : List Nat} {m : Nat} {res : AT} {os' : List Obj} {s : S} (r : AT) (l : List Obj) (h1 : resA P s rv = some r) (h2 : renA outs res = some r) (h3 : renOs outs os' = some l) (h4 : lookAll s.os outs = some l)
    (h5 : outs.Nodup) (h6 : outs.length = os'.length) (h7 : outs.take m = List.range m) : OutP P pv rv outs m (some (res, os')) .normal s := ⟨r, h1, h2, ⟨l, h3, h4⟩, h5, h6, h7⟩
theorem out_bad {pv : Value} {rv : List ResultVar} {outs : List Nat} {m : Nat} {s : S} (psl : List (List PV)) (h1 : lookAll s.os (List.range m) = some (boxes psl)) (h2 : psl.length = m) : OutP P pv rv outs m none (.panic (thrown pv)) s := ⟨rfl, psl, h1, h2⟩

/-- o; where it is a panic, that; else what f makes of it -/
def orP {α β : Type} (o : Option (Option α)) (f : α → Option (Option β)) : Option (Option β) := o.bind fun y => match y with
  | none => some none
  | some z => f z
theorem orP_some {α β : Type} {o : Option (Option α)} {f : α → Option (Option β)} {r : Option β} (h : orP o f = some r) : (o = some none ∧ r = none) ∨ ∃ z, o = some (some z) ∧ f z = some r := by
  unfold orP at h
  cases o with
  | none => cases h
  | some y =>
    cases y with
    | none => cases h; exact .inl ⟨rfl, rfl⟩
    | some z => exact .inr ⟨z, rfl, h⟩
theorem one_of_len {α : Type} {l : List α} (h : l.length = 1) : ∃ x, l = [x] := by
  match l, h with
  | [x], _ => exact ⟨x, rfl⟩
end Go.AL
end

section
namespace Go.AL
variable {D : List Deferred}
set_option linter.unusedVariables false
set_option linter.unusedSimpArgs false
variable {P : Program} {GL : List (Nat × List PV)} {C : Spec} {st : S} {N : Nat} {F : Exit → S → Prop}

theorem WA.nilTest {id : Nat} {d1 d2 x t e ty1 ty2 ty3 : Nat} {p1 p2 : String} {a1 a2 : Array Edge} {els : List (List PV)} (ho : look st.env x = some (one (.sl els))) (hu : P.underlying t = some (.slice e)) (hd1 : Nat.blt d1 N = true) (hd2 : Nat.blt d2 N = true)
    (h : ∀ b : Bool, (b = true → els = []) → F .normal ⟨(d2, one (.bool b)) :: (d1, one (.sl els)) :: st.env, st.os⟩) :
    WA P GL N (.region id (List.toArray [⟨some d1, .move (.tmp x), ty1, p1, a1, none⟩, ⟨some d2, .binOp .eql t (.tmp d1) (.const (.slice none 0 0)) ty3, ty2, p2, a2, none⟩]) false) st F := fun D w0 I0 G0 os0 w I G a h1 h2 h3 h4 => by
  refine wp_region_list ?_
  have hev : evalOps P GL (Sim P GL) N [⟨some d1, .move (.tmp x), ty1, p1, a1, none⟩, ⟨some d2, .binOp .eql t (.tmp d1) (.const (.slice none 0 0)) ty3, ty2, p2, a2, none⟩] [] 0 [⟨some d1, .move (.tmp x), ty1, p1, a1, none⟩] st = some (⟨(d1, one (.sl els)) :: st.env, st.os⟩, []) := by
    simp [evalOps, wantedA, dstOk, hd1, evalOpH, evalOp, look, opd, ho, putE]
  refine ops_wp_k (N := N) (hs_ := []) (sound P GL) [_] [_] 0 st _ [] w I G a (Post GL N D w0 I0 G0 os0 F) hev trivial h3 h4 fun w' I' G' a' ee k s fr => ?_
  have hl : look ((d1, one (.sl els)) :: st.env) d1 = some (one (.sl els)) := by simp [look_cons]
  have hv : PVr w' I' (.sl els) (a'.tmps.getD d1 undef) := atr_one (fr.slot d1 _ hl).2
  obtain ⟨A, l, c, hval, hnil⟩ : ∃ A l c, a'.tmps.getD d1 undef = .slice A l c ∧ (A.isNone = true → els = []) := by
    generalize a'.tmps.getD d1 undef = v at hv
    cases hv with
    | sl0 A c => exact ⟨A, 0, c, rfl, fun _ => rfl⟩
    | sl els b o c s' vals hI hc hss hm hr' => exact ⟨_, _, _, rfl, fun h => by cases h⟩
  unfold wpList
  rw [show ∀ y, Region.wanted ⟨some d2, .binOp .eql t (.tmp d1) (.const (.slice none 0 0)) ty3, ty2, p2, a2, none⟩ y = true from fun _ => rfl]
  simp only [if_true]
  refine .inl ?_
  unfold Oper.wp
  have hr : (execOp a'.eval ⟨some d2, .binOp .eql t (.tmp d1) (.const (.slice none 0 0)) ty3, ty2, p2, a2, none⟩).run P w' = .ok (.value (.bool A.isNone)) w' := by
    have h5 : a'.eval (.tmp d1) = .slice A l c := hval
    have h6 : a'.eval (.const (.slice none 0 0)) = .slice none 0 0 := rfl
    simp [execOp, h5, h6, eqGuard, binOp, run_equal_slice_nil w' t e A l c hu]
  rw [hr]
  show Post GL N D w0 I0 G0 os0 F .normal (a'.put (some d2) (.bool A.isNone)) w'
  have hd2' : dstOk N (⟨some d2, .binOp .eql t (.tmp d1) (.const (.slice none 0 0)) ty3, ty2, p2, a2, none⟩ : Oper) = true := hd2
  have hx : ATr w' I' G' (shape st.os) (one (.bool A.isNone)) (.bool A.isNone) := ⟨_, rfl, .bool _⟩
  exact ⟨I', G', ⟨(d2, one (.bool A.isNone)) :: (d1, one (.sl els)) :: st.env, st.os⟩, h1.trans ee, h2.trans k, s, fr_put (o := ⟨some d2, .binOp .eql t (.tmp d1) (.const (.slice none 0 0)) ty3, ty2, p2, a2, none⟩) (st := ⟨(d1, one (.sl els)) :: st.env, st.os⟩) (os' := st.os) fr hd2' (fun _ _ _ _ h => h) hx, h A.isNone hnil⟩
end Go.AL
end

section
namespace Go.Proofs.YthilboheomikjaaGreatDoor
open Go.AL Go.RowKit
set_option linter.unusedVariables false
set_option maxRecDepth 100000

def F102 (k : Nat) (l : List api_Range) : Option (List api_Range) := if l.length ≤ 1073741824 then some l else none
theorem F102_ok (k : Nat) (v0 : List api_Range) (r : List api_Range) (hF : F102 k v0 = some r) : Sim Tryz.prog GL0 102 [one (.sl (v0.map e_api_Range))] [] (.val false [.arr 0 r.length]) [.arr 2 (r.map e_api_Range)] := by
  obtain ⟨hl, hF⟩ := if_some hF
  obtain rfl := Option.some.inj hF
  refine sim_of [900] Tryz.func102 rfl (by kernel_rfl) (by kernel_rfl) ?_
  show WA _ _ 8 _ _ _
  refine WA.seq ?_
  refine WA.reg [0] [] [] (env' := [(0, one (.sl (v0.map e_api_Range)))]) (os' := []) (O := []) (by kernel_rfl) (sound _ _) trivial ?_
  refine WA.seq ?_
  refine WA.seq ?_
  refine WA.nilTest (e := 60) (els := v0.map e_api_Range) rfl (by kernel_rfl) (by kernel_rfl) (by kernel_rfl) fun b hb => ?_
  refine WA.cond (b := b) rfl (fun hb' => ?_) (fun hb' => ?_)
  · have h0 : v0 = [] := List.map_eq_nil_iff.1 (hb hb')
    subst h0
    refine WA.seq ?_
    refine WA.reg [2] [900] [(0, .obj 900)] (env' := [(2, .val false [.arr 900 0])]) (os' := [(900, .arr 2 [])]) (O := []) (by kernel_rfl) (sound _ _) trivial ?_
    refine WA.ret ?_
    exact out_ret (.val false [.arr 900 0]) [.arr 2 []] (by kernel_rfl) (by kernel_rfl) (by kernel_rfl) (by kernel_rfl) (by decide) rfl rfl
  · refine WA.skip ?_
    refine WA.seq ?_
    refine WA.regM (α := Nat × List (List PV)) (raw := (0 + (v0.map e_api_Range).length, [] ++ v0.map e_api_Range)) (can := (v0.length, v0.map e_api_Range)) (fun m_ => ([(2, .val false [.arr 900 m_.1])], [(900, .arr 2 m_.2)], [0 = ([] : List (List PV)).length, ([] : List (List PV)).length + (v0.map e_api_Range).length ≤ 1073741824, ∀ es, es ∈ v0.map e_api_Range → es.length = 2]))
      (pair_eq (by simp) (by simp)) [2] [900] [(0, .obj 900)] (env' := [(2, .val false [.arr 900 v0.length])]) (os' := [(900, .arr 2 (v0.map e_api_Range))]) (O := [0 = ([] : List (List PV)).length, ([] : List (List PV)).length + (v0.map e_api_Range).length ≤ 1073741824, ∀ es, es ∈ v0.map e_api_Range → es.length = 2]) (by kernel_rfl) (by kernel_rfl) (sound _ _) ⟨rfl, by simpa using hl, len_api_Range v0, trivial⟩ ?_
    refine WA.ret ?_
    exact out_ret (.val false [.arr 900 v0.length]) [.arr 2 (v0.map e_api_Range)] (by kernel_rfl) (by kernel_rfl) (by kernel_rfl) (by kernel_rfl) (by decide) rfl rfl
end Go.Proofs.YthilboheomikjaaGreatDoor
end

section
namespace Go.Proofs
open Go.Shelf
def Tryz.lays125_ren : Go.Shelf.Ren := ⟨fun | 125 => 112 | 128 => 133 | 129 => 134 | n => n, fun | 46 => 37 | 3 => 3 | 51 => 170 | 53 => 159 | 4 => 4 | 5 => 5 | 9 => 9 | n => n, fun | n => n⟩
theorem Tryz.lays125 : Go.Proofs.Lays.n125 Tryz.prog Tryz.lays125_ren := {
  mixed := by kernel_rfl
  f125 := Tryz.func112.trans (congrArg some (by kernel_rfl))
  f128 := Tryz.func133.trans (congrArg some (by kernel_rfl))
  f129 := Tryz.func134.trans (congrArg some (by kernel_rfl))
  t3 := Tryz.underlying3
  a3 := Tryz.isAgg3
  z3 := Tryz.sizeOf3
  v3 := Tryz.zeroValue3
  t4 := Tryz.underlying4
  a4 := Tryz.isAgg4
  z4 := Tryz.sizeOf4
  v4 := Tryz.zeroValue4
  t5 := Tryz.underlying5
  a5 := Tryz.isAgg5
  z5 := Tryz.sizeOf5
  v5 := Tryz.zeroValue5
  t9 := Tryz.underlying9
  a9 := Tryz.isAgg9
  z9 := Tryz.sizeOf9
  v9 := Tryz.zeroValue9
  t46 := Tryz.underlying37
  a46 := Tryz.isAgg37
  z46 := Tryz.sizeOf37
  v46 := Tryz.zeroValue37
  t51 := Tryz.underlying170
  a51 := Tryz.isAgg170
  z51 := Tryz.sizeOf170
  v51 := Tryz.zeroValue170
  t53 := Tryz.underlying159
  a53 := Tryz.isAgg159
  z53 := Tryz.sizeOf159
  v53 := Tryz.zeroValue159 }
end Go.Proofs
end

section
namespace Go.Proofs.YthilboheomikjaaGreatDoor
open Go.AL Go.RowKit
set_option linter.unusedVariables false

def F112 (k : Nat) (n : Int) : Option Int := if 0 ≤ n ∧ n < 18446744073709551616 then some (Lib.bitLen n.toNat : Nat) else none
theorem F112_ok (k : Nat) (v0 : Int) (r : Int) (hF : F112 k v0 = some r) : Sim Tryz.prog GL0 112 [one (.int .u64 v0)] [] (one (.int .i64 r)) [] := by
  obtain ⟨hl, hF⟩ := if_some hF
  obtain rfl := Option.some.inj hF
  refine sim_below fun w I G vs hs ha => ?_
  obtain ⟨vs, rfl, hb⟩ := as_int ha; clear ha; have ha := hb; clear hb
  obtain rfl := as_nil ha
  refine Calls.imp (Any.bits_Len Tryz.lays125 v0 w (by omega) (by omega)) ?_
  rintro e w' ⟨rfl, rfl⟩
  exact ⟨_, rfl, fun _ _ _ _ => ⟨_, rfl, .int _ _⟩, .refl _ _⟩
end Go.Proofs.YthilboheomikjaaGreatDoor
end
