/- From a row's condition to what the walks ask: the tables of unicode/utf8. -/
import Derived.Test.YthilboheomikjaaGreatDoorP1
import Derived.Test.YthilboheomikjaaGreatDoorRows
import Derived.Test.YthilboheomikjaaGreatDoorTie
import Derived.Test.YthilboheomikjaaGreatDoorCards
import Derived.WalkKit
import Derived.ProofKit
import Derived.Lay
import Derived.LaidOnce
import Derived.SevenTiedAt
import Derived.Lib.LaidU8
import Derived.OpenShut
import Derived.ShutString
import Derived.SizedLaws
namespace Go.Proofs.YthilboheomikjaaGreatDoor
open Go.AL Go.RowKit Go.Shelf Go.Lib Go.ChangeShapes Go.WideShapes Go.ChangeAt
set_option maxRecDepth 100000
set_option linter.unusedVariables false

theorem own : ownKnob Tryz.prog.godebug = none := by kernel_rfl
theorem first_eq : Go.Pinned.utf8First = firstData := by kernel_rfl
theorem accept_eq : (Rows.laid_unicode_utf8_acceptRanges : DataW Unit) = acceptData := by kernel_rfl

theorem u8x : U8Extra Tryz.prog Tryz.lays197_ren := ⟨by kernel_rfl, by kernel_rfl, by kernel_rfl, by kernel_rfl, by kernel_rfl, by kernel_rfl, by kernel_rfl⟩

/-- the cells of the tables -/
theorem sr_of_tabs {W : World} (h : Lib.Utf8Tabs 0 1 W) : Sr GL0 W (fun k => k < 2) (fun _ => none) [] := by
  have hb : ∀ {b o : Nat} {v : Value}, W.cell? ⟨b, o, none⟩ = some v → b < W.heap.size := fun {b o v} h => by
    simp only [World.cell?] at h
    cases hq : W.heap[b]? with
    | none => rw [hq] at h; cases h
    | some x => exact (Array.getElem?_eq_some_iff.1 hq).1
  refine ⟨fun g ps hg => ?_, (fun id o h1 => by cases h1), (fun id o b h1 => by cases h1), (fun id id' o o' b h1 => by cases h1), fun k hk => ?_⟩
  · match g, hg with
    | 0, hg =>
      cases hg
      refine ⟨by omega, fun j p hp => ?_⟩
      simp only [List.getElem?_map] at hp
      have hj : j < 256 := by
        rcases Nat.lt_or_ge j 256 with h | h
        · exact h
        · rw [List.getElem?_eq_none (by simpa using h)] at hp; cases hp
      rw [List.getElem?_range hj] at hp
      cases hp
      exact ⟨_, h.1 j hj, .int _ _⟩
    | 1, hg =>
      cases hg
      refine ⟨by omega, fun j p hp => ?_⟩
      simp only [List.getElem?_map] at hp
      have hj : j < 32 := by
        rcases Nat.lt_or_ge j 32 with h | h
        · exact h
        · rw [List.getElem?_eq_none (by simpa using h)] at hp; cases hp
      rw [List.getElem?_range hj] at hp
      cases hp
      obtain ⟨h1, h2⟩ := h.2 (j / 2) (by omega)
      rcases Nat.mod_two_eq_zero_or_one j with e | e
      · show ∃ u, _ ∧ PVr _ _ (PV.int IntKind.u8 (if j % 2 = 0 then _ else _)) u
        rw [if_pos e]
        have : 2 * (j / 2) = j := by omega
        rw [this] at h1
        exact ⟨_, h1, .int _ _⟩
      · show ∃ u, _ ∧ PVr _ _ (PV.int IntKind.u8 (if j % 2 = 0 then _ else _)) u
        rw [if_neg (by omega)]
        have : 2 * (j / 2) + 1 = j := by omega
        rw [this] at h2
        exact ⟨_, h2, .int _ _⟩
  · have : k = 0 ∨ k = 1 := by omega
    rcases this with rfl | rfl
    · exact hb (h.1 0 (by omega))
    · exact hb (h.2 0 (by omega)).1

/-- a call that comes to true, over the tables alone -/
theorem true_of_sim {f : FuncId} {args : List AT} {vs : List Value} {W : World} {I : Nat → Prop} (h : Sim Tryz.prog GL0 f args [] (one (.bool true)) []) (hs : Sr GL0 W I (fun _ => none) []) (ha : As W I (fun _ => none) (Go.AL.shape []) args vs) :
    Calls Tryz.prog f ⟨vs⟩ W fun e w' => e = .returned (.bool true) ∧ Below W.heap.size W w' := by
  refine Calls.imp (h W I (fun _ => none) vs hs ha) ?_
  rintro e w' ⟨v, I', G', rfl, h1, h2, h3, h4⟩
  have hb : v = .bool true := by
    obtain ⟨c, e, hr⟩ := h3; cases e; cases hr; rfl
  subst hb
  exact ⟨rfl, h1.os, h1.tape, h1.output, h1.size, fun k hk => h1.keep k hk fun ⟨id, o, q, _⟩ => by cases q⟩

theorem i64_bounds {n : Int} (h : (Lit.int .i64 n).wf = true) : -9223372036854775808 ≤ n ∧ n ≤ 9223372036854775807 := by
  simpa [Lit.wf, IntKind.min, IntKind.max, IntKind.signed, IntKind.bits] using h
end Go.Proofs.YthilboheomikjaaGreatDoor
