/- RexWrong: the plain law: by the kernel's own reckoning, at each letter and each way. -/
import Derived.Test.YthilboheomikjaaGreatDoorG14
namespace Go.Proofs.YthilboheomikjaaGreatDoor.Pure
open Go.AL
set_option maxRecDepth 100000

/-- a number of 64 bits, taken to a rest -/
theorem rest_again (a : Int) (m : Int) (hm : 0 < m) (hm2 : m ≤ 1000) : (IntKind.wrap .u64 (Int.tmod (IntKind.wrap .u64 a) m)).tmod m = Int.tmod (IntKind.wrap .u64 a) m ∧ 0 ≤ Int.tmod (IntKind.wrap .u64 a) m ∧ Int.tmod (IntKind.wrap .u64 a) m < m := by
  have h0 : 0 ≤ IntKind.wrap .u64 a := by simp [IntKind.wrap, IntKind.bits, IntKind.signed]; omega
  have h1 : 0 ≤ Int.tmod (IntKind.wrap .u64 a) m := Int.tmod_nonneg _ h0
  have h2 : Int.tmod (IntKind.wrap .u64 a) m < m := Int.tmod_lt_of_pos _ hm
  generalize Int.tmod (IntKind.wrap .u64 a) m = x at h1 h2
  have e : IntKind.wrap .u64 x = x := by simp [IntKind.wrap, IntKind.bits, IntKind.signed]; omega
  exact ⟨by rw [e]; exact Int.tmod_eq_of_lt h1 h2, h1, h2⟩

theorem wrong_all : ((List.range 26).all fun i => (List.range 25).all fun j => F13 300 (i : Int) (j : Int) == some true) = true := by kernel_rfl

theorem RexWrong (a b : Int) (_ : -9223372036854775808 ≤ a ∧ a ≤ 9223372036854775807) (_ : -9223372036854775808 ≤ b ∧ b ≤ 9223372036854775807) : ∃ k, F13 k a b = some true := by
  obtain ⟨ea, a0, a1⟩ := rest_again a 26 (by omega) (by omega)
  obtain ⟨eb, b0, b1⟩ := rest_again b 25 (by omega) (by omega)
  refine ⟨300, ?_⟩
  have e : F13 300 a b = F13 300 (Int.tmod (IntKind.wrap .u64 a) 26) (Int.tmod (IntKind.wrap .u64 b) 25) := by
    have eb' : ∀ l : List (List UInt8), l.length = 25 → Int.tmod (IntKind.wrap .u64 (Int.tmod (IntKind.wrap .u64 b) 25)) (IntKind.wrap .u64 (l.length : Int)) = Int.tmod (IntKind.wrap .u64 b) (IntKind.wrap .u64 (l.length : Int)) := fun l hl => by
      rw [hl, show IntKind.wrap .u64 ((25 : Nat) : Int) = 25 from by kernel_rfl]; exact eb
    unfold F13
    rw [ea, eb' _ rfl]
  rw [e]
  generalize Int.tmod (IntKind.wrap .u64 a) 26 = x at a0 a1
  generalize Int.tmod (IntKind.wrap .u64 b) 25 = y at b0 b1
  obtain ⟨i, rfl⟩ := Int.eq_ofNat_of_zero_le a0
  obtain ⟨j, rfl⟩ := Int.eq_ofNat_of_zero_le b0
  have h := List.all_eq_true.1 wrong_all i (List.mem_range.2 (by omega))
  have h := List.all_eq_true.1 h j (List.mem_range.2 (by omega))
  exact of_decide_eq_true (by simpa using h)
end Go.Proofs.YthilboheomikjaaGreatDoor.Pure
