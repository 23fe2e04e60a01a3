/- math/bits.Len, of what is small. -/
import Derived.Test.YthilboheomikjaaGreatDoorP1
import Derived.Test.YthilboheomikjaaGreatDoorL2
namespace Go.Proofs.YthilboheomikjaaGreatDoor
open Go.AL Go.RowKit
set_option linter.unusedVariables false

def F112 (k : Nat) (n : Int) : Option Int := if 0 ≤ n ∧ n < 18446744073709551616 then some (Lib.bitLen n.toNat : Nat) else none
theorem F112_ok (k : Nat) (v0 : Int) (r : Int) (hF : F112 k v0 = some r) : Sim Tryz.prog GL0 112 [one (.int .u64 v0)] [] (one (.int .i64 r)) [] := by
  obtain ⟨hl, hF⟩ := if_some hF
  obtain rfl := Option.some.inj hF
  refine sim_below fun w I G vs hs ha => ?_
  obtain ⟨vs, rfl, hb⟩ := as_int ha; clear ha; have ha := hb; clear hb
  obtain rfl := as_nil ha
  refine Calls.imp (Any.bits_Len Tryz.lays125 v0 w (by omega) (by omega)) ?_
  rintro e w' ⟨rfl, rfl⟩
  exact ⟨_, rfl, fun _ _ _ _ => ⟨_, rfl, .int _ _⟩, .refl _ _⟩
end Go.Proofs.YthilboheomikjaaGreatDoor
