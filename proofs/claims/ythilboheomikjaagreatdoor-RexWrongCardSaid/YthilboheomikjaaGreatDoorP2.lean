/- More promises of library functions. -/
import Derived.Test.YthilboheomikjaaGreatDoorP1
import Derived.Test.YthilboheomikjaaGreatDoorA22
import Derived.Shelf.Strings.Runes
namespace Go.Proofs.YthilboheomikjaaGreatDoor
open Go.AL Go.RowKit
set_option linter.unusedVariables false

/-- what rex's reader throws -/
def badV : Value := .iface 70 (.agg #[])

/-- strings.ContainsRune, of an ASCII one -/
def F141 (k : Nat) (s : List UInt8) (r : Int) : Option Bool := if 0 ≤ r ∧ r < 128 then some (decide (0 ≤ Lib.indexByte s r.toNat.toUInt8)) else none
theorem F141_ok (k : Nat) (v0 : List UInt8) (v1 : Int) (r : Bool) (hF : F141 k v0 v1 = some r) : Sim Tryz.prog GL0 141 [one (.str v0), one (.int .i32 v1)] [] (one (.bool r)) [] := by
  obtain ⟨hl, hF⟩ := if_some hF
  obtain rfl := Option.some.inj hF
  refine sim_below fun w I G vs hs ha => ?_
  obtain ⟨vs, rfl, hb⟩ := as_str ha; clear ha; have ha := hb; clear hb
  obtain ⟨vs, rfl, hb⟩ := as_int ha; clear ha; have ha := hb; clear hb
  obtain rfl := as_nil ha
  refine Calls.imp (Any.strings_ContainsRune_ascii Tryz.lays151 ⟨v0.toArray⟩ v1 w hl.1 hl.2) ?_
  rintro e w' ⟨rfl, rfl⟩
  exact ⟨_, rfl, fun _ _ _ _ => ⟨_, rfl, .bool _⟩, .refl _ _⟩
end Go.Proofs.YthilboheomikjaaGreatDoor
