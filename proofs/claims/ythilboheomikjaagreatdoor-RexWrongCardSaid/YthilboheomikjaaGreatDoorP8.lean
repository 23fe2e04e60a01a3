/- rex.Machine and its places, as Lean has them. -/
import Derived.Test.YthilboheomikjaaGreatDoorG8
namespace Go.Proofs.YthilboheomikjaaGreatDoor
open Go.AL
set_option linter.unusedVariables false

/-- f_x: the capacity of f_next is its length (while a machine is built) -/
structure rex_node where
  f_set : List api_Range
  f_some : Bool
  f_next : List Int
  f_x : Bool
def e_rex_node (x : rex_node) : List PV := [.sl (x.f_set.map e_api_Range), .bool x.f_some, .sl (x.f_next.map (eInt .i64))]
def eg_rex_node (x : rex_node) : List PV := [.sl (x.f_set.map e_api_Range), .bool x.f_some, cond x.f_x (.slc (x.f_next.map (eInt .i64))) (.sl (x.f_next.map (eInt .i64)))]
theorem len_rex_node (l : List rex_node) : ∀ es, es ∈ l.map e_rex_node → es.length = 3 := fun es h => by obtain ⟨y, _, rfl⟩ := List.mem_map.1 h; rfl
theorem leng_rex_node (l : List rex_node) : ∀ es, es ∈ l.map eg_rex_node → es.length = 3 := fun es h => by obtain ⟨y, _, rfl⟩ := List.mem_map.1 h; rfl
structure rex_Machine where
  f_nodes : List rex_node
  f_first : Int
def e_rex_Machine (x : rex_Machine) : List PV := [.sl (x.f_nodes.map e_rex_node), .int .i64 x.f_first]
end Go.Proofs.YthilboheomikjaaGreatDoor
