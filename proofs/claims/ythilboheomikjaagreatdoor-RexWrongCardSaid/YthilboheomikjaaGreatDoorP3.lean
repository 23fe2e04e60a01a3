/- slices.Clone of ranges. -/
import Derived.Test.YthilboheomikjaaGreatDoorA23
import Derived.Test.YthilboheomikjaaGreatDoorG6
namespace Go.Proofs.YthilboheomikjaaGreatDoor
open Go.AL Go.RowKit
set_option linter.unusedVariables false
set_option maxRecDepth 100000

def F102 (k : Nat) (l : List api_Range) : Option (List api_Range) := if l.length ≤ 1073741824 then some l else none
theorem F102_ok (k : Nat) (v0 : List api_Range) (r : List api_Range) (hF : F102 k v0 = some r) : Sim Tryz.prog GL0 102 [one (.sl (v0.map e_api_Range))] [] (.val false [.arr 0 r.length]) [.arr 2 (r.map e_api_Range)] := by
  obtain ⟨hl, hF⟩ := if_some hF
  obtain rfl := Option.some.inj hF
  refine sim_of [900] Tryz.func102 rfl (by kernel_rfl) (by kernel_rfl) ?_
  show WA _ _ 8 _ _ _
  refine WA.seq ?_
  refine WA.reg [0] [] [] (env' := [(0, one (.sl (v0.map e_api_Range)))]) (os' := []) (O := []) (by kernel_rfl) (sound _ _) trivial ?_
  refine WA.seq ?_
  refine WA.seq ?_
  refine WA.nilTest (e := 60) (els := v0.map e_api_Range) rfl (by kernel_rfl) (by kernel_rfl) (by kernel_rfl) fun b hb => ?_
  refine WA.cond (b := b) rfl (fun hb' => ?_) (fun hb' => ?_)
  · have h0 : v0 = [] := List.map_eq_nil_iff.1 (hb hb')
    subst h0
    refine WA.seq ?_
    refine WA.reg [2] [900] [(0, .obj 900)] (env' := [(2, .val false [.arr 900 0])]) (os' := [(900, .arr 2 [])]) (O := []) (by kernel_rfl) (sound _ _) trivial ?_
    refine WA.ret ?_
    exact out_ret (.val false [.arr 900 0]) [.arr 2 []] (by kernel_rfl) (by kernel_rfl) (by kernel_rfl) (by kernel_rfl) (by decide) rfl rfl
  · refine WA.skip ?_
    refine WA.seq ?_
    refine WA.regM (α := Nat × List (List PV)) (raw := (0 + (v0.map e_api_Range).length, [] ++ v0.map e_api_Range)) (can := (v0.length, v0.map e_api_Range)) (fun m_ => ([(2, .val false [.arr 900 m_.1])], [(900, .arr 2 m_.2)], [0 = ([] : List (List PV)).length, ([] : List (List PV)).length + (v0.map e_api_Range).length ≤ 1073741824, ∀ es, es ∈ v0.map e_api_Range → es.length = 2]))
      (pair_eq (by simp) (by simp)) [2] [900] [(0, .obj 900)] (env' := [(2, .val false [.arr 900 v0.length])]) (os' := [(900, .arr 2 (v0.map e_api_Range))]) (O := [0 = ([] : List (List PV)).length, ([] : List (List PV)).length + (v0.map e_api_Range).length ≤ 1073741824, ∀ es, es ∈ v0.map e_api_Range → es.length = 2]) (by kernel_rfl) (by kernel_rfl) (sound _ _) ⟨rfl, by simpa using hl, len_api_Range v0, trivial⟩ ?_
    refine WA.ret ?_
    exact out_ret (.val false [.arr 900 v0.length]) [.arr 2 (v0.map e_api_Range)] (by kernel_rfl) (by kernel_rfl) (by kernel_rfl) (by kernel_rfl) (by decide) rfl rfl
end Go.Proofs.YthilboheomikjaaGreatDoor
