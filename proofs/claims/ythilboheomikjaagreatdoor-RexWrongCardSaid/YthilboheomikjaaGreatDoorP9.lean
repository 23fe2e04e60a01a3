/- rex.Compile, Machine.Begin. -/
import Derived.Test.YthilboheomikjaaGreatDoorG10
import Derived.Test.YthilboheomikjaaGreatDoorG11
import Derived.Test.YthilboheomikjaaGreatDoorA25
namespace Go.Proofs.YthilboheomikjaaGreatDoor
open Go.AL
set_option linter.unusedVariables false
set_option maxRecDepth 100000

def F53 (k : Nat) (v0 : api_Re) : Option rex_Machine :=
  (F78 k ⟨[⟨[], false, [], false⟩], 0⟩ v0 0).bind fun y => if y.2.f_nodes.all (fun n => !n.f_x) = true then some ⟨y.2.f_nodes, y.1⟩ else none

theorem plain_nodes {l : List rex_node} (h : l.all (fun n => !n.f_x) = true) : l.map eg_rex_node = l.map e_rex_node := by
  refine List.map_congr_left fun x hx => ?_
  have := List.all_eq_true.1 h x hx
  simp only [Bool.not_eq_true'] at this
  simp only [eg_rex_node, e_rex_node, this, cond]

theorem F53_ok (k : Nat) (v0 : api_Re) (r : rex_Machine) (hF : F53 k v0 = some r) : Sim Tryz.prog GL0 53 [.val true (pvL (e_api_Re v0))] [] (.val false [.vp (e_rex_Machine r)]) [] := by
  refine sim_of [] Tryz.func53 rfl (by kernel_rfl) (by kernel_rfl) ?_
  show WA _ _ 18 _ _ _
  obtain ⟨y, hy, hF⟩ := bind_some hF
  obtain ⟨hc, hF⟩ := if_some hF
  obtain rfl := Option.some.inj hF
  refine WA.seq ?_
  refine WA.reg [1] [101] [(0, .obj 101)] (env' := [(1, .val false [.ptr 101 1 0 0])]) (os' := [(101, .box (pvL (e_api_Re v0)))]) (O := []) (by kernel_rfl) (sound _ _) trivial ?_
  refine WA.seq ?_
  refine WA.reg [1, 3] [101, 105] [(1, .obj 105)] (env' := [(1, .val false [.ptr 101 1 0 0]), (3, .val false [.ptr 105 1 0 0])]) (os' := [(101, .box (pvL (e_api_Re v0))), (105, .box (pvL [.sl [], .int .i64 0]))]) (O := []) (by kernel_rfl) (sound _ _) trivial ?_
  refine WA.seq ?_
  refine WA.reg [1, 3] [101, 105, 108] [(2, .obj 108)] (env' := [(1, .val false [.ptr 101 1 0 0]), (3, .val false [.ptr 105 1 0 0])]) (os' := [(101, .box (pvL (e_api_Re v0))), (105, .box [.arr 108 1, .pv (.int .i64 0)]), (108, .arr 3 [[.sl [], .bool false, .sl []]])]) (O := []) (by kernel_rfl) (sound _ _) trivial ?_
  refine WA.seq ?_
  refine WA.reg [3] [105, 108] [(3, .call [105, 108] (one (.int .i64 y.1)) [.box [.arr 1 y.2.f_nodes.length, .pv (.int .i64 y.2.f_first)], .arr 3 (y.2.f_nodes.map eg_rex_node)] [])] (env' := [(3, .val false [.ptr 105 1 0 0])]) (os' := [(105, .box [.arr 108 y.2.f_nodes.length, .pv (.int .i64 y.1)]), (108, .arr 3 (y.2.f_nodes.map eg_rex_node))])
    (O := [Sim Tryz.prog GL0 78 [.val false [.ptr 0 1 0 0], .val true (pvL (e_api_Re v0)), one (.int .i64 0)] [.box [.arr 1 1, .pv (.int .i64 0)], .arr 3 [[.sl [], .bool false, .sl []]]] (one (.int .i64 y.1)) [.box [.arr 1 y.2.f_nodes.length, .pv (.int .i64 y.2.f_first)], .arr 3 (y.2.f_nodes.map eg_rex_node)], ([105, 108] : List Nat).Nodup]) (by kernel_rfl) (sound _ _) ⟨F78_ok k _ _ _ _ hy, by decide, trivial⟩ ?_
  refine WA.seq ?_
  refine WA.reg [2] [105, 108] [] (env' := [(2, .val false [.ptr 105 1 0 0])]) (os' := [(105, .box [.arr 108 y.2.f_nodes.length, .pv (.int .i64 y.1)]), (108, .arr 3 (y.2.f_nodes.map eg_rex_node))]) (O := []) (by kernel_rfl) (sound _ _) trivial ?_
  refine WA.freezeM 105 108 2 (s := 3) (n := y.2.f_nodes.length) (els := y.2.f_nodes.map eg_rex_node) (p := .int .i64 y.1) rfl rfl rfl (by rw [List.length_map]) (by decide) ?_
  rw [plain_nodes hc]
  refine WA.ret ?_
  exact out_ret (.val false [.vp (e_rex_Machine ⟨y.2.f_nodes, y.1⟩)]) [] (by kernel_rfl) (by kernel_rfl) (by kernel_rfl) (by kernel_rfl) (by decide) rfl rfl

def F54 (k : Nat) (v0 : rex_Machine) : Option (List Int) :=
  if (v0.f_nodes.length : Int) ≤ 1073741824 then (F79 k v0 [] (List.replicate v0.f_nodes.length false) v0.f_first).bind fun y => some y.1 else none

theorem F54_ok (k : Nat) (v0 : rex_Machine) (r : List Int) (hF : F54 k v0 = some r) : Sim Tryz.prog GL0 54 [.val false [.vp (e_rex_Machine v0)]] [] (one (.sl (r.map (eInt .i64)))) [] := by
  refine sim_of [] Tryz.func54 rfl (by kernel_rfl) (by kernel_rfl) ?_
  show WA _ _ 15 _ _ _
  obtain ⟨hc, hF⟩ := if_some hF
  obtain ⟨y, hy, hF⟩ := bind_some hF
  obtain rfl := Option.some.inj hF
  refine WA.seq ?_
  refine WA.reg [0] [] [] (env' := [(0, .val false [.vp (e_rex_Machine v0)])]) (os' := []) (O := []) (by kernel_rfl) (sound _ _) trivial ?_
  refine WA.seq ?_
  have hl : (List.replicate (Int.toNat ((v0.f_nodes.map e_rex_node).length : Int)) [PV.bool false]) = (List.replicate v0.f_nodes.length false).map eBool := by
    rw [List.length_map, Int.toNat_natCast, List.map_replicate]; rfl
  have hn : Int.toNat ((v0.f_nodes.map e_rex_node).length : Int) = (List.replicate v0.f_nodes.length false).length := by simp
  refine WA.regD (by kernel_rfl) [2] [] [(6, .obj 109), (11, .call [109] (one (.sl (y.1.map (eInt .i64)))) [.arr 1 (y.2.map eBool)] [])] (env' := [(2, one (.sl (y.1.map (eInt .i64))))]) (os' := [])
    (O := [((v0.f_nodes.map e_rex_node).length : Int) = (v0.f_nodes.map e_rex_node).length, (0 : Int) ≤ ((v0.f_nodes.map e_rex_node).length : Int), ((v0.f_nodes.map e_rex_node).length : Int) ≤ 1073741824,
      Sim Tryz.prog GL0 79 [.val false [.vp (e_rex_Machine v0)], one .nils, .val false [.arr 0 (Int.toNat ((v0.f_nodes.map e_rex_node).length : Int))], one (.int .i64 v0.f_first)] [.arr 1 (List.replicate (Int.toNat ((v0.f_nodes.map e_rex_node).length : Int)) [PV.bool false])] (one (.sl (y.1.map (eInt .i64)))) [.arr 1 (y.2.map eBool)], ([109] : List Nat).Nodup])
    (by kernel_rfl) (by kernel_rfl) (sound _ _) ⟨rfl, by omega, by simpa using hc, ?_, by decide, trivial⟩ ?_
  · rw [hl]
    exact sim_nilnew (List.length_map _).symm ⟨trivial, trivial⟩ ⟨trivial, trivial⟩ (F79_ok k _ _ _ _ _ hy (n1 := 0) rfl hn)
  · refine WA.ret ?_
    exact out_ret (one (.sl (y.1.map (eInt .i64)))) [] (by kernel_rfl) (by kernel_rfl) (by kernel_rfl) (by kernel_rfl) (by decide) rfl rfl
end Go.Proofs.YthilboheomikjaaGreatDoor
