/- rex.Parse: the deferred closure. -/
import Derived.Test.YthilboheomikjaaGreatDoorG9
import Derived.WalkKit
import Derived.Defers
import Derived.Recover
namespace Go.Proofs.YthilboheomikjaaGreatDoor
open Go.AL Go.RowKit
set_option linter.unusedVariables false
set_option maxRecDepth 100000

theorem assert_nil (w : World) : (Instr.typeAssert .nilIface 20 70 true).run Tryz.prog w = .ok (.tuple #[.agg #[], .bool false]) w := by kernel_rfl
theorem assert_bad (w : World) : (Instr.typeAssert badV 20 70 true).run Tryz.prog w = .ok (.tuple #[.agg #[], .bool true]) w := by kernel_rfl

theorem catch_idle (p q : Addr) (w : World) :
    CallsD Tryz.prog 47 #[.pointer (some p), .pointer (some q)] .returning w fun e u' w' => e = .returned (.tuple #[]) ∧ u' = .returning ∧ w' = w.alloc (.cells #[] 70) := by
  refine callsD_of_wpS Tryz.func47 rfl fun c₀ cs hu => ?_
  apply wpS_seq
  apply wpS_region
  simp [wpOpsS, go_sem, recoverD, hu, Tryz.ntmps47, Exit.thenS, assert_nil, Oper.upon, Act.put]
  apply wpS_seq
  apply wpS_region
  simp [wpOpsS, go_sem, Exit.thenS, Oper.upon, Act.put]
  refine wpS_cond (t := false) (by simp [Act.eval, Array.replicate]) ?_
  simp only [Bool.false_eq_true, if_false]
  refine wpS_of_wp (wp_skip ?_)
  cases c₀
  simp_all [bodyPostS, results, Tryz.results47, Exit.thenS]

theorem catch_bad (p q : Addr) (w : World) (w1 w2 : World) (h1 : (Instr.storeAt 35 (.pointer (some p)) (.agg #[.int .i64 0, .slice none 0 0, .slice none 0 0, .int .i64 0, .int .i64 0])).run Tryz.prog (w.alloc (.cells #[] 70)) = .ok () w1)
    (h2 : (Instr.storeAt 3 (.pointer (some q)) (.int .i64 3)).run Tryz.prog w1 = .ok () w2) :
    CallsD Tryz.prog 47 #[.pointer (some p), .pointer (some q)] (.panicking (thrown badV)) w fun e u' w' => e = .returned (.tuple #[]) ∧ u' = .panicking [{ v := badV, recovered := true }] ∧ w' = w2 := by
  refine callsD_of_wpS Tryz.func47 rfl fun c₀ cs hu => ?_
  apply wpS_seq
  apply wpS_region
  have hb : badV = .iface 70 (.agg #[]) := rfl
  simp [wpOpsS, go_sem, recoverD, hu, Tryz.ntmps47, Exit.thenS, assert_bad, Oper.upon, Act.put, thrown]
  apply wpS_seq
  apply wpS_region
  simp [wpOpsS, go_sem, Exit.thenS, Oper.upon, Act.put]
  refine wpS_cond (t := true) (by simp [Act.eval, Array.replicate]) ?_
  simp only [if_true]
  have hbld : ∀ W : World, (Instr.build 35 #[]).run Tryz.prog W = .ok (.agg #[.int .i64 0, .slice none 0 0, .slice none 0 0, .int .i64 0, .int .i64 0]) W := fun W => by kernel_rfl
  apply wpS_region
  simp [wpOpsS, execOp, Exit.thenS, Oper.upon, Act.put, hbld, Act.eval, h1, h2, Region.wanted, Array.replicate, show List.range 3 = [0, 1, 2] from rfl]
  exact ⟨rfl, _, rfl, .tuple #[], by simp [results, Tryz.results47], rfl, rfl, rfl⟩
end Go.Proofs.YthilboheomikjaaGreatDoor
