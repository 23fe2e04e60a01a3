import Derived.Test.YthilboheomikjaaGreatDoorP9
namespace Go.Proofs.YthilboheomikjaaGreatDoor
open Go.AL
set_option linter.unusedVariables false
set_option linter.unusedSimpArgs false
set_option maxRecDepth 100000

/-! entrepot rex.Match -/
def F31_b1 (k : Nat) (self1 : (List Int) → Int → Option Bool) (v1 : List UInt8) (y106 : rex_Machine) (v116 : List Int) (v117 : Int) : Option Bool :=
  (cond (decide (v117 < (v1.length : Int))) ((F55 k v1 v117).bind fun y119 => (F56 k y106 v116 y119.1).bind fun y120 => (self1 y120 (w64 (v117 + y119.2)))) ((F57 k y106 v116).bind fun y121 => (some y121)))
def F31_l1 (k : Nat) (v1 : List UInt8) (y106 : rex_Machine) : Nat → (List Int) → Int → Option Bool
  | 0, _, _ => none
  | m_ + 1, v116, v117 => F31_b1 k (F31_l1 k v1 y106 m_) v1 y106 v116 v117
def F31_j0 (k : Nat) (v0 : api_Re) (v1 : List UInt8) (v104 : Bool) : Option Bool :=
  cond v104 ((some false)) ((F53 k v0).bind fun y106 => (F54 k y106).bind fun y107 => ((F31_l1 k v1 y106 k y107 0)))
def F31 (k : Nat) (v0 : api_Re) (v1 : List UInt8) : Option Bool :=
  (F30 k v0).bind fun y101 => cond (!y101) ((F31_j0 k v0 v1 true)) ((F49 k v1).bind fun y103 => (F31_j0 k v0 v1 (!y103)))
theorem F31_ok (k : Nat) (v0 : api_Re) (v1 : List UInt8) (r : Bool) (hF : F31 k v0 v1 = some r) : Sim Tryz.prog GL0 31 [.val true (pvL (e_api_Re v0)), one (.str v1)] [] (one (.bool r)) [] := by
  refine sim_of [] Tryz.func31 rfl (by kernel_rfl) (by kernel_rfl) ?_
  show WA _ _ 42 _ _ _
  refine WA.seq ?_
  refine WA.reg [1, 2] [102] [(0, .obj 102)] (env' := [(1, one (.str v1)), (2, .val false [.ptr 102 1 0 0])]) (os' := [(102, .box (pvL (e_api_Re v0)))]) (O := []) (by kernel_rfl) (sound _ _) trivial ?_
  refine WA.seq ?_
  refine WA.join (fun s_ => ∃ (v104 : Bool), pickE s_.env [1, 2, 17] = [(1, one (.str v1)), (2, .val false [.ptr 102 1 0 0]), (17, one (.bool v104))] ∧ pickE s_.os [102] = [(102, .box (pvL (e_api_Re v0)))] ∧ F31_j0 k v0 v1 v104 = some r) ?_ ?_
  · rintro s_ ⟨v104, he, ho, hF⟩
    refine WA.keep _ _ he ho ?_
    clear he ho
    refine WA.cond (b := v104) rfl (fun hb105 => ?_) (fun hb105 => ?_)
    · have hF := cond_t hF hb105
      refine WA.seq ?_
      refine WA.reg [4] [] [] (env' := [(4, one (.bool false))]) (os' := []) (O := []) (by kernel_rfl) (sound _ _) trivial ?_
      refine WA.ret ?_
      obtain rfl := Option.some.inj hF
      exact out_ret (one (.bool false)) [] (by kernel_rfl) (by kernel_rfl) (by kernel_rfl) (by kernel_rfl) (by decide) rfl rfl
    · have hF := cond_f hF hb105
      refine WA.skip ?_
      refine WA.seq ?_
      obtain ⟨y106, hy106, hF⟩ := bind_some hF
      refine WA.reg [1, 5] [] [(1, .callR [] (.val false [.vp (e_rex_Machine y106)]))] (env' := [(1, one (.str v1)), (5, .val false [.vp (e_rex_Machine y106)])]) (os' := []) (O := [Sim Tryz.prog GL0 53 [.val true (pvL (e_api_Re v0))] [] (.val false [.vp (e_rex_Machine y106)]) [], ([] : List Nat).Nodup]) (by kernel_rfl) (sound _ _) ⟨(F53_ok k _ _ hy106), (by decide), trivial⟩ ?_
      refine WA.seq ?_
      obtain ⟨y107, hy107, hF⟩ := bind_some hF
      refine WA.reg [1, 5, 6] [] [(1, .callR [] (one (.sl (y107.map (eInt .i64)))))] (env' := [(1, one (.str v1)), (5, .val false [.vp (e_rex_Machine y106)]), (6, one (.sl (y107.map (eInt .i64))))]) (os' := []) (O := [Sim Tryz.prog GL0 54 [.val false [.vp (e_rex_Machine y106)]] [] (one (.sl (y107.map (eInt .i64)))) [], ([] : List Nat).Nodup]) (by kernel_rfl) (sound _ _) ⟨(F54_ok k _ _ hy107), (by decide), trivial⟩ ?_
      refine WA.seq ?_
      refine WA.seq ?_
      refine WA.reg [1, 5, 6, 7] [] [] (env' := [(1, one (.str v1)), (5, .val false [.vp (e_rex_Machine y106)]), (6, one (.sl (y107.map (eInt .i64)))), (7, one (.int .i64 0))]) (os' := []) (O := []) (by kernel_rfl) (sound _ _) trivial ?_
      refine WA.block ?_
      refine WA.loop (fun m s_ => ∃ (v116 : List Int) (v117 : Int), pickE s_.env [1, 5, 6, 7] = [(1, one (.str v1)), (5, .val false [.vp (e_rex_Machine y106)]), (6, one (.sl (v116.map (eInt .i64)))), (7, one (.int .i64 v117))] ∧ pickE s_.os [] = [] ∧ F31_l1 k v1 y106 m v116 v117 = some r) k ⟨y107, 0, by kernel_rfl, by kernel_rfl, hF⟩ ?_
      clear hF
      rintro m1 s_ ⟨v116, v117, he, ho, hF⟩
      refine WA.keep _ _ he ho ?_
      clear he ho
      cases m1 with
      | zero => cases hF
      | succ m1 =>
        obtain ⟨self1, hself1⟩ : ∃ g, g = F31_l1 k v1 y106 m1 := ⟨_, rfl⟩
        have hF : F31_b1 k self1 v1 y106 v116 v117 = some r := by first | (rw [hself1]; exact hF) | exact hF
        refine WA.seq ?_
        refine WA.seq ?_
        refine WA.reg [1, 5, 6, 7, 25] [] [] (env' := [(1, one (.str v1)), (5, .val false [.vp (e_rex_Machine y106)]), (6, one (.sl (v116.map (eInt .i64)))), (7, one (.int .i64 v117)), (25, one (.bool (decide (v117 < (v1.length : Int)))))]) (os' := []) (O := []) (by kernel_rfl) (sound _ _) trivial ?_
        refine WA.cond (b := (decide (v117 < (v1.length : Int)))) rfl (fun hb118 => ?_) (fun hb118 => ?_)
        · have hF := cond_t hF hb118
          refine WA.skip ?_
          refine WA.block ?_
          refine WA.seq ?_
          obtain ⟨y119, hy119, hF⟩ := bind_some hF
          refine WA.reg [1, 5, 6, 7, 8, 9] [] [(2, .callR [] (.tup [(false, [.pv (.int .i64 y119.1)]), (false, [.pv (.int .i64 y119.2)])]))] (env' := [(1, one (.str v1)), (5, .val false [.vp (e_rex_Machine y106)]), (6, one (.sl (v116.map (eInt .i64)))), (7, one (.int .i64 v117)), (8, one (.int .i64 y119.1)), (9, one (.int .i64 y119.2))]) (os' := []) (O := [Sim Tryz.prog GL0 55 [one (.str v1), one (.int .i64 v117)] [] (.tup [(false, [.pv (.int .i64 y119.1)]), (false, [.pv (.int .i64 y119.2)])]) [], ([] : List Nat).Nodup]) (by kernel_rfl) (sound _ _) ⟨(F55_ok k _ _ _ hy119), (by decide), trivial⟩ ?_
          refine WA.seq ?_
          obtain ⟨y120, hy120, hF⟩ := bind_some hF
          refine WA.reg [1, 5, 6, 7, 9] [] [(3, .callR [] (one (.sl (y120.map (eInt .i64)))))] (env' := [(1, one (.str v1)), (5, .val false [.vp (e_rex_Machine y106)]), (6, one (.sl (y120.map (eInt .i64)))), (7, one (.int .i64 v117)), (9, one (.int .i64 y119.2))]) (os' := []) (O := [Sim Tryz.prog GL0 56 [.val false [.vp (e_rex_Machine y106)], one (.sl (v116.map (eInt .i64))), one (.int .i64 y119.1)] [] (one (.sl (y120.map (eInt .i64)))) [], ([] : List Nat).Nodup]) (by kernel_rfl) (sound _ _) ⟨(F56_ok k _ _ _ _ hy120), (by decide), trivial⟩ ?_
          refine WA.reg [1, 5, 6, 7] [] [] (env' := [(1, one (.str v1)), (5, .val false [.vp (e_rex_Machine y106)]), (6, one (.sl (y120.map (eInt .i64)))), (7, one (.int .i64 (w64 (v117 + y119.2))))]) (os' := []) (O := []) (by kernel_rfl) (sound _ _) trivial ?_
          exact ⟨m1, Nat.lt_succ_self _, y120, (w64 (v117 + y119.2)), by kernel_rfl, by kernel_rfl, by rw [hself1] at hF; exact hF⟩
        · have hF := cond_f hF hb118
          refine WA.exit ?_
          refine WA.seq ?_
          obtain ⟨y121, hy121, hF⟩ := bind_some hF
          refine WA.reg [4] [] [(2, .callR [] (one (.bool y121)))] (env' := [(4, one (.bool y121))]) (os' := []) (O := [Sim Tryz.prog GL0 57 [.val false [.vp (e_rex_Machine y106)], one (.sl (v116.map (eInt .i64)))] [] (one (.bool y121)) [], ([] : List Nat).Nodup]) (by kernel_rfl) (sound _ _) ⟨(F57_ok k _ _ _ hy121), (by decide), trivial⟩ ?_
          refine WA.ret ?_
          obtain rfl := Option.some.inj hF
          exact out_ret (one (.bool y121)) [] (by kernel_rfl) (by kernel_rfl) (by kernel_rfl) (by kernel_rfl) (by decide) rfl rfl
  · obtain ⟨y101, hy101, hF⟩ := bind_some hF
    rcases Bool.eq_false_or_eq_true (!y101) with hb102 | hb102
    · have hF := cond_t hF hb102
      refine WA.reg [1, 2, 17] [102] [(1, .callR [] (one (.bool y101))), (3, .bool true)] (env' := [(1, one (.str v1)), (2, .val false [.ptr 102 1 0 0]), (17, one (.bool true))]) (os' := [(102, .box (pvL (e_api_Re v0)))]) (O := [Sim Tryz.prog GL0 30 [.val true (pvL (e_api_Re v0))] [] (one (.bool y101)) [], ([] : List Nat).Nodup, (!y101) = true]) (by kernel_rfl) (sound _ _) ⟨(F30_ok k _ _ hy101), (by decide), hb102, trivial⟩ ?_
      exact ⟨true, by kernel_rfl, by kernel_rfl, hF⟩
    · have hF := cond_f hF hb102
      obtain ⟨y103, hy103, hF⟩ := bind_some hF
      refine WA.reg [1, 2, 17] [102] [(1, .callR [] (one (.bool y101))), (3, .bool false), (5, .callR [] (one (.bool y103)))] (env' := [(1, one (.str v1)), (2, .val false [.ptr 102 1 0 0]), (17, one (.bool (!y103)))]) (os' := [(102, .box (pvL (e_api_Re v0)))]) (O := [Sim Tryz.prog GL0 30 [.val true (pvL (e_api_Re v0))] [] (one (.bool y101)) [], ([] : List Nat).Nodup, (!y101) = false, Sim Tryz.prog GL0 49 [one (.str v1)] [] (one (.bool y103)) [], ([] : List Nat).Nodup]) (by kernel_rfl) (sound _ _) ⟨(F30_ok k _ _ hy101), (by decide), hb102, (F49_ok k _ _ hy103), (by decide), trivial⟩ ?_
      exact ⟨(!y103), by kernel_rfl, by kernel_rfl, hF⟩
end Go.Proofs.YthilboheomikjaaGreatDoor
