import Derived.Test.YthilboheomikjaaGreatDoorG12
import Derived.Test.YthilboheomikjaaGreatDoorP7
namespace Go.Proofs.YthilboheomikjaaGreatDoor
open Go.AL
set_option linter.unusedVariables false
set_option linter.unusedSimpArgs false
set_option maxRecDepth 100000

/-! entrepot entrepotlaw10.told -/
def F26_j0 (v122 : Bool) : Option Bool :=
  some v122
def F26 (k : Nat) : Option Bool :=
  (F27 k ([97, 123, 50, 125] : List UInt8)).bind fun y101 => (F27 k ([97, 42, 42] : List UInt8)).bind fun y102 => (F27 k ([97, 123, 50, 49, 125] : List UInt8)).bind fun y103 => (cond (y101.2 == 0) (cond (y101.1.f_Kind == 4) (cond (y101.1.f_Min == 2) (cond (y101.1.f_Max == 2) (cond (y102.2 == 3) (cond (y103.2 == 8) ((F31 k y101.1 ([97, 97] : List UInt8)).bind fun y110 => cond y110 ((F31 k y101.1 ([97] : List UInt8)).bind fun y112 => cond (!y112) ((F34 k).bind fun y114 => (F31 k y114 ([120, 195, 169] : List UInt8)).bind fun y115 => cond y115 ((F33 k ([97, 46, 98] : List UInt8)).bind fun y117 => (F31 k y117 ([97, 46, 98] : List UInt8)).bind fun y118 => cond y118 ((F33 k ([97, 46, 98] : List UInt8)).bind fun y120 => (F31 k y120 ([97, 120, 98] : List UInt8)).bind fun y121 => (F26_j0 (!y121))) ((F26_j0 false))) ((F26_j0 false))) ((F26_j0 false))) ((F26_j0 false))) ((F26_j0 false))) ((F26_j0 false))) ((F26_j0 false))) ((F26_j0 false))) ((F26_j0 false))) ((F26_j0 false)))
theorem F26_ok (k : Nat) (r : Bool) (hF : F26 k = some r) : Sim Tryz.prog GL0 26 [] [] (one (.bool r)) [] := by
  refine sim_of [] Tryz.func26 rfl (by kernel_rfl) (by kernel_rfl) ?_
  show WA _ _ 66 _ _ _
  refine WA.seq ?_
  refine WA.reg [] [] [] (env' := []) (os' := []) (O := []) (by kernel_rfl) (sound _ _) trivial ?_
  refine WA.seq ?_
  obtain ⟨y101, hy101, hF⟩ := bind_some hF
  refine WA.reg [1, 2] [101] [(0, .callR [] (.tup [(true, pvL (e_api_Re y101.1)), (false, [.pv (.int .i64 y101.2)])])), (4, .obj 101)] (env' := [(1, .val false [.ptr 101 1 0 0]), (2, one (.int .i64 y101.2))]) (os' := [(101, .box (pvL (e_api_Re y101.1)))]) (O := [Sim Tryz.prog GL0 27 [one (.str ([97, 123, 50, 125] : List UInt8))] [] (.tup [(true, pvL (e_api_Re y101.1)), (false, [.pv (.int .i64 y101.2)])]) [], ([] : List Nat).Nodup]) (by kernel_rfl) (sound _ _) ⟨(F27_ok k _ _ hy101), (by decide), trivial⟩ ?_
  refine WA.seq ?_
  obtain ⟨y102, hy102, hF⟩ := bind_some hF
  refine WA.reg [1, 2, 4] [101] [(0, .callR [] (.tup [(true, pvL (e_api_Re y102.1)), (false, [.pv (.int .i64 y102.2)])])), (4, .obj 103)] (env' := [(1, .val false [.ptr 101 1 0 0]), (2, one (.int .i64 y101.2)), (4, one (.int .i64 y102.2))]) (os' := [(101, .box (pvL (e_api_Re y101.1)))]) (O := [Sim Tryz.prog GL0 27 [one (.str ([97, 42, 42] : List UInt8))] [] (.tup [(true, pvL (e_api_Re y102.1)), (false, [.pv (.int .i64 y102.2)])]) [], ([] : List Nat).Nodup]) (by kernel_rfl) (sound _ _) ⟨(F27_ok k _ _ hy102), (by decide), trivial⟩ ?_
  refine WA.seq ?_
  obtain ⟨y103, hy103, hF⟩ := bind_some hF
  refine WA.reg [1, 2, 4, 6] [101] [(0, .callR [] (.tup [(true, pvL (e_api_Re y103.1)), (false, [.pv (.int .i64 y103.2)])])), (4, .obj 105)] (env' := [(1, .val false [.ptr 101 1 0 0]), (2, one (.int .i64 y101.2)), (4, one (.int .i64 y102.2)), (6, one (.int .i64 y103.2))]) (os' := [(101, .box (pvL (e_api_Re y101.1)))]) (O := [Sim Tryz.prog GL0 27 [one (.str ([97, 123, 50, 49, 125] : List UInt8))] [] (.tup [(true, pvL (e_api_Re y103.1)), (false, [.pv (.int .i64 y103.2)])]) [], ([] : List Nat).Nodup]) (by kernel_rfl) (sound _ _) ⟨(F27_ok k _ _ hy103), (by decide), trivial⟩ ?_
  refine WA.join (fun s_ => ∃ (v122 : Bool), pickE s_.env [0] = [(0, one (.bool v122))] ∧ pickE s_.os [] = [] ∧ F26_j0 v122 = some r) ?_ ?_
  · rintro s_ ⟨v122, he, ho, hF⟩
    refine WA.keep _ _ he ho ?_
    clear he ho
    refine WA.ret ?_
    obtain rfl := Option.some.inj hF
    exact out_ret (one (.bool v122)) [] (by kernel_rfl) (by kernel_rfl) (by kernel_rfl) (by kernel_rfl) (by decide) rfl rfl
  · rcases Bool.eq_false_or_eq_true (y101.2 == 0) with hb104 | hb104
    · have hF := cond_t hF hb104
      rcases Bool.eq_false_or_eq_true (y101.1.f_Kind == 4) with hb105 | hb105
      · have hF := cond_t hF hb105
        rcases Bool.eq_false_or_eq_true (y101.1.f_Min == 2) with hb106 | hb106
        · have hF := cond_t hF hb106
          rcases Bool.eq_false_or_eq_true (y101.1.f_Max == 2) with hb107 | hb107
          · have hF := cond_t hF hb107
            rcases Bool.eq_false_or_eq_true (y102.2 == 3) with hb108 | hb108
            · have hF := cond_t hF hb108
              rcases Bool.eq_false_or_eq_true (y103.2 == 8) with hb109 | hb109
              · have hF := cond_t hF hb109
                obtain ⟨y110, hy110, hF⟩ := bind_some hF
                rcases Bool.eq_false_or_eq_true y110 with hb111 | hb111
                · have hF := cond_t hF hb111
                  obtain ⟨y112, hy112, hF⟩ := bind_some hF
                  rcases Bool.eq_false_or_eq_true (!y112) with hb113 | hb113
                  · have hF := cond_t hF hb113
                    obtain ⟨y114, hy114, hF⟩ := bind_some hF
                    obtain ⟨y115, hy115, hF⟩ := bind_some hF
                    rcases Bool.eq_false_or_eq_true y115 with hb116 | hb116
                    · have hF := cond_t hF hb116
                      obtain ⟨y117, hy117, hF⟩ := bind_some hF
                      obtain ⟨y118, hy118, hF⟩ := bind_some hF
                      rcases Bool.eq_false_or_eq_true y118 with hb119 | hb119
                      · have hF := cond_t hF hb119
                        obtain ⟨y120, hy120, hF⟩ := bind_some hF
                        obtain ⟨y121, hy121, hF⟩ := bind_some hF
                        refine WA.reg [0] [] [(2, .bool true), (7, .bool true), (12, .bool true), (17, .bool true), (21, .bool true), (25, .bool true), (27, .callR [] (one (.bool y110))), (29, .bool true), (31, .callR [] (one (.bool y112))), (34, .bool true), (35, .callR [] (.val true (pvL (e_api_Re y114)))), (36, .callR [] (one (.bool y115))), (38, .bool true), (39, .callR [] (.val true (pvL (e_api_Re y117)))), (40, .callR [] (one (.bool y118))), (42, .bool true), (43, .callR [] (.val true (pvL (e_api_Re y120)))), (44, .callR [] (one (.bool y121)))] (env' := [(0, one (.bool (!y121)))]) (os' := []) (O := [(y101.2 == 0) = true, (y101.1.f_Kind == 4) = true, (y101.1.f_Min == 2) = true, (y101.1.f_Max == 2) = true, (y102.2 == 3) = true, (y103.2 == 8) = true, Sim Tryz.prog GL0 31 [.val true (pvL (e_api_Re y101.1)), one (.str ([97, 97] : List UInt8))] [] (one (.bool y110)) [], ([] : List Nat).Nodup, y110 = true, Sim Tryz.prog GL0 31 [.val true (pvL (e_api_Re y101.1)), one (.str ([97] : List UInt8))] [] (one (.bool y112)) [], ([] : List Nat).Nodup, (!y112) = true, Sim Tryz.prog GL0 34 [] [] (.val true (pvL (e_api_Re y114))) [], ([] : List Nat).Nodup, Sim Tryz.prog GL0 31 [.val true (pvL (e_api_Re y114)), one (.str ([120, 195, 169] : List UInt8))] [] (one (.bool y115)) [], ([] : List Nat).Nodup, y115 = true, Sim Tryz.prog GL0 33 [one (.str ([97, 46, 98] : List UInt8))] [] (.val true (pvL (e_api_Re y117))) [], ([] : List Nat).Nodup, Sim Tryz.prog GL0 31 [.val true (pvL (e_api_Re y117)), one (.str ([97, 46, 98] : List UInt8))] [] (one (.bool y118)) [], ([] : List Nat).Nodup, y118 = true, Sim Tryz.prog GL0 33 [one (.str ([97, 46, 98] : List UInt8))] [] (.val true (pvL (e_api_Re y120))) [], ([] : List Nat).Nodup, Sim Tryz.prog GL0 31 [.val true (pvL (e_api_Re y120)), one (.str ([97, 120, 98] : List UInt8))] [] (one (.bool y121)) [], ([] : List Nat).Nodup]) (by kernel_rfl) (sound _ _) ⟨hb104, hb105, hb106, hb107, hb108, hb109, (F31_ok k _ _ _ hy110), (by decide), hb111, (F31_ok k _ _ _ hy112), (by decide), hb113, (F34_ok k _ hy114), (by decide), (F31_ok k _ _ _ hy115), (by decide), hb116, (F33_ok k _ _ hy117), (by decide), (F31_ok k _ _ _ hy118), (by decide), hb119, (F33_ok k _ _ hy120), (by decide), (F31_ok k _ _ _ hy121), (by decide), trivial⟩ ?_
                        exact ⟨(!y121), by kernel_rfl, by kernel_rfl, hF⟩
                      · have hF := cond_f hF hb119
                        refine WA.reg [0] [] [(2, .bool true), (7, .bool true), (12, .bool true), (17, .bool true), (21, .bool true), (25, .bool true), (27, .callR [] (one (.bool y110))), (29, .bool true), (31, .callR [] (one (.bool y112))), (34, .bool true), (35, .callR [] (.val true (pvL (e_api_Re y114)))), (36, .callR [] (one (.bool y115))), (38, .bool true), (39, .callR [] (.val true (pvL (e_api_Re y117)))), (40, .callR [] (one (.bool y118))), (42, .bool false)] (env' := [(0, one (.bool false))]) (os' := []) (O := [(y101.2 == 0) = true, (y101.1.f_Kind == 4) = true, (y101.1.f_Min == 2) = true, (y101.1.f_Max == 2) = true, (y102.2 == 3) = true, (y103.2 == 8) = true, Sim Tryz.prog GL0 31 [.val true (pvL (e_api_Re y101.1)), one (.str ([97, 97] : List UInt8))] [] (one (.bool y110)) [], ([] : List Nat).Nodup, y110 = true, Sim Tryz.prog GL0 31 [.val true (pvL (e_api_Re y101.1)), one (.str ([97] : List UInt8))] [] (one (.bool y112)) [], ([] : List Nat).Nodup, (!y112) = true, Sim Tryz.prog GL0 34 [] [] (.val true (pvL (e_api_Re y114))) [], ([] : List Nat).Nodup, Sim Tryz.prog GL0 31 [.val true (pvL (e_api_Re y114)), one (.str ([120, 195, 169] : List UInt8))] [] (one (.bool y115)) [], ([] : List Nat).Nodup, y115 = true, Sim Tryz.prog GL0 33 [one (.str ([97, 46, 98] : List UInt8))] [] (.val true (pvL (e_api_Re y117))) [], ([] : List Nat).Nodup, Sim Tryz.prog GL0 31 [.val true (pvL (e_api_Re y117)), one (.str ([97, 46, 98] : List UInt8))] [] (one (.bool y118)) [], ([] : List Nat).Nodup, y118 = false]) (by kernel_rfl) (sound _ _) ⟨hb104, hb105, hb106, hb107, hb108, hb109, (F31_ok k _ _ _ hy110), (by decide), hb111, (F31_ok k _ _ _ hy112), (by decide), hb113, (F34_ok k _ hy114), (by decide), (F31_ok k _ _ _ hy115), (by decide), hb116, (F33_ok k _ _ hy117), (by decide), (F31_ok k _ _ _ hy118), (by decide), hb119, trivial⟩ ?_
                        exact ⟨false, by kernel_rfl, by kernel_rfl, hF⟩
                    · have hF := cond_f hF hb116
                      refine WA.reg [0] [] [(2, .bool true), (7, .bool true), (12, .bool true), (17, .bool true), (21, .bool true), (25, .bool true), (27, .callR [] (one (.bool y110))), (29, .bool true), (31, .callR [] (one (.bool y112))), (34, .bool true), (35, .callR [] (.val true (pvL (e_api_Re y114)))), (36, .callR [] (one (.bool y115))), (38, .bool false)] (env' := [(0, one (.bool false))]) (os' := []) (O := [(y101.2 == 0) = true, (y101.1.f_Kind == 4) = true, (y101.1.f_Min == 2) = true, (y101.1.f_Max == 2) = true, (y102.2 == 3) = true, (y103.2 == 8) = true, Sim Tryz.prog GL0 31 [.val true (pvL (e_api_Re y101.1)), one (.str ([97, 97] : List UInt8))] [] (one (.bool y110)) [], ([] : List Nat).Nodup, y110 = true, Sim Tryz.prog GL0 31 [.val true (pvL (e_api_Re y101.1)), one (.str ([97] : List UInt8))] [] (one (.bool y112)) [], ([] : List Nat).Nodup, (!y112) = true, Sim Tryz.prog GL0 34 [] [] (.val true (pvL (e_api_Re y114))) [], ([] : List Nat).Nodup, Sim Tryz.prog GL0 31 [.val true (pvL (e_api_Re y114)), one (.str ([120, 195, 169] : List UInt8))] [] (one (.bool y115)) [], ([] : List Nat).Nodup, y115 = false]) (by kernel_rfl) (sound _ _) ⟨hb104, hb105, hb106, hb107, hb108, hb109, (F31_ok k _ _ _ hy110), (by decide), hb111, (F31_ok k _ _ _ hy112), (by decide), hb113, (F34_ok k _ hy114), (by decide), (F31_ok k _ _ _ hy115), (by decide), hb116, trivial⟩ ?_
                      exact ⟨false, by kernel_rfl, by kernel_rfl, hF⟩
                  · have hF := cond_f hF hb113
                    refine WA.reg [0] [] [(2, .bool true), (7, .bool true), (12, .bool true), (17, .bool true), (21, .bool true), (25, .bool true), (27, .callR [] (one (.bool y110))), (29, .bool true), (31, .callR [] (one (.bool y112))), (34, .bool false)] (env' := [(0, one (.bool false))]) (os' := []) (O := [(y101.2 == 0) = true, (y101.1.f_Kind == 4) = true, (y101.1.f_Min == 2) = true, (y101.1.f_Max == 2) = true, (y102.2 == 3) = true, (y103.2 == 8) = true, Sim Tryz.prog GL0 31 [.val true (pvL (e_api_Re y101.1)), one (.str ([97, 97] : List UInt8))] [] (one (.bool y110)) [], ([] : List Nat).Nodup, y110 = true, Sim Tryz.prog GL0 31 [.val true (pvL (e_api_Re y101.1)), one (.str ([97] : List UInt8))] [] (one (.bool y112)) [], ([] : List Nat).Nodup, (!y112) = false]) (by kernel_rfl) (sound _ _) ⟨hb104, hb105, hb106, hb107, hb108, hb109, (F31_ok k _ _ _ hy110), (by decide), hb111, (F31_ok k _ _ _ hy112), (by decide), hb113, trivial⟩ ?_
                    exact ⟨false, by kernel_rfl, by kernel_rfl, hF⟩
                · have hF := cond_f hF hb111
                  refine WA.reg [0] [] [(2, .bool true), (7, .bool true), (12, .bool true), (17, .bool true), (21, .bool true), (25, .bool true), (27, .callR [] (one (.bool y110))), (29, .bool false)] (env' := [(0, one (.bool false))]) (os' := []) (O := [(y101.2 == 0) = true, (y101.1.f_Kind == 4) = true, (y101.1.f_Min == 2) = true, (y101.1.f_Max == 2) = true, (y102.2 == 3) = true, (y103.2 == 8) = true, Sim Tryz.prog GL0 31 [.val true (pvL (e_api_Re y101.1)), one (.str ([97, 97] : List UInt8))] [] (one (.bool y110)) [], ([] : List Nat).Nodup, y110 = false]) (by kernel_rfl) (sound _ _) ⟨hb104, hb105, hb106, hb107, hb108, hb109, (F31_ok k _ _ _ hy110), (by decide), hb111, trivial⟩ ?_
                  exact ⟨false, by kernel_rfl, by kernel_rfl, hF⟩
              · have hF := cond_f hF hb109
                refine WA.reg [0] [] [(2, .bool true), (7, .bool true), (12, .bool true), (17, .bool true), (21, .bool true), (25, .bool false)] (env' := [(0, one (.bool false))]) (os' := []) (O := [(y101.2 == 0) = true, (y101.1.f_Kind == 4) = true, (y101.1.f_Min == 2) = true, (y101.1.f_Max == 2) = true, (y102.2 == 3) = true, (y103.2 == 8) = false]) (by kernel_rfl) (sound _ _) ⟨hb104, hb105, hb106, hb107, hb108, hb109, trivial⟩ ?_
                exact ⟨false, by kernel_rfl, by kernel_rfl, hF⟩
            · have hF := cond_f hF hb108
              refine WA.reg [0] [] [(2, .bool true), (7, .bool true), (12, .bool true), (17, .bool true), (21, .bool false)] (env' := [(0, one (.bool false))]) (os' := []) (O := [(y101.2 == 0) = true, (y101.1.f_Kind == 4) = true, (y101.1.f_Min == 2) = true, (y101.1.f_Max == 2) = true, (y102.2 == 3) = false]) (by kernel_rfl) (sound _ _) ⟨hb104, hb105, hb106, hb107, hb108, trivial⟩ ?_
              exact ⟨false, by kernel_rfl, by kernel_rfl, hF⟩
          · have hF := cond_f hF hb107
            refine WA.reg [0] [] [(2, .bool true), (7, .bool true), (12, .bool true), (17, .bool false)] (env' := [(0, one (.bool false))]) (os' := []) (O := [(y101.2 == 0) = true, (y101.1.f_Kind == 4) = true, (y101.1.f_Min == 2) = true, (y101.1.f_Max == 2) = false]) (by kernel_rfl) (sound _ _) ⟨hb104, hb105, hb106, hb107, trivial⟩ ?_
            exact ⟨false, by kernel_rfl, by kernel_rfl, hF⟩
        · have hF := cond_f hF hb106
          refine WA.reg [0] [] [(2, .bool true), (7, .bool true), (12, .bool false)] (env' := [(0, one (.bool false))]) (os' := []) (O := [(y101.2 == 0) = true, (y101.1.f_Kind == 4) = true, (y101.1.f_Min == 2) = false]) (by kernel_rfl) (sound _ _) ⟨hb104, hb105, hb106, trivial⟩ ?_
          exact ⟨false, by kernel_rfl, by kernel_rfl, hF⟩
      · have hF := cond_f hF hb105
        refine WA.reg [0] [] [(2, .bool true), (7, .bool false)] (env' := [(0, one (.bool false))]) (os' := []) (O := [(y101.2 == 0) = true, (y101.1.f_Kind == 4) = false]) (by kernel_rfl) (sound _ _) ⟨hb104, hb105, trivial⟩ ?_
        exact ⟨false, by kernel_rfl, by kernel_rfl, hF⟩
    · have hF := cond_f hF hb104
      refine WA.reg [0] [] [(2, .bool false)] (env' := [(0, one (.bool false))]) (os' := []) (O := [(y101.2 == 0) = false]) (by kernel_rfl) (sound _ _) ⟨hb104, trivial⟩ ?_
      exact ⟨false, by kernel_rfl, by kernel_rfl, hF⟩
/-! entrepot entrepotlaw10.RexQuotes -/
def F9_j1 (v113 : Bool) : Option Bool :=
  some v113
def F9_j3 (v132 : Bool) : Option Bool :=
  some v132
def F9_j2 (k : Nat) (v0 : List UInt8) (v1 : List UInt8) (v119 : Bool) : Option Bool :=
  cond v119 ((some false)) ((F26 k).bind fun y121 => cond y121 ((F34 k).bind fun y123 => (F31 k y123 v0).bind fun y124 => cond y124 ((F34 k).bind fun y126 => (F31 k y126 v1).bind fun y127 => (F25 k v1).bind fun y128 => cond (y127 == y128) ((F34 k).bind fun y130 => (F30 k y130).bind fun y131 => (F9_j3 y131)) ((F9_j3 false))) ((F9_j3 false))) ((F9_j3 false)))
def F9_j0 (k : Nat) (v0 : List UInt8) (v1 : List UInt8) (v102 : Bool) : Option Bool :=
  cond v102 ((F26 k).bind fun y104 => (some y104)) ((F33 k v0).bind fun y105 => (F25 k v0).bind fun y106 => (cond (!y106) ((F26 k).bind fun y108 => cond y108 ((F31 k y105 ([] : List UInt8)).bind fun y110 => cond y110 ((F31 k y105 v0).bind fun y112 => (F9_j1 (!y112))) ((F9_j1 false))) ((F9_j1 false))) ((F30 k y105).bind fun y114 => cond (!y114) ((F9_j2 k v0 v1 true)) ((F31 k y105 v0).bind fun y116 => cond (!y116) ((F9_j2 k v0 v1 true)) ((F31 k y105 v1).bind fun y118 => (F9_j2 k v0 v1 (!(y118 == (v0 == v1)))))))))
def F9 (k : Nat) (v0 : List UInt8) (v1 : List UInt8) : Option Bool :=
  (cond (decide ((v0.length : Int) > 60)) ((F9_j0 k v0 v1 true)) ((F9_j0 k v0 v1 (decide ((v1.length : Int) > 60)))))
theorem F9_ok (k : Nat) (v0 : List UInt8) (v1 : List UInt8) (r : Bool) (hF : F9 k v0 v1 = some r) : Sim Tryz.prog GL0 9 [one (.str v0), one (.str v1)] [] (one (.bool r)) [] := by
  refine sim_of [] Tryz.func9 rfl (by kernel_rfl) (by kernel_rfl) ?_
  show WA _ _ 67 _ _ _
  refine WA.seq ?_
  refine WA.reg [0, 1] [] [] (env' := [(0, one (.str v0)), (1, one (.str v1))]) (os' := []) (O := []) (by kernel_rfl) (sound _ _) trivial ?_
  refine WA.seq ?_
  refine WA.join (fun s_ => ∃ (v102 : Bool), pickE s_.env [0, 1, 13] = [(0, one (.str v0)), (1, one (.str v1)), (13, one (.bool v102))] ∧ pickE s_.os [] = [] ∧ F9_j0 k v0 v1 v102 = some r) ?_ ?_
  · rintro s_ ⟨v102, he, ho, hF⟩
    refine WA.keep _ _ he ho ?_
    clear he ho
    refine WA.cond (b := v102) rfl (fun hb103 => ?_) (fun hb103 => ?_)
    · have hF := cond_t hF hb103
      refine WA.seq ?_
      obtain ⟨y104, hy104, hF⟩ := bind_some hF
      refine WA.reg [4] [] [(0, .callR [] (one (.bool y104)))] (env' := [(4, one (.bool y104))]) (os' := []) (O := [Sim Tryz.prog GL0 26 [] [] (one (.bool y104)) [], ([] : List Nat).Nodup]) (by kernel_rfl) (sound _ _) ⟨(F26_ok k _ hy104), (by decide), trivial⟩ ?_
      refine WA.ret ?_
      obtain rfl := Option.some.inj hF
      exact out_ret (one (.bool y104)) [] (by kernel_rfl) (by kernel_rfl) (by kernel_rfl) (by kernel_rfl) (by decide) rfl rfl
    · have hF := cond_f hF hb103
      refine WA.skip ?_
      refine WA.seq ?_
      obtain ⟨y105, hy105, hF⟩ := bind_some hF
      refine WA.reg [0, 1, 5] [105] [(1, .callR [] (.val true (pvL (e_api_Re y105)))), (2, .obj 105)] (env' := [(0, one (.str v0)), (1, one (.str v1)), (5, .val false [.ptr 105 1 0 0])]) (os' := [(105, .box (pvL (e_api_Re y105)))]) (O := [Sim Tryz.prog GL0 33 [one (.str v0)] [] (.val true (pvL (e_api_Re y105))) [], ([] : List Nat).Nodup]) (by kernel_rfl) (sound _ _) ⟨(F33_ok k _ _ hy105), (by decide), trivial⟩ ?_
      refine WA.seq ?_
      refine WA.seq ?_
      obtain ⟨y106, hy106, hF⟩ := bind_some hF
      refine WA.reg [0, 1, 5, 19] [105] [(1, .callR [] (one (.bool y106)))] (env' := [(0, one (.str v0)), (1, one (.str v1)), (5, .val false [.ptr 105 1 0 0]), (19, one (.bool (!y106)))]) (os' := [(105, .box (pvL (e_api_Re y105)))]) (O := [Sim Tryz.prog GL0 25 [one (.str v0)] [] (one (.bool y106)) [], ([] : List Nat).Nodup]) (by kernel_rfl) (sound _ _) ⟨(F25_ok k _ _ hy106), (by decide), trivial⟩ ?_
      refine WA.cond (b := (!y106)) rfl (fun hb107 => ?_) (fun hb107 => ?_)
      · have hF := cond_t hF hb107
        refine WA.join (fun s_ => ∃ (v113 : Bool), pickE s_.env [4] = [(4, one (.bool v113))] ∧ pickE s_.os [] = [] ∧ F9_j1 v113 = some r) ?_ ?_
        · rintro s_ ⟨v113, he, ho, hF⟩
          refine WA.keep _ _ he ho ?_
          clear he ho
          refine WA.ret ?_
          obtain rfl := Option.some.inj hF
          exact out_ret (one (.bool v113)) [] (by kernel_rfl) (by kernel_rfl) (by kernel_rfl) (by kernel_rfl) (by decide) rfl rfl
        · obtain ⟨y108, hy108, hF⟩ := bind_some hF
          rcases Bool.eq_false_or_eq_true y108 with hb109 | hb109
          · have hF := cond_t hF hb109
            obtain ⟨y110, hy110, hF⟩ := bind_some hF
            rcases Bool.eq_false_or_eq_true y110 with hb111 | hb111
            · have hF := cond_t hF hb111
              obtain ⟨y112, hy112, hF⟩ := bind_some hF
              refine WA.reg [4] [] [(0, .callR [] (one (.bool y108))), (1, .bool true), (3, .callR [] (one (.bool y110))), (5, .bool true), (8, .callR [] (one (.bool y112)))] (env' := [(4, one (.bool (!y112)))]) (os' := []) (O := [Sim Tryz.prog GL0 26 [] [] (one (.bool y108)) [], ([] : List Nat).Nodup, y108 = true, Sim Tryz.prog GL0 31 [.val true (pvL (e_api_Re y105)), one (.str ([] : List UInt8))] [] (one (.bool y110)) [], ([] : List Nat).Nodup, y110 = true, Sim Tryz.prog GL0 31 [.val true (pvL (e_api_Re y105)), one (.str v0)] [] (one (.bool y112)) [], ([] : List Nat).Nodup]) (by kernel_rfl) (sound _ _) ⟨(F26_ok k _ hy108), (by decide), hb109, (F31_ok k _ _ _ hy110), (by decide), hb111, (F31_ok k _ _ _ hy112), (by decide), trivial⟩ ?_
              exact ⟨(!y112), by kernel_rfl, by kernel_rfl, hF⟩
            · have hF := cond_f hF hb111
              refine WA.reg [4] [] [(0, .callR [] (one (.bool y108))), (1, .bool true), (3, .callR [] (one (.bool y110))), (5, .bool false)] (env' := [(4, one (.bool false))]) (os' := []) (O := [Sim Tryz.prog GL0 26 [] [] (one (.bool y108)) [], ([] : List Nat).Nodup, y108 = true, Sim Tryz.prog GL0 31 [.val true (pvL (e_api_Re y105)), one (.str ([] : List UInt8))] [] (one (.bool y110)) [], ([] : List Nat).Nodup, y110 = false]) (by kernel_rfl) (sound _ _) ⟨(F26_ok k _ hy108), (by decide), hb109, (F31_ok k _ _ _ hy110), (by decide), hb111, trivial⟩ ?_
              exact ⟨false, by kernel_rfl, by kernel_rfl, hF⟩
          · have hF := cond_f hF hb109
            refine WA.reg [4] [] [(0, .callR [] (one (.bool y108))), (1, .bool false)] (env' := [(4, one (.bool false))]) (os' := []) (O := [Sim Tryz.prog GL0 26 [] [] (one (.bool y108)) [], ([] : List Nat).Nodup, y108 = false]) (by kernel_rfl) (sound _ _) ⟨(F26_ok k _ hy108), (by decide), hb109, trivial⟩ ?_
            exact ⟨false, by kernel_rfl, by kernel_rfl, hF⟩
      · have hF := cond_f hF hb107
        refine WA.skip ?_
        refine WA.seq ?_
        refine WA.join (fun s_ => ∃ (v119 : Bool), pickE s_.env [0, 1, 48] = [(0, one (.str v0)), (1, one (.str v1)), (48, one (.bool v119))] ∧ pickE s_.os [] = [] ∧ F9_j2 k v0 v1 v119 = some r) ?_ ?_
        · rintro s_ ⟨v119, he, ho, hF⟩
          refine WA.keep _ _ he ho ?_
          clear he ho
          refine WA.cond (b := v119) rfl (fun hb120 => ?_) (fun hb120 => ?_)
          · have hF := cond_t hF hb120
            refine WA.seq ?_
            refine WA.reg [4] [] [] (env' := [(4, one (.bool false))]) (os' := []) (O := []) (by kernel_rfl) (sound _ _) trivial ?_
            refine WA.ret ?_
            obtain rfl := Option.some.inj hF
            exact out_ret (one (.bool false)) [] (by kernel_rfl) (by kernel_rfl) (by kernel_rfl) (by kernel_rfl) (by decide) rfl rfl
          · have hF := cond_f hF hb120
            refine WA.skip ?_
            refine WA.join (fun s_ => ∃ (v132 : Bool), pickE s_.env [4] = [(4, one (.bool v132))] ∧ pickE s_.os [] = [] ∧ F9_j3 v132 = some r) ?_ ?_
            · rintro s_ ⟨v132, he, ho, hF⟩
              refine WA.keep _ _ he ho ?_
              clear he ho
              refine WA.ret ?_
              obtain rfl := Option.some.inj hF
              exact out_ret (one (.bool v132)) [] (by kernel_rfl) (by kernel_rfl) (by kernel_rfl) (by kernel_rfl) (by decide) rfl rfl
            · obtain ⟨y121, hy121, hF⟩ := bind_some hF
              rcases Bool.eq_false_or_eq_true y121 with hb122 | hb122
              · have hF := cond_t hF hb122
                obtain ⟨y123, hy123, hF⟩ := bind_some hF
                obtain ⟨y124, hy124, hF⟩ := bind_some hF
                rcases Bool.eq_false_or_eq_true y124 with hb125 | hb125
                · have hF := cond_t hF hb125
                  obtain ⟨y126, hy126, hF⟩ := bind_some hF
                  obtain ⟨y127, hy127, hF⟩ := bind_some hF
                  obtain ⟨y128, hy128, hF⟩ := bind_some hF
                  rcases Bool.eq_false_or_eq_true (y127 == y128) with hb129 | hb129
                  · have hF := cond_t hF hb129
                    obtain ⟨y130, hy130, hF⟩ := bind_some hF
                    obtain ⟨y131, hy131, hF⟩ := bind_some hF
                    refine WA.reg [4] [] [(0, .callR [] (one (.bool y121))), (1, .bool true), (2, .callR [] (.val true (pvL (e_api_Re y123)))), (4, .callR [] (one (.bool y124))), (6, .bool true), (7, .callR [] (.val true (pvL (e_api_Re y126)))), (9, .callR [] (one (.bool y127))), (11, .callR [] (one (.bool y128))), (14, .bool true), (15, .callR [] (.val true (pvL (e_api_Re y130)))), (16, .callR [] (one (.bool y131)))] (env' := [(4, one (.bool y131))]) (os' := []) (O := [Sim Tryz.prog GL0 26 [] [] (one (.bool y121)) [], ([] : List Nat).Nodup, y121 = true, Sim Tryz.prog GL0 34 [] [] (.val true (pvL (e_api_Re y123))) [], ([] : List Nat).Nodup, Sim Tryz.prog GL0 31 [.val true (pvL (e_api_Re y123)), one (.str v0)] [] (one (.bool y124)) [], ([] : List Nat).Nodup, y124 = true, Sim Tryz.prog GL0 34 [] [] (.val true (pvL (e_api_Re y126))) [], ([] : List Nat).Nodup, Sim Tryz.prog GL0 31 [.val true (pvL (e_api_Re y126)), one (.str v1)] [] (one (.bool y127)) [], ([] : List Nat).Nodup, Sim Tryz.prog GL0 25 [one (.str v1)] [] (one (.bool y128)) [], ([] : List Nat).Nodup, (y127 == y128) = true, Sim Tryz.prog GL0 34 [] [] (.val true (pvL (e_api_Re y130))) [], ([] : List Nat).Nodup, Sim Tryz.prog GL0 30 [.val true (pvL (e_api_Re y130))] [] (one (.bool y131)) [], ([] : List Nat).Nodup]) (by kernel_rfl) (sound _ _) ⟨(F26_ok k _ hy121), (by decide), hb122, (F34_ok k _ hy123), (by decide), (F31_ok k _ _ _ hy124), (by decide), hb125, (F34_ok k _ hy126), (by decide), (F31_ok k _ _ _ hy127), (by decide), (F25_ok k _ _ hy128), (by decide), hb129, (F34_ok k _ hy130), (by decide), (F30_ok k _ _ hy131), (by decide), trivial⟩ ?_
                    exact ⟨y131, by kernel_rfl, by kernel_rfl, hF⟩
                  · have hF := cond_f hF hb129
                    refine WA.reg [4] [] [(0, .callR [] (one (.bool y121))), (1, .bool true), (2, .callR [] (.val true (pvL (e_api_Re y123)))), (4, .callR [] (one (.bool y124))), (6, .bool true), (7, .callR [] (.val true (pvL (e_api_Re y126)))), (9, .callR [] (one (.bool y127))), (11, .callR [] (one (.bool y128))), (14, .bool false)] (env' := [(4, one (.bool false))]) (os' := []) (O := [Sim Tryz.prog GL0 26 [] [] (one (.bool y121)) [], ([] : List Nat).Nodup, y121 = true, Sim Tryz.prog GL0 34 [] [] (.val true (pvL (e_api_Re y123))) [], ([] : List Nat).Nodup, Sim Tryz.prog GL0 31 [.val true (pvL (e_api_Re y123)), one (.str v0)] [] (one (.bool y124)) [], ([] : List Nat).Nodup, y124 = true, Sim Tryz.prog GL0 34 [] [] (.val true (pvL (e_api_Re y126))) [], ([] : List Nat).Nodup, Sim Tryz.prog GL0 31 [.val true (pvL (e_api_Re y126)), one (.str v1)] [] (one (.bool y127)) [], ([] : List Nat).Nodup, Sim Tryz.prog GL0 25 [one (.str v1)] [] (one (.bool y128)) [], ([] : List Nat).Nodup, (y127 == y128) = false]) (by kernel_rfl) (sound _ _) ⟨(F26_ok k _ hy121), (by decide), hb122, (F34_ok k _ hy123), (by decide), (F31_ok k _ _ _ hy124), (by decide), hb125, (F34_ok k _ hy126), (by decide), (F31_ok k _ _ _ hy127), (by decide), (F25_ok k _ _ hy128), (by decide), hb129, trivial⟩ ?_
                    exact ⟨false, by kernel_rfl, by kernel_rfl, hF⟩
                · have hF := cond_f hF hb125
                  refine WA.reg [4] [] [(0, .callR [] (one (.bool y121))), (1, .bool true), (2, .callR [] (.val true (pvL (e_api_Re y123)))), (4, .callR [] (one (.bool y124))), (6, .bool false)] (env' := [(4, one (.bool false))]) (os' := []) (O := [Sim Tryz.prog GL0 26 [] [] (one (.bool y121)) [], ([] : List Nat).Nodup, y121 = true, Sim Tryz.prog GL0 34 [] [] (.val true (pvL (e_api_Re y123))) [], ([] : List Nat).Nodup, Sim Tryz.prog GL0 31 [.val true (pvL (e_api_Re y123)), one (.str v0)] [] (one (.bool y124)) [], ([] : List Nat).Nodup, y124 = false]) (by kernel_rfl) (sound _ _) ⟨(F26_ok k _ hy121), (by decide), hb122, (F34_ok k _ hy123), (by decide), (F31_ok k _ _ _ hy124), (by decide), hb125, trivial⟩ ?_
                  exact ⟨false, by kernel_rfl, by kernel_rfl, hF⟩
              · have hF := cond_f hF hb122
                refine WA.reg [4] [] [(0, .callR [] (one (.bool y121))), (1, .bool false)] (env' := [(4, one (.bool false))]) (os' := []) (O := [Sim Tryz.prog GL0 26 [] [] (one (.bool y121)) [], ([] : List Nat).Nodup, y121 = false]) (by kernel_rfl) (sound _ _) ⟨(F26_ok k _ hy121), (by decide), hb122, trivial⟩ ?_
                exact ⟨false, by kernel_rfl, by kernel_rfl, hF⟩
        · obtain ⟨y114, hy114, hF⟩ := bind_some hF
          rcases Bool.eq_false_or_eq_true (!y114) with hb115 | hb115
          · have hF := cond_t hF hb115
            refine WA.reg [0, 1, 48] [] [(1, .callR [] (one (.bool y114))), (3, .bool true)] (env' := [(0, one (.str v0)), (1, one (.str v1)), (48, one (.bool true))]) (os' := []) (O := [Sim Tryz.prog GL0 30 [.val true (pvL (e_api_Re y105))] [] (one (.bool y114)) [], ([] : List Nat).Nodup, (!y114) = true]) (by kernel_rfl) (sound _ _) ⟨(F30_ok k _ _ hy114), (by decide), hb115, trivial⟩ ?_
            exact ⟨true, by kernel_rfl, by kernel_rfl, hF⟩
          · have hF := cond_f hF hb115
            obtain ⟨y116, hy116, hF⟩ := bind_some hF
            rcases Bool.eq_false_or_eq_true (!y116) with hb117 | hb117
            · have hF := cond_t hF hb117
              refine WA.reg [0, 1, 48] [] [(1, .callR [] (one (.bool y114))), (3, .bool false), (6, .callR [] (one (.bool y116))), (9, .bool true)] (env' := [(0, one (.str v0)), (1, one (.str v1)), (48, one (.bool true))]) (os' := []) (O := [Sim Tryz.prog GL0 30 [.val true (pvL (e_api_Re y105))] [] (one (.bool y114)) [], ([] : List Nat).Nodup, (!y114) = false, Sim Tryz.prog GL0 31 [.val true (pvL (e_api_Re y105)), one (.str v0)] [] (one (.bool y116)) [], ([] : List Nat).Nodup, (!y116) = true]) (by kernel_rfl) (sound _ _) ⟨(F30_ok k _ _ hy114), (by decide), hb115, (F31_ok k _ _ _ hy116), (by decide), hb117, trivial⟩ ?_
              exact ⟨true, by kernel_rfl, by kernel_rfl, hF⟩
            · have hF := cond_f hF hb117
              obtain ⟨y118, hy118, hF⟩ := bind_some hF
              refine WA.reg [0, 1, 48] [] [(1, .callR [] (one (.bool y114))), (3, .bool false), (6, .callR [] (one (.bool y116))), (9, .bool false), (12, .callR [] (one (.bool y118)))] (env' := [(0, one (.str v0)), (1, one (.str v1)), (48, one (.bool (!(y118 == (v0 == v1)))))]) (os' := []) (O := [Sim Tryz.prog GL0 30 [.val true (pvL (e_api_Re y105))] [] (one (.bool y114)) [], ([] : List Nat).Nodup, (!y114) = false, Sim Tryz.prog GL0 31 [.val true (pvL (e_api_Re y105)), one (.str v0)] [] (one (.bool y116)) [], ([] : List Nat).Nodup, (!y116) = false, Sim Tryz.prog GL0 31 [.val true (pvL (e_api_Re y105)), one (.str v1)] [] (one (.bool y118)) [], ([] : List Nat).Nodup]) (by kernel_rfl) (sound _ _) ⟨(F30_ok k _ _ hy114), (by decide), hb115, (F31_ok k _ _ _ hy116), (by decide), hb117, (F31_ok k _ _ _ hy118), (by decide), trivial⟩ ?_
              exact ⟨(!(y118 == (v0 == v1))), by kernel_rfl, by kernel_rfl, hF⟩
  · rcases Bool.eq_false_or_eq_true (decide ((v0.length : Int) > 60)) with hb101 | hb101
    · have hF := cond_t hF hb101
      refine WA.reg [0, 1, 13] [] [(3, .bool true)] (env' := [(0, one (.str v0)), (1, one (.str v1)), (13, one (.bool true))]) (os' := []) (O := [(decide ((v0.length : Int) > 60)) = true]) (by kernel_rfl) (sound _ _) ⟨hb101, trivial⟩ ?_
      exact ⟨true, by kernel_rfl, by kernel_rfl, hF⟩
    · have hF := cond_f hF hb101
      refine WA.reg [0, 1, 13] [] [(3, .bool false)] (env' := [(0, one (.str v0)), (1, one (.str v1)), (13, one (.bool (decide ((v1.length : Int) > 60))))]) (os' := []) (O := [(decide ((v0.length : Int) > 60)) = false]) (by kernel_rfl) (sound _ _) ⟨hb101, trivial⟩ ?_
      exact ⟨(decide ((v1.length : Int) > 60)), by kernel_rfl, by kernel_rfl, hF⟩
end Go.Proofs.YthilboheomikjaaGreatDoor
