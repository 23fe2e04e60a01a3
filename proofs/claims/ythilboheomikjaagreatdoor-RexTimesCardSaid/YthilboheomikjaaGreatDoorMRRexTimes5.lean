/- G13, G2, G14, Q10 -/
import Derived.Test.YthilboheomikjaaGreatDoorMRRexTimes4
section
namespace Go.Proofs.YthilboheomikjaaGreatDoor
open Go.AL
set_option linter.unusedVariables false
set_option linter.unusedSimpArgs false
set_option maxRecDepth 100000

/-! entrepot entrepotlaw10.told -/
def F26_j0 (v122 : Bool) : Option Bool :=
  some v122
def F26 (k : Nat) : Option Bool :=
  (F27 k ([97, 123, 50, 125] : List UInt8)).bind fun y101 => (F27 k ([97, 42, 42] : List UInt8)).bind fun y102 => (F27 k ([97, 123, 50, 49, 125] : List UInt8)).bind fun y103 => (cond (y101.2 == 0) (cond (y101.1.f_Kind == 4) (cond (y101.1.f_Min == 2) (cond (y101.1.f_Max == 2) (cond (y102.2 == 3) (cond (y103.2 == 8) ((F31 k y101.1 ([97, 97] : List UInt8)).bind fun y110 => cond y110 ((F31 k y101.1 ([97] : List UInt8)).bind fun y112 => cond (!y112) ((F34 k).bind fun y114 => (F31 k y114 ([120, 195, 169] : List UInt8)).bind fun y115 => cond y115 ((F33 k ([97, 46, 98] : List UInt8)).bind fun y117 => (F31 k y117 ([97, 46, 98] : List UInt8)).bind fun y118 => cond y118 ((F33 k ([97, 46, 98] : List UInt8)).bind fun y120 => (F31 k y120 ([97, 120, 98] : List UInt8)).bind fun y121 => (F26_j0 (!y121))) ((F26_j0 false))) ((F26_j0 false))) ((F26_j0 false))) ((F26_j0 false))) ((F26_j0 false))) ((F26_j0 false))) ((F26_j0 false))) ((F26_j0 false))) ((F26_j0 false))) ((F26_j0 false)))
theorem F26_ok (k : Nat) (r : Bool) (hF : F26 k = some r) : Sim Tryz.prog GL0 26 [] [] (one (.bool r)) [] := by
  refine sim_of [] Tryz.func26 rfl (by kernel_rfl) (by kernel_rfl) ?_
  show WA _ _ 66 _ _ _
  refine WA.seq ?_
  refine WA.reg [] [] [] (env' := []) (os' := []) (O := []) (by kernel_rfl) (sound _ _) trivial ?_
  refine WA.seq ?_
  obtain ⟨y101, hy101, hF⟩ := bind_some hF
  refine WA.reg [1, 2] [101] [(0, .callR [] (.tup [(true, pvL (e_api_Re y101.1)), (false, [.pv (.int .i64 y101.2)])])), (4, .obj 101)] (env' := [(1, .val false [.ptr 101 1 0 0]), (2, one (.int .i64 y101.2))]) (os' := [(101, .box (pvL (e_api_Re y101.1)))]) (O := [Sim Tryz.prog GL0 27 [one (.str ([97, 123, 50, 125] : List UInt8))] [] (.tup [(true, pvL (e_api_Re y101.1)), (false, [.pv (.int .i64 y101.2)])]) [], ([] : List Nat).Nodup]) (by kernel_rfl) (sound _ _) ⟨(F27_ok k _ _ hy101), (by decide), trivial⟩ ?_
  refine WA.seq ?_
  obtain ⟨y102, hy102, hF⟩ := bind_some hF
  refine WA.reg [1, 2, 4] [101] [(0, .callR [] (.tup [(true, pvL (e_api_Re y102.1)), (false, [.pv (.int .i64 y102.2)])])), (4, .obj 103)] (env' := [(1, .val false [.ptr 101 1 0 0]), (2, one (.int .i64 y101.2)), (4, one (.int .i64 y102.2))]) (os' := [(101, .box (pvL (e_api_Re y101.1)))]) (O := [Sim Tryz.prog GL0 27 [one (.str ([97, 42, 42] : List UInt8))] [] (.tup [(true, pvL (e_api_Re y102.1)), (false, [.pv (.int .i64 y102.2)])]) [], ([] : List Nat).Nodup]) (by kernel_rfl) (sound _ _) ⟨(F27_ok k _ _ hy102), (by decide), trivial⟩ ?_
  refine WA.seq ?_
  obtain ⟨y103, hy103, hF⟩ := bind_some hF
  refine WA.reg [1, 2, 4, 6] [101] [(0, .callR [] (.tup [(true, pvL (e_api_Re y103.1)), (false, [.pv (.int .i64 y103.2)])])), (4, .obj 105)] (env' := [(1, .val false [.ptr 101 1 0 0]), (2, one (.int .i64 y101.2)), (4, one (.int .i64 y102.2)), (6, one (.int .i64 y103.2))]) (os' := [(101, .box (pvL (e_api_Re y101.1)))]) (O := [Sim Tryz.prog GL0 27 [one (.str ([97, 123, 50, 49, 125] : List UInt8))] [] (.tup [(true, pvL (e_api_Re y103.1)), (false, [.pv (.int .i64 y103.2)])]) [], ([] : List Nat).Nodup]) (by kernel_rfl) (sound _ _) ⟨(F27_ok k _ _ hy103), (by decide), trivial⟩ ?_
  refine WA.join (fun s_ => ∃ (v122 : Bool), pickE s_.env [0] = [(0, one (.bool v122))] ∧ pickE s_.os [] = [] ∧ F26_j0 v122 = some r) ?_ ?_
  · rintro s_ ⟨v122, he, ho, hF⟩
    refine WA.keep _ _ he ho ?_
    clear he ho
    refine WA.ret ?_
    obtain rfl := Option.some.inj hF
    exact out_ret (one (.bool v122)) [] (by kernel_rfl) (by kernel_rfl) (by kernel_rfl) (by kernel_rfl) (by decide) rfl rfl
  · rcases Bool.eq_false_or_eq_true (y101.2 == 0) with hb104 | hb104
    · have hF := cond_t hF hb104
      rcases Bool.eq_false_or_eq_true (y101.1.f_Kind == 4) with hb105 | hb105
      · have hF := cond_t hF hb105
        rcases Bool.eq_false_or_eq_true (y101.1.f_Min == 2) with hb106 | hb106
        · have hF := cond_t hF hb106
          rcases Bool.eq_false_or_eq_true (y101.1.f_Max == 2) with hb107 | hb107
          · have hF := cond_t hF hb107
            rcases Bool.eq_false_or_eq_true (y102.2 == 3) with hb108 | hb108
            · have hF := cond_t hF hb108
              rcases Bool.eq_false_or_eq_true (y103.2 == 8) with hb109 | hb109
              · have hF := cond_t hF hb109
                obtain ⟨y110, hy110, hF⟩ := bind_some hF
                rcases Bool.eq_false_or_eq_true y110 with hb111 | hb111
                · have hF := cond_t hF hb111
                  obtain ⟨y112, hy112, hF⟩ := bind_some hF
                  rcases Bool.eq_false_or_eq_true (!y112) with hb113 | hb113
                  · have hF := cond_t hF hb113
                    obtain ⟨y114, hy114, hF⟩ := bind_some hF
                    obtain ⟨y115, hy115, hF⟩ := bind_some hF
                    rcases Bool.eq_false_or_eq_true y115 with hb116 | hb116
                    · have hF := cond_t hF hb116
                      obtain ⟨y117, hy117, hF⟩ := bind_some hF
                      obtain ⟨y118, hy118, hF⟩ := bind_some hF
                      rcases Bool.eq_false_or_eq_true y118 with hb119 | hb119
                      · have hF := cond_t hF hb119
                        obtain ⟨y120, hy120, hF⟩ := bind_some hF
                        obtain ⟨y121, hy121, hF⟩ := bind_some hF
                        refine WA.reg [0] [] [(2, .bool true), (7, .bool true), (12, .bool true), (17, .bool true), (21, .bool true), (25, .bool true), (27, .callR [] (one (.bool y110))), (29, .bool true), (31, .callR [] (one (.bool y112))), (34, .bool true), (35, .callR [] (.val true (pvL (e_api_Re y114)))), (36, .callR [] (one (.bool y115))), (38, .bool true), (39, .callR [] (.val true (pvL (e_api_Re y117)))), (40, .callR [] (one (.bool y118))), (42, .bool true), (43, .callR [] (.val true (pvL (e_api_Re y120)))), (44, .callR [] (one (.bool y121)))] (env' := [(0, one (.bool (!y121)))]) (os' := []) (O := [(y101.2 == 0) = true, (y101.1.f_Kind == 4) = true, (y101.1.f_Min == 2) = true, (y101.1.f_Max == 2) = true, (y102.2 == 3) = true, (y103.2 == 8) = true, Sim Tryz.prog GL0 31 [.val true (pvL (e_api_Re y101.1)), one (.str ([97, 97] : List UInt8))] [] (one (.bool y110)) [], ([] : List Nat).Nodup, y110 = true, Sim Tryz.prog GL0 31 [.val true (pvL (e_api_Re y101.1)), one (.str ([97] : List UInt8))] [] (one (.bool y112)) [], ([] : List Nat).Nodup, (!y112) = true, Sim Tryz.prog GL0 34 [] [] (.val true (pvL (e_api_Re y114))) [], ([] : List Nat).Nodup, Sim Tryz.prog GL0 31 [.val true (pvL (e_api_Re y114)), one (.str ([120, 195, 169] : List UInt8))] [] (one (.bool y115)) [], ([] : List Nat).Nodup, y115 = true, Sim Tryz.prog GL0 33 [one (.str ([97, 46, 98] : List UInt8))] [] (.val true (pvL (e_api_Re y117))) [], ([] : List Nat).Nodup, Sim Tryz.prog GL0 31 [.val true (pvL (e_api_Re y117)), one (.str ([97, 46, 98] : List UInt8))] [] (one (.bool y118)) [], ([] : List Nat).Nodup, y118 = true, Sim Tryz.prog GL0 33 [one (.str ([97, 46, 98] : List UInt8))] [] (.val true (pvL (e_api_Re y120))) [], ([] : List Nat).Nodup, Sim Tryz.prog GL0 31 [.val true (pvL (e_api_Re y120)), one (.str ([97, 120, 98] : List UInt8))] [] (one (.bool y121)) [], ([] : List Nat).Nodup]) (by kernel_rfl) (sound _ _) ⟨hb104, hb105, hb106, hb107, hb108, hb109, (F31_ok k _ _ _ hy110), (by decide), hb111, (F31_ok k _ _ _ hy112), (by decide), hb113, (F34_ok k _ hy114), (by decide), (F31_ok k _ _ _ hy115), (by decide), hb116, (F33_ok k _ _ hy117), (by decide), (F31_ok k _ _ _ hy118), (by decide), hb119, (F33_ok k _ _ hy120), (by decide), (F31_ok k _ _ _ hy121), (by decide), trivial⟩ ?_
                        exact ⟨(!y121), by kernel_rfl, by kernel_rfl, hF⟩
                      · have hF := cond_f hF hb119
                        refine WA.reg [0] [] [(2, .bool true), (7, .bool true), (12, .bool true), (17, .bool true), (21, .bool true), (25, .bool true), (27, .callR [] (one (.bool y110))), (29, .bool true), (31, .callR [] (one (.bool y112))), (34, .bool true), (35, .callR [] (.val true (pvL (e_api_Re y114)))), (36, .callR [] (one (.bool y115))), (38, .bool true), (39, .callR [] (.val true (pvL (e_api_Re y117)))), (40, .callR [] (one (.bool y118))), (42, .bool false)] (env' := [(0, one (.bool false))]) (os' := []) (O := [(y101.2 == 0) = true, (y101.1.f_Kind == 4) = true, (y101.1.f_Min == 2) = true, (y101.1.f_Max == 2) = true, (y102.2 == 3) = true, (y103.2 == 8) = true, Sim Tryz.prog GL0 31 [.val true (pvL (e_api_Re y101.1)), one (.str ([97, 97] : List UInt8))] [] (one (.bool y110)) [], ([] : List Nat).Nodup, y110 = true, Sim Tryz.prog GL0 31 [.val true (pvL (e_api_Re y101.1)), one (.str ([97] : List UInt8))] [] (one (.bool y112)) [], ([] : List Nat).Nodup, (!y112) = true, Sim Tryz.prog GL0 34 [] [] (.val true (pvL (e_api_Re y114))) [], ([] : List Nat).Nodup, Sim Tryz.prog GL0 31 [.val true (pvL (e_api_Re y114)), one (.str ([120, 195, 169] : List UInt8))] [] (one (.bool y115)) [], ([] : List Nat).Nodup, y115 = true, Sim Tryz.prog GL0 33 [one (.str ([97, 46, 98] : List UInt8))] [] (.val true (pvL (e_api_Re y117))) [], ([] : List Nat).Nodup, Sim Tryz.prog GL0 31 [.val true (pvL (e_api_Re y117)), one (.str ([97, 46, 98] : List UInt8))] [] (one (.bool y118)) [], ([] : List Nat).Nodup, y118 = false]) (by kernel_rfl) (sound _ _) ⟨hb104, hb105, hb106, hb107, hb108, hb109, (F31_ok k _ _ _ hy110), (by decide), hb111, (F31_ok k _ _ _ hy112), (by decide), hb113, (F34_ok k _ hy114), (by decide), (F31_ok k _ _ _ hy115), (by decide), hb116, (F33_ok k _ _ hy117), (by decide), (F31_ok k _ _ _ hy118), (by decide), hb119, trivial⟩ ?_
                        exact ⟨false, by kernel_rfl, by kernel_rfl, hF⟩
                    · have hF := cond_f hF hb116
                      refine WA.reg [0] [] [(2, .bool true), (7, .bool true), (12, .bool true), (17, .bool true), (21, .bool true), (25, .bool true), (27, .callR [] (one (.bool y110))), (29, .bool true), (31, .callR [] (one (.bool y112))), (34, .bool true), (35, .callR [] (.val true (pvL (e_api_Re y114)))), (36, .callR [] (one (.bool y115))), (38, .bool false)] (env' := [(0, one (.bool false))]) (os' := []) (O := [(y101.2 == 0) = true, (y101.1.f_Kind == 4) = true, (y101.1.f_Min == 2) = true, (y101.1.f_Max == 2) = true, (y102.2 == 3) = true, (y103.2 == 8) = true, Sim Tryz.prog GL0 31 [.val true (pvL (e_api_Re y101.1)), one (.str ([97, 97] : List UInt8))] [] (one (.bool y110)) [], ([] : List Nat).Nodup, y110 = true, Sim Tryz.prog GL0 31 [.val true (pvL (e_api_Re y101.1)), one (.str ([97] : List UInt8))] [] (one (.bool y112)) [], ([] : List Nat).Nodup, (!y112) = true, Sim Tryz.prog GL0 34 [] [] (.val true (pvL (e_api_Re y114))) [], ([] : List Nat).Nodup, Sim Tryz.prog GL0 31 [.val true (pvL (e_api_Re y114)), one (.str ([120, 195, 169] : List UInt8))] [] (one (.bool y115)) [], ([] : List Nat).Nodup, y115 = false]) (by kernel_rfl) (sound _ _) ⟨hb104, hb105, hb106, hb107, hb108, hb109, (F31_ok k _ _ _ hy110), (by decide), hb111, (F31_ok k _ _ _ hy112), (by decide), hb113, (F34_ok k _ hy114), (by decide), (F31_ok k _ _ _ hy115), (by decide), hb116, trivial⟩ ?_
                      exact ⟨false, by kernel_rfl, by kernel_rfl, hF⟩
                  · have hF := cond_f hF hb113
                    refine WA.reg [0] [] [(2, .bool true), (7, .bool true), (12, .bool true), (17, .bool true), (21, .bool true), (25, .bool true), (27, .callR [] (one (.bool y110))), (29, .bool true), (31, .callR [] (one (.bool y112))), (34, .bool false)] (env' := [(0, one (.bool false))]) (os' := []) (O := [(y101.2 == 0) = true, (y101.1.f_Kind == 4) = true, (y101.1.f_Min == 2) = true, (y101.1.f_Max == 2) = true, (y102.2 == 3) = true, (y103.2 == 8) = true, Sim Tryz.prog GL0 31 [.val true (pvL (e_api_Re y101.1)), one (.str ([97, 97] : List UInt8))] [] (one (.bool y110)) [], ([] : List Nat).Nodup, y110 = true, Sim Tryz.prog GL0 31 [.val true (pvL (e_api_Re y101.1)), one (.str ([97] : List UInt8))] [] (one (.bool y112)) [], ([] : List Nat).Nodup, (!y112) = false]) (by kernel_rfl) (sound _ _) ⟨hb104, hb105, hb106, hb107, hb108, hb109, (F31_ok k _ _ _ hy110), (by decide), hb111, (F31_ok k _ _ _ hy112), (by decide), hb113, trivial⟩ ?_
                    exact ⟨false, by kernel_rfl, by kernel_rfl, hF⟩
                · have hF := cond_f hF hb111
                  refine WA.reg [0] [] [(2, .bool true), (7, .bool true), (12, .bool true), (17, .bool true), (21, .bool true), (25, .bool true), (27, .callR [] (one (.bool y110))), (29, .bool false)] (env' := [(0, one (.bool false))]) (os' := []) (O := [(y101.2 == 0) = true, (y101.1.f_Kind == 4) = true, (y101.1.f_Min == 2) = true, (y101.1.f_Max == 2) = true, (y102.2 == 3) = true, (y103.2 == 8) = true, Sim Tryz.prog GL0 31 [.val true (pvL (e_api_Re y101.1)), one (.str ([97, 97] : List UInt8))] [] (one (.bool y110)) [], ([] : List Nat).Nodup, y110 = false]) (by kernel_rfl) (sound _ _) ⟨hb104, hb105, hb106, hb107, hb108, hb109, (F31_ok k _ _ _ hy110), (by decide), hb111, trivial⟩ ?_
                  exact ⟨false, by kernel_rfl, by kernel_rfl, hF⟩
              · have hF := cond_f hF hb109
                refine WA.reg [0] [] [(2, .bool true), (7, .bool true), (12, .bool true), (17, .bool true), (21, .bool true), (25, .bool false)] (env' := [(0, one (.bool false))]) (os' := []) (O := [(y101.2 == 0) = true, (y101.1.f_Kind == 4) = true, (y101.1.f_Min == 2) = true, (y101.1.f_Max == 2) = true, (y102.2 == 3) = true, (y103.2 == 8) = false]) (by kernel_rfl) (sound _ _) ⟨hb104, hb105, hb106, hb107, hb108, hb109, trivial⟩ ?_
                exact ⟨false, by kernel_rfl, by kernel_rfl, hF⟩
            · have hF := cond_f hF hb108
              refine WA.reg [0] [] [(2, .bool true), (7, .bool true), (12, .bool true), (17, .bool true), (21, .bool false)] (env' := [(0, one (.bool false))]) (os' := []) (O := [(y101.2 == 0) = true, (y101.1.f_Kind == 4) = true, (y101.1.f_Min == 2) = true, (y101.1.f_Max == 2) = true, (y102.2 == 3) = false]) (by kernel_rfl) (sound _ _) ⟨hb104, hb105, hb106, hb107, hb108, trivial⟩ ?_
              exact ⟨false, by kernel_rfl, by kernel_rfl, hF⟩
          · have hF := cond_f hF hb107
            refine WA.reg [0] [] [(2, .bool true), (7, .bool true), (12, .bool true), (17, .bool false)] (env' := [(0, one (.bool false))]) (os' := []) (O := [(y101.2 == 0) = true, (y101.1.f_Kind == 4) = true, (y101.1.f_Min == 2) = true, (y101.1.f_Max == 2) = false]) (by kernel_rfl) (sound _ _) ⟨hb104, hb105, hb106, hb107, trivial⟩ ?_
            exact ⟨false, by kernel_rfl, by kernel_rfl, hF⟩
        · have hF := cond_f hF hb106
          refine WA.reg [0] [] [(2, .bool true), (7, .bool true), (12, .bool false)] (env' := [(0, one (.bool false))]) (os' := []) (O := [(y101.2 == 0) = true, (y101.1.f_Kind == 4) = true, (y101.1.f_Min == 2) = false]) (by kernel_rfl) (sound _ _) ⟨hb104, hb105, hb106, trivial⟩ ?_
          exact ⟨false, by kernel_rfl, by kernel_rfl, hF⟩
      · have hF := cond_f hF hb105
        refine WA.reg [0] [] [(2, .bool true), (7, .bool false)] (env' := [(0, one (.bool false))]) (os' := []) (O := [(y101.2 == 0) = true, (y101.1.f_Kind == 4) = false]) (by kernel_rfl) (sound _ _) ⟨hb104, hb105, trivial⟩ ?_
        exact ⟨false, by kernel_rfl, by kernel_rfl, hF⟩
    · have hF := cond_f hF hb104
      refine WA.reg [0] [] [(2, .bool false)] (env' := [(0, one (.bool false))]) (os' := []) (O := [(y101.2 == 0) = false]) (by kernel_rfl) (sound _ _) ⟨hb104, trivial⟩ ?_
      exact ⟨false, by kernel_rfl, by kernel_rfl, hF⟩
/-! entrepot entrepotlaw10.RexQuotes -/
def F9_j1 (v113 : Bool) : Option Bool :=
  some v113
def F9_j3 (v132 : Bool) : Option Bool :=
  some v132
def F9_j2 (k : Nat) (v0 : List UInt8) (v1 : List UInt8) (v119 : Bool) : Option Bool :=
  cond v119 ((some false)) ((F26 k).bind fun y121 => cond y121 ((F34 k).bind fun y123 => (F31 k y123 v0).bind fun y124 => cond y124 ((F34 k).bind fun y126 => (F31 k y126 v1).bind fun y127 => (F25 k v1).bind fun y128 => cond (y127 == y128) ((F34 k).bind fun y130 => (F30 k y130).bind fun y131 => (F9_j3 y131)) ((F9_j3 false))) ((F9_j3 false))) ((F9_j3 false)))
def F9_j0 (k : Nat) (v0 : List UInt8) (v1 : List UInt8) (v102 : Bool) : Option Bool :=
  cond v102 ((F26 k).bind fun y104 => (some y104)) ((F33 k v0).bind fun y105 => (F25 k v0).bind fun y106 => (cond (!y106) ((F26 k).bind fun y108 => cond y108 ((F31 k y105 ([] : List UInt8)).bind fun y110 => cond y110 ((F31 k y105 v0).bind fun y112 => (F9_j1 (!y112))) ((F9_j1 false))) ((F9_j1 false))) ((F30 k y105).bind fun y114 => cond (!y114) ((F9_j2 k v0 v1 true)) ((F31 k y105 v0).bind fun y116 => cond (!y116) ((F9_j2 k v0 v1 true)) ((F31 k y105 v1).bind fun y118 => (F9_j2 k v0 v1 (!(y118 == (v0 == v1)))))))))
def F9 (k : Nat) (v0 : List UInt8) (v1 : List UInt8) : Option Bool :=
  (cond (decide ((v0.length : Int) > 60)) ((F9_j0 k v0 v1 true)) ((F9_j0 k v0 v1 (decide ((v1.length : Int) > 60)))))
theorem F9_ok (k : Nat) (v0 : List UInt8) (v1 : List UInt8) (r : Bool) (hF : F9 k v0 v1 = some r) : Sim Tryz.prog GL0 9 [one (.str v0), one (.str v1)] [] (one (.bool r)) [] := by
  refine sim_of [] Tryz.func9 rfl (by kernel_rfl) (by kernel_rfl) ?_
  show WA _ _ 67 _ _ _
  refine WA.seq ?_
  refine WA.reg [0, 1] [] [] (env' := [(0, one (.str v0)), (1, one (.str v1))]) (os' := []) (O := []) (by kernel_rfl) (sound _ _) trivial ?_
  refine WA.seq ?_
  refine WA.join (fun s_ => ∃ (v102 : Bool), pickE s_.env [0, 1, 13] = [(0, one (.str v0)), (1, one (.str v1)), (13, one (.bool v102))] ∧ pickE s_.os [] = [] ∧ F9_j0 k v0 v1 v102 = some r) ?_ ?_
  · rintro s_ ⟨v102, he, ho, hF⟩
    refine WA.keep _ _ he ho ?_
    clear he ho
    refine WA.cond (b := v102) rfl (fun hb103 => ?_) (fun hb103 => ?_)
    · have hF := cond_t hF hb103
      refine WA.seq ?_
      obtain ⟨y104, hy104, hF⟩ := bind_some hF
      refine WA.reg [4] [] [(0, .callR [] (one (.bool y104)))] (env' := [(4, one (.bool y104))]) (os' := []) (O := [Sim Tryz.prog GL0 26 [] [] (one (.bool y104)) [], ([] : List Nat).Nodup]) (by kernel_rfl) (sound _ _) ⟨(F26_ok k _ hy104), (by decide), trivial⟩ ?_
      refine WA.ret ?_
      obtain rfl := Option.some.inj hF
      exact out_ret (one (.bool y104)) [] (by kernel_rfl) (by kernel_rfl) (by kernel_rfl) (by kernel_rfl) (by decide) rfl rfl
    · have hF := cond_f hF hb103
      refine WA.skip ?_
      refine WA.seq ?_
      obtain ⟨y105, hy105, hF⟩ := bind_some hF
      refine WA.reg [0, 1, 5] [105] [(1, .callR [] (.val true (pvL (e_api_Re y105)))), (2, .obj 105)] (env' := [(0, one (.str v0)), (1, one (.str v1)), (5, .val false [.ptr 105 1 0 0])]) (os' := [(105, .box (pvL (e_api_Re y105)))]) (O := [Sim Tryz.prog GL0 33 [one (.str v0)] [] (.val true (pvL (e_api_Re y105))) [], ([] : List Nat).Nodup]) (by kernel_rfl) (sound _ _) ⟨(F33_ok k _ _ hy105), (by decide), trivial⟩ ?_
      refine WA.seq ?_
      refine WA.seq ?_
      obtain ⟨y106, hy106, hF⟩ := bind_some hF
      refine WA.reg [0, 1, 5, 19] [105] [(1, .callR [] (one (.bool y106)))] (env' := [(0, one (.str v0)), (1, one (.str v1)), (5, .val false [.ptr 105 1 0 0]), (19, one (.bool (!y106)))]) (os' := [(105, .box (pvL (e_api_Re y105)))]) (O := [Sim Tryz.prog GL0 25 [one (.str v0)] [] (one (.bool y106)) [], ([] : List Nat).Nodup]) (by kernel_rfl) (sound _ _) ⟨(F25_ok k _ _ hy106), (by decide), trivial⟩ ?_
      refine WA.cond (b := (!y106)) rfl (fun hb107 => ?_) (fun hb107 => ?_)
      · have hF := cond_t hF hb107
        refine WA.join (fun s_ => ∃ (v113 : Bool), pickE s_.env [4] = [(4, one (.bool v113))] ∧ pickE s_.os [] = [] ∧ F9_j1 v113 = some r) ?_ ?_
        · rintro s_ ⟨v113, he, ho, hF⟩
          refine WA.keep _ _ he ho ?_
          clear he ho
          refine WA.ret ?_
          obtain rfl := Option.some.inj hF
          exact out_ret (one (.bool v113)) [] (by kernel_rfl) (by kernel_rfl) (by kernel_rfl) (by kernel_rfl) (by decide) rfl rfl
        · obtain ⟨y108, hy108, hF⟩ := bind_some hF
          rcases Bool.eq_false_or_eq_true y108 with hb109 | hb109
          · have hF := cond_t hF hb109
            obtain ⟨y110, hy110, hF⟩ := bind_some hF
            rcases Bool.eq_false_or_eq_true y110 with hb111 | hb111
            · have hF := cond_t hF hb111
              obtain ⟨y112, hy112, hF⟩ := bind_some hF
              refine WA.reg [4] [] [(0, .callR [] (one (.bool y108))), (1, .bool true), (3, .callR [] (one (.bool y110))), (5, .bool true), (8, .callR [] (one (.bool y112)))] (env' := [(4, one (.bool (!y112)))]) (os' := []) (O := [Sim Tryz.prog GL0 26 [] [] (one (.bool y108)) [], ([] : List Nat).Nodup, y108 = true, Sim Tryz.prog GL0 31 [.val true (pvL (e_api_Re y105)), one (.str ([] : List UInt8))] [] (one (.bool y110)) [], ([] : List Nat).Nodup, y110 = true, Sim Tryz.prog GL0 31 [.val true (pvL (e_api_Re y105)), one (.str v0)] [] (one (.bool y112)) [], ([] : List Nat).Nodup]) (by kernel_rfl) (sound _ _) ⟨(F26_ok k _ hy108), (by decide), hb109, (F31_ok k _ _ _ hy110), (by decide), hb111, (F31_ok k _ _ _ hy112), (by decide), trivial⟩ ?_
              exact ⟨(!y112), by kernel_rfl, by kernel_rfl, hF⟩
            · have hF := cond_f hF hb111
              refine WA.reg [4] [] [(0, .callR [] (one (.bool y108))), (1, .bool true), (3, .callR [] (one (.bool y110))), (5, .bool false)] (env' := [(4, one (.bool false))]) (os' := []) (O := [Sim Tryz.prog GL0 26 [] [] (one (.bool y108)) [], ([] : List Nat).Nodup, y108 = true, Sim Tryz.prog GL0 31 [.val true (pvL (e_api_Re y105)), one (.str ([] : List UInt8))] [] (one (.bool y110)) [], ([] : List Nat).Nodup, y110 = false]) (by kernel_rfl) (sound _ _) ⟨(F26_ok k _ hy108), (by decide), hb109, (F31_ok k _ _ _ hy110), (by decide), hb111, trivial⟩ ?_
              exact ⟨false, by kernel_rfl, by kernel_rfl, hF⟩
          · have hF := cond_f hF hb109
            refine WA.reg [4] [] [(0, .callR [] (one (.bool y108))), (1, .bool false)] (env' := [(4, one (.bool false))]) (os' := []) (O := [Sim Tryz.prog GL0 26 [] [] (one (.bool y108)) [], ([] : List Nat).Nodup, y108 = false]) (by kernel_rfl) (sound _ _) ⟨(F26_ok k _ hy108), (by decide), hb109, trivial⟩ ?_
            exact ⟨false, by kernel_rfl, by kernel_rfl, hF⟩
      · have hF := cond_f hF hb107
        refine WA.skip ?_
        refine WA.seq ?_
        refine WA.join (fun s_ => ∃ (v119 : Bool), pickE s_.env [0, 1, 48] = [(0, one (.str v0)), (1, one (.str v1)), (48, one (.bool v119))] ∧ pickE s_.os [] = [] ∧ F9_j2 k v0 v1 v119 = some r) ?_ ?_
        · rintro s_ ⟨v119, he, ho, hF⟩
          refine WA.keep _ _ he ho ?_
          clear he ho
          refine WA.cond (b := v119) rfl (fun hb120 => ?_) (fun hb120 => ?_)
          · have hF := cond_t hF hb120
            refine WA.seq ?_
            refine WA.reg [4] [] [] (env' := [(4, one (.bool false))]) (os' := []) (O := []) (by kernel_rfl) (sound _ _) trivial ?_
            refine WA.ret ?_
            obtain rfl := Option.some.inj hF
            exact out_ret (one (.bool false)) [] (by kernel_rfl) (by kernel_rfl) (by kernel_rfl) (by kernel_rfl) (by decide) rfl rfl
          · have hF := cond_f hF hb120
            refine WA.skip ?_
            refine WA.join (fun s_ => ∃ (v132 : Bool), pickE s_.env [4] = [(4, one (.bool v132))] ∧ pickE s_.os [] = [] ∧ F9_j3 v132 = some r) ?_ ?_
            · rintro s_ ⟨v132, he, ho, hF⟩
              refine WA.keep _ _ he ho ?_
              clear he ho
              refine WA.ret ?_
              obtain rfl := Option.some.inj hF
              exact out_ret (one (.bool v132)) [] (by kernel_rfl) (by kernel_rfl) (by kernel_rfl) (by kernel_rfl) (by decide) rfl rfl
            · obtain ⟨y121, hy121, hF⟩ := bind_some hF
              rcases Bool.eq_false_or_eq_true y121 with hb122 | hb122
              · have hF := cond_t hF hb122
                obtain ⟨y123, hy123, hF⟩ := bind_some hF
                obtain ⟨y124, hy124, hF⟩ := bind_some hF
                rcases Bool.eq_false_or_eq_true y124 with hb125 | hb125
                · have hF := cond_t hF hb125
                  obtain ⟨y126, hy126, hF⟩ := bind_some hF
                  obtain ⟨y127, hy127, hF⟩ := bind_some hF
                  obtain ⟨y128, hy128, hF⟩ := bind_some hF
                  rcases Bool.eq_false_or_eq_true (y127 == y128) with hb129 | hb129
                  · have hF := cond_t hF hb129
                    obtain ⟨y130, hy130, hF⟩ := bind_some hF
                    obtain ⟨y131, hy131, hF⟩ := bind_some hF
                    refine WA.reg [4] [] [(0, .callR [] (one (.bool y121))), (1, .bool true), (2, .callR [] (.val true (pvL (e_api_Re y123)))), (4, .callR [] (one (.bool y124))), (6, .bool true), (7, .callR [] (.val true (pvL (e_api_Re y126)))), (9, .callR [] (one (.bool y127))), (11, .callR [] (one (.bool y128))), (14, .bool true), (15, .callR [] (.val true (pvL (e_api_Re y130)))), (16, .callR [] (one (.bool y131)))] (env' := [(4, one (.bool y131))]) (os' := []) (O := [Sim Tryz.prog GL0 26 [] [] (one (.bool y121)) [], ([] : List Nat).Nodup, y121 = true, Sim Tryz.prog GL0 34 [] [] (.val true (pvL (e_api_Re y123))) [], ([] : List Nat).Nodup, Sim Tryz.prog GL0 31 [.val true (pvL (e_api_Re y123)), one (.str v0)] [] (one (.bool y124)) [], ([] : List Nat).Nodup, y124 = true, Sim Tryz.prog GL0 34 [] [] (.val true (pvL (e_api_Re y126))) [], ([] : List Nat).Nodup, Sim Tryz.prog GL0 31 [.val true (pvL (e_api_Re y126)), one (.str v1)] [] (one (.bool y127)) [], ([] : List Nat).Nodup, Sim Tryz.prog GL0 25 [one (.str v1)] [] (one (.bool y128)) [], ([] : List Nat).Nodup, (y127 == y128) = true, Sim Tryz.prog GL0 34 [] [] (.val true (pvL (e_api_Re y130))) [], ([] : List Nat).Nodup, Sim Tryz.prog GL0 30 [.val true (pvL (e_api_Re y130))] [] (one (.bool y131)) [], ([] : List Nat).Nodup]) (by kernel_rfl) (sound _ _) ⟨(F26_ok k _ hy121), (by decide), hb122, (F34_ok k _ hy123), (by decide), (F31_ok k _ _ _ hy124), (by decide), hb125, (F34_ok k _ hy126), (by decide), (F31_ok k _ _ _ hy127), (by decide), (F25_ok k _ _ hy128), (by decide), hb129, (F34_ok k _ hy130), (by decide), (F30_ok k _ _ hy131), (by decide), trivial⟩ ?_
                    exact ⟨y131, by kernel_rfl, by kernel_rfl, hF⟩
                  · have hF := cond_f hF hb129
                    refine WA.reg [4] [] [(0, .callR [] (one (.bool y121))), (1, .bool true), (2, .callR [] (.val true (pvL (e_api_Re y123)))), (4, .callR [] (one (.bool y124))), (6, .bool true), (7, .callR [] (.val true (pvL (e_api_Re y126)))), (9, .callR [] (one (.bool y127))), (11, .callR [] (one (.bool y128))), (14, .bool false)] (env' := [(4, one (.bool false))]) (os' := []) (O := [Sim Tryz.prog GL0 26 [] [] (one (.bool y121)) [], ([] : List Nat).Nodup, y121 = true, Sim Tryz.prog GL0 34 [] [] (.val true (pvL (e_api_Re y123))) [], ([] : List Nat).Nodup, Sim Tryz.prog GL0 31 [.val true (pvL (e_api_Re y123)), one (.str v0)] [] (one (.bool y124)) [], ([] : List Nat).Nodup, y124 = true, Sim Tryz.prog GL0 34 [] [] (.val true (pvL (e_api_Re y126))) [], ([] : List Nat).Nodup, Sim Tryz.prog GL0 31 [.val true (pvL (e_api_Re y126)), one (.str v1)] [] (one (.bool y127)) [], ([] : List Nat).Nodup, Sim Tryz.prog GL0 25 [one (.str v1)] [] (one (.bool y128)) [], ([] : List Nat).Nodup, (y127 == y128) = false]) (by kernel_rfl) (sound _ _) ⟨(F26_ok k _ hy121), (by decide), hb122, (F34_ok k _ hy123), (by decide), (F31_ok k _ _ _ hy124), (by decide), hb125, (F34_ok k _ hy126), (by decide), (F31_ok k _ _ _ hy127), (by decide), (F25_ok k _ _ hy128), (by decide), hb129, trivial⟩ ?_
                    exact ⟨false, by kernel_rfl, by kernel_rfl, hF⟩
                · have hF := cond_f hF hb125
                  refine WA.reg [4] [] [(0, .callR [] (one (.bool y121))), (1, .bool true), (2, .callR [] (.val true (pvL (e_api_Re y123)))), (4, .callR [] (one (.bool y124))), (6, .bool false)] (env' := [(4, one (.bool false))]) (os' := []) (O := [Sim Tryz.prog GL0 26 [] [] (one (.bool y121)) [], ([] : List Nat).Nodup, y121 = true, Sim Tryz.prog GL0 34 [] [] (.val true (pvL (e_api_Re y123))) [], ([] : List Nat).Nodup, Sim Tryz.prog GL0 31 [.val true (pvL (e_api_Re y123)), one (.str v0)] [] (one (.bool y124)) [], ([] : List Nat).Nodup, y124 = false]) (by kernel_rfl) (sound _ _) ⟨(F26_ok k _ hy121), (by decide), hb122, (F34_ok k _ hy123), (by decide), (F31_ok k _ _ _ hy124), (by decide), hb125, trivial⟩ ?_
                  exact ⟨false, by kernel_rfl, by kernel_rfl, hF⟩
              · have hF := cond_f hF hb122
                refine WA.reg [4] [] [(0, .callR [] (one (.bool y121))), (1, .bool false)] (env' := [(4, one (.bool false))]) (os' := []) (O := [Sim Tryz.prog GL0 26 [] [] (one (.bool y121)) [], ([] : List Nat).Nodup, y121 = false]) (by kernel_rfl) (sound _ _) ⟨(F26_ok k _ hy121), (by decide), hb122, trivial⟩ ?_
                exact ⟨false, by kernel_rfl, by kernel_rfl, hF⟩
        · obtain ⟨y114, hy114, hF⟩ := bind_some hF
          rcases Bool.eq_false_or_eq_true (!y114) with hb115 | hb115
          · have hF := cond_t hF hb115
            refine WA.reg [0, 1, 48] [] [(1, .callR [] (one (.bool y114))), (3, .bool true)] (env' := [(0, one (.str v0)), (1, one (.str v1)), (48, one (.bool true))]) (os' := []) (O := [Sim Tryz.prog GL0 30 [.val true (pvL (e_api_Re y105))] [] (one (.bool y114)) [], ([] : List Nat).Nodup, (!y114) = true]) (by kernel_rfl) (sound _ _) ⟨(F30_ok k _ _ hy114), (by decide), hb115, trivial⟩ ?_
            exact ⟨true, by kernel_rfl, by kernel_rfl, hF⟩
          · have hF := cond_f hF hb115
            obtain ⟨y116, hy116, hF⟩ := bind_some hF
            rcases Bool.eq_false_or_eq_true (!y116) with hb117 | hb117
            · have hF := cond_t hF hb117
              refine WA.reg [0, 1, 48] [] [(1, .callR [] (one (.bool y114))), (3, .bool false), (6, .callR [] (one (.bool y116))), (9, .bool true)] (env' := [(0, one (.str v0)), (1, one (.str v1)), (48, one (.bool true))]) (os' := []) (O := [Sim Tryz.prog GL0 30 [.val true (pvL (e_api_Re y105))] [] (one (.bool y114)) [], ([] : List Nat).Nodup, (!y114) = false, Sim Tryz.prog GL0 31 [.val true (pvL (e_api_Re y105)), one (.str v0)] [] (one (.bool y116)) [], ([] : List Nat).Nodup, (!y116) = true]) (by kernel_rfl) (sound _ _) ⟨(F30_ok k _ _ hy114), (by decide), hb115, (F31_ok k _ _ _ hy116), (by decide), hb117, trivial⟩ ?_
              exact ⟨true, by kernel_rfl, by kernel_rfl, hF⟩
            · have hF := cond_f hF hb117
              obtain ⟨y118, hy118, hF⟩ := bind_some hF
              refine WA.reg [0, 1, 48] [] [(1, .callR [] (one (.bool y114))), (3, .bool false), (6, .callR [] (one (.bool y116))), (9, .bool false), (12, .callR [] (one (.bool y118)))] (env' := [(0, one (.str v0)), (1, one (.str v1)), (48, one (.bool (!(y118 == (v0 == v1)))))]) (os' := []) (O := [Sim Tryz.prog GL0 30 [.val true (pvL (e_api_Re y105))] [] (one (.bool y114)) [], ([] : List Nat).Nodup, (!y114) = false, Sim Tryz.prog GL0 31 [.val true (pvL (e_api_Re y105)), one (.str v0)] [] (one (.bool y116)) [], ([] : List Nat).Nodup, (!y116) = false, Sim Tryz.prog GL0 31 [.val true (pvL (e_api_Re y105)), one (.str v1)] [] (one (.bool y118)) [], ([] : List Nat).Nodup]) (by kernel_rfl) (sound _ _) ⟨(F30_ok k _ _ hy114), (by decide), hb115, (F31_ok k _ _ _ hy116), (by decide), hb117, (F31_ok k _ _ _ hy118), (by decide), trivial⟩ ?_
              exact ⟨(!(y118 == (v0 == v1))), by kernel_rfl, by kernel_rfl, hF⟩
  · rcases Bool.eq_false_or_eq_true (decide ((v0.length : Int) > 60)) with hb101 | hb101
    · have hF := cond_t hF hb101
      refine WA.reg [0, 1, 13] [] [(3, .bool true)] (env' := [(0, one (.str v0)), (1, one (.str v1)), (13, one (.bool true))]) (os' := []) (O := [(decide ((v0.length : Int) > 60)) = true]) (by kernel_rfl) (sound _ _) ⟨hb101, trivial⟩ ?_
      exact ⟨true, by kernel_rfl, by kernel_rfl, hF⟩
    · have hF := cond_f hF hb101
      refine WA.reg [0, 1, 13] [] [(3, .bool false)] (env' := [(0, one (.str v0)), (1, one (.str v1)), (13, one (.bool (decide ((v1.length : Int) > 60))))]) (os' := []) (O := [(decide ((v0.length : Int) > 60)) = false]) (by kernel_rfl) (sound _ _) ⟨hb101, trivial⟩ ?_
      exact ⟨(decide ((v1.length : Int) > 60)), by kernel_rfl, by kernel_rfl, hF⟩
end Go.Proofs.YthilboheomikjaaGreatDoor
end

section
namespace Go.Proofs.YthilboheomikjaaGreatDoor
open Go.AL
set_option linter.unusedVariables false
set_option linter.unusedSimpArgs false
set_option maxRecDepth 100000

/-! entrepot entrepotlaw10.Few -/
def F21 (k : Nat) (v0 : api_Re) : Option Bool :=
  (F41 k v0 30).bind fun y101 => (some (decide (y101 ≤ 300)))
theorem F21_ok (k : Nat) (v0 : api_Re) (r : Bool) (hF : F21 k v0 = some r) : Sim Tryz.prog GL0 21 [.val true (pvL (e_api_Re v0))] [] (one (.bool r)) [] := by
  refine sim_of [] Tryz.func21 rfl (by kernel_rfl) (by kernel_rfl) ?_
  show WA _ _ 6 _ _ _
  refine WA.seq ?_
  refine WA.reg [1] [101] [(0, .obj 101)] (env' := [(1, .val false [.ptr 101 1 0 0])]) (os' := [(101, .box (pvL (e_api_Re v0)))]) (O := []) (by kernel_rfl) (sound _ _) trivial ?_
  refine WA.seq ?_
  obtain ⟨y101, hy101, hF⟩ := bind_some hF
  refine WA.reg [2] [] [(1, .callR [] (one (.int .i64 y101)))] (env' := [(2, one (.bool (decide (y101 ≤ 300))))]) (os' := []) (O := [Sim Tryz.prog GL0 41 [.val true (pvL (e_api_Re v0)), one (.int .i64 30)] [] (one (.int .i64 y101)) [], ([] : List Nat).Nodup]) (by kernel_rfl) (sound _ _) ⟨(F41_ok k _ _ _ hy101), (by decide), trivial⟩ ?_
  refine WA.ret ?_
  obtain rfl := Option.some.inj hF
  exact out_ret (one (.bool (decide (y101 ≤ 300)))) [] (by kernel_rfl) (by kernel_rfl) (by kernel_rfl) (by kernel_rfl) (by decide) rfl rfl
/-! entrepot entrepotref10.Size -/
def F20_j3 (v124 : Int) : Option Int :=
  (some (mn (w64 (v124 + 1)) 1000))
def F20_b1 (R20 : api_Re → Option Int) (self1 : Int → Int → Option Int) (v0 : api_Re) (v113 : Int) (v114 : Int) : Option Int :=
  (cond (decide (v114 < (v0.f_L.length : Int))) ((idxL v0.f_L v114).bind fun y116 => (R20 y116).bind fun y117 => (self1 (w64 (v113 + y117)) (w64 (v114 + 1)))) ((F20_j3 v113)))
def F20_l1 (R20 : api_Re → Option Int) (v0 : api_Re) : Nat → Int → Int → Option Int
  | 0, _, _ => none
  | m_ + 1, v113, v114 => F20_b1 R20 (F20_l1 R20 v0 m_) v0 v113 v114
def F20_j2 (R20 : api_Re → Option Int) (v0 : api_Re) (v121 : Int) : Option Int :=
  (idxL v0.f_L 0).bind fun y122 => (R20 y122).bind fun y123 => (F20_j3 (w64 (y123 * (mn (mx v121 1) 1000))))
def F20_j0 (R20 : api_Re → Option Int) (k : Nat) (v0 : api_Re) (v103 : Bool) : Option Int :=
  cond v103 ((F20_l1 R20 v0 k 0 0)) ((cond (v0.f_Kind == 4) ((cond (decide ((v0.f_L.length : Int) > 0)) (((cond (decide (v0.f_Max < 0)) ((F20_j2 R20 v0 (w64 (v0.f_Min + 1)))) ((F20_j2 R20 v0 v0.f_Max))))) ((F20_j3 0)))) ((F20_j3 0))))
def F20_b (R20 : api_Re → Option Int) (k : Nat) (v0 : api_Re) : Option Int :=
  ((((cond (v0.f_Kind == 1) ((some 1)) ((cond (v0.f_Kind == 2) ((F20_j0 R20 k v0 (v0.f_Kind == 2))) ((F20_j0 R20 k v0 (v0.f_Kind == 3)))))))))
theorem F20_b_ok (R20 : api_Re → Option Int) (IH20 : ∀ (v0 : api_Re) (r : Int), R20 v0 = some r → Sim Tryz.prog GL0 20 [.val true (pvL (e_api_Re v0))] [] (one (.int .i64 r)) []) (k : Nat) (v0 : api_Re) (r : Int) (hF : F20_b R20 k v0 = some r) : Sim Tryz.prog GL0 20 [.val true (pvL (e_api_Re v0))] [] (one (.int .i64 r)) [] := by
  refine sim_of [] Tryz.func20 rfl (by kernel_rfl) (by kernel_rfl) ?_
  show WA _ _ 53 _ _ _
  refine WA.seq ?_
  refine WA.reg [1] [101] [(0, .obj 101)] (env' := [(1, .val false [.ptr 101 1 0 0])]) (os' := [(101, .box (pvL (e_api_Re v0)))]) (O := []) (by kernel_rfl) (sound _ _) trivial ?_
  refine WA.seq ?_
  refine WA.reg [1, 3] [101] [] (env' := [(1, .val false [.ptr 101 1 0 0]), (3, one (.int .i64 0))]) (os' := [(101, .box (pvL (e_api_Re v0)))]) (O := []) (by kernel_rfl) (sound _ _) trivial ?_
  refine WA.join (fun s_ => ∃ (v124 : Int), pickE s_.env [3] = [(3, one (.int .i64 v124))] ∧ pickE s_.os [] = [] ∧ F20_j3 v124 = some r) ?_ ?_
  · rintro s_ ⟨v124, he, ho, hF⟩
    refine WA.keep _ _ he ho ?_
    clear he ho
    refine WA.seq ?_
    refine WA.reg [2] [] [] (env' := [(2, one (.int .i64 (mn (w64 (v124 + 1)) 1000)))]) (os' := []) (O := []) (by kernel_rfl) (sound _ _) trivial ?_
    refine WA.ret ?_
    obtain rfl := Option.some.inj hF
    exact out_ret (one (.int .i64 (mn (w64 (v124 + 1)) 1000))) [] (by kernel_rfl) (by kernel_rfl) (by kernel_rfl) (by kernel_rfl) (by decide) rfl rfl
  · refine WA.seq ?_
    refine WA.reg [1, 3, 7] [101] [] (env' := [(1, .val false [.ptr 101 1 0 0]), (3, one (.int .i64 0)), (7, one (.int .i64 v0.f_Kind))]) (os' := [(101, .box (pvL (e_api_Re v0)))]) (O := []) (by kernel_rfl) (sound _ _) trivial ?_
    refine WA.block ?_
    refine WA.seq ?_
    refine WA.reg [1, 3, 7, 8] [101] [] (env' := [(1, .val false [.ptr 101 1 0 0]), (3, one (.int .i64 0)), (7, one (.int .i64 v0.f_Kind)), (8, one (.bool (v0.f_Kind == 1)))]) (os' := [(101, .box (pvL (e_api_Re v0)))]) (O := []) (by kernel_rfl) (sound _ _) trivial ?_
    refine WA.cond (b := (v0.f_Kind == 1)) rfl (fun hb101 => ?_) (fun hb101 => ?_)
    · have hF := cond_t hF hb101
      refine WA.seq ?_
      refine WA.reg [2] [] [] (env' := [(2, one (.int .i64 1))]) (os' := []) (O := []) (by kernel_rfl) (sound _ _) trivial ?_
      refine WA.ret ?_
      obtain rfl := Option.some.inj hF
      exact out_ret (one (.int .i64 1)) [] (by kernel_rfl) (by kernel_rfl) (by kernel_rfl) (by kernel_rfl) (by decide) rfl rfl
    · have hF := cond_f hF hb101
      refine WA.join (fun s_ => ∃ (v103 : Bool), pickE s_.env [1, 3, 7, 10] = [(1, .val false [.ptr 101 1 0 0]), (3, one (.int .i64 0)), (7, one (.int .i64 v0.f_Kind)), (10, one (.bool v103))] ∧ pickE s_.os [101] = [(101, .box (pvL (e_api_Re v0)))] ∧ F20_j0 R20 k v0 v103 = some r) ?_ ?_
      · rintro s_ ⟨v103, he, ho, hF⟩
        refine WA.keep _ _ he ho ?_
        clear he ho
        refine WA.cond (b := v103) rfl (fun hb104 => ?_) (fun hb104 => ?_)
        · have hF := cond_t hF hb104
          refine WA.seq ?_
          refine WA.reg [1, 3, 4] [101] [] (env' := [(1, .val false [.ptr 101 1 0 0]), (3, one (.int .i64 0)), (4, one (.int .i64 0))]) (os' := [(101, .box (pvL (e_api_Re v0)))]) (O := []) (by kernel_rfl) (sound _ _) trivial ?_
          refine WA.block ?_
          refine WA.loop (fun m s_ => ∃ (v113 : Int) (v114 : Int), pickE s_.env [1, 3, 4] = [(1, .val false [.ptr 101 1 0 0]), (3, one (.int .i64 v113)), (4, one (.int .i64 v114))] ∧ pickE s_.os [101] = [(101, .box (pvL (e_api_Re v0)))] ∧ F20_l1 R20 v0 m v113 v114 = some r) k ⟨0, 0, by kernel_rfl, by kernel_rfl, hF⟩ ?_
          clear hF
          rintro m1 s_ ⟨v113, v114, he, ho, hF⟩
          refine WA.keep _ _ he ho ?_
          clear he ho
          cases m1 with
          | zero => cases hF
          | succ m1 =>
            obtain ⟨self1, hself1⟩ : ∃ g, g = F20_l1 R20 v0 m1 := ⟨_, rfl⟩
            have hF : F20_b1 R20 self1 v0 v113 v114 = some r := by rw [hself1]; exact hF
            refine WA.seq ?_
            refine WA.seq ?_
            refine WA.regM (α := Int) (raw := ((es_api_Re v0.f_L).length : Int)) (can := (v0.f_L.length : Int)) (fun m_ => ([(1, .val false [.ptr 101 1 0 0]), (3, one (.int .i64 v113)), (4, one (.int .i64 v114)), (17, one (.bool (decide (v114 < m_))))], [(101, .box (pvL (e_api_Re v0)))], [])) ((by first | (simp only [zlm, zla, zlc, zln, zls, zlr, zlt, zld, lens_api_Re]; done) | (simp only [zlm, zla, zlc, zln, zls, zlr, zlt, zld, lens_api_Re]; omega) | omega)) [1, 3, 4, 17] [101] [] (env' := [(1, .val false [.ptr 101 1 0 0]), (3, one (.int .i64 v113)), (4, one (.int .i64 v114)), (17, one (.bool (decide (v114 < (v0.f_L.length : Int)))))]) (os' := [(101, .box (pvL (e_api_Re v0)))]) (O := []) (by kernel_rfl) (by kernel_rfl) (sound _ _) trivial ?_
            refine WA.cond (b := (decide (v114 < (v0.f_L.length : Int)))) rfl (fun hb115 => ?_) (fun hb115 => ?_)
            · have hF := cond_t hF hb115
              refine WA.skip ?_
              refine WA.seq ?_
              refine WA.block ?_
              obtain ⟨y116, hy116, hF⟩ := bind_some hF
              obtain ⟨y117, hy117, hF⟩ := bind_some hF
              refine WA.reg [1, 3, 4] [101] [(4, .cells (e_api_Re y116)), (6, .callR [] (one (.int .i64 y117)))] (env' := [(1, .val false [.ptr 101 1 0 0]), (3, one (.int .i64 (w64 (v113 + y117)))), (4, one (.int .i64 v114))]) (os' := [(101, .box (pvL (e_api_Re v0)))]) (O := [idxL (es_api_Re v0.f_L) v114 = some (e_api_Re y116), Sim Tryz.prog GL0 20 [.val true (pvL (e_api_Re y116))] [] (one (.int .i64 y117)) [], ([] : List Nat).Nodup]) (by kernel_rfl) (sound _ _) ⟨(idx_api_Re hy116), (IH20 _ _ hy117), (by decide), trivial⟩ ?_
              refine WA.reg [1, 3, 4] [101] [] (env' := [(1, .val false [.ptr 101 1 0 0]), (3, one (.int .i64 (w64 (v113 + y117)))), (4, one (.int .i64 (w64 (v114 + 1))))]) (os' := [(101, .box (pvL (e_api_Re v0)))]) (O := []) (by kernel_rfl) (sound _ _) trivial ?_
              exact ⟨m1, Nat.lt_succ_self _, (w64 (v113 + y117)), (w64 (v114 + 1)), by kernel_rfl, by kernel_rfl, by rw [hself1] at hF; exact hF⟩
            · have hF := cond_f hF hb115
              refine WA.exit ?_
              exact ⟨v113, by kernel_rfl, by kernel_rfl, hF⟩
        · have hF := cond_f hF hb104
          refine WA.seq ?_
          refine WA.reg [1, 3, 28] [101] [] (env' := [(1, .val false [.ptr 101 1 0 0]), (3, one (.int .i64 0)), (28, one (.bool (v0.f_Kind == 4)))]) (os' := [(101, .box (pvL (e_api_Re v0)))]) (O := []) (by kernel_rfl) (sound _ _) trivial ?_
          refine WA.cond (b := (v0.f_Kind == 4)) rfl (fun hb118 => ?_) (fun hb118 => ?_)
          · have hF := cond_t hF hb118
            refine WA.seq ?_
            refine WA.regM (α := Int) (raw := ((es_api_Re v0.f_L).length : Int)) (can := (v0.f_L.length : Int)) (fun m_ => ([(1, .val false [.ptr 101 1 0 0]), (3, one (.int .i64 0)), (33, one (.bool (decide (m_ > 0))))], [(101, .box (pvL (e_api_Re v0)))], [])) ((by first | (simp only [zlm, zla, zlc, zln, zls, zlr, zlt, zld, lens_api_Re]; done) | (simp only [zlm, zla, zlc, zln, zls, zlr, zlt, zld, lens_api_Re]; omega) | omega)) [1, 3, 33] [101] [] (env' := [(1, .val false [.ptr 101 1 0 0]), (3, one (.int .i64 0)), (33, one (.bool (decide ((v0.f_L.length : Int) > 0))))]) (os' := [(101, .box (pvL (e_api_Re v0)))]) (O := []) (by kernel_rfl) (by kernel_rfl) (sound _ _) trivial ?_
            refine WA.cond (b := (decide ((v0.f_L.length : Int) > 0))) rfl (fun hb119 => ?_) (fun hb119 => ?_)
            · have hF := cond_t hF hb119
              refine WA.seq ?_
              refine WA.reg [1, 5] [101] [] (env' := [(1, .val false [.ptr 101 1 0 0]), (5, one (.int .i64 v0.f_Max))]) (os' := [(101, .box (pvL (e_api_Re v0)))]) (O := []) (by kernel_rfl) (sound _ _) trivial ?_
              refine WA.join (fun s_ => ∃ (v121 : Int), pickE s_.env [1, 5] = [(1, .val false [.ptr 101 1 0 0]), (5, one (.int .i64 v121))] ∧ pickE s_.os [101] = [(101, .box (pvL (e_api_Re v0)))] ∧ F20_j2 R20 v0 v121 = some r) ?_ ?_
              · rintro s_ ⟨v121, he, ho, hF⟩
                refine WA.keep _ _ he ho ?_
                clear he ho
                obtain ⟨y122, hy122, hF⟩ := bind_some hF
                obtain ⟨y123, hy123, hF⟩ := bind_some hF
                refine WA.reg [3] [] [(2, .cells (e_api_Re y122)), (4, .callR [] (one (.int .i64 y123)))] (env' := [(3, one (.int .i64 (w64 (y123 * (mn (mx v121 1) 1000)))))]) (os' := []) (O := [idxL (es_api_Re v0.f_L) 0 = some (e_api_Re y122), Sim Tryz.prog GL0 20 [.val true (pvL (e_api_Re y122))] [] (one (.int .i64 y123)) [], ([] : List Nat).Nodup]) (by kernel_rfl) (sound _ _) ⟨(idx_api_Re hy122), (IH20 _ _ hy123), (by decide), trivial⟩ ?_
                exact ⟨(w64 (y123 * (mn (mx v121 1) 1000))), by kernel_rfl, by kernel_rfl, hF⟩
              · refine WA.seq ?_
                refine WA.reg [1, 5, 37] [101] [] (env' := [(1, .val false [.ptr 101 1 0 0]), (5, one (.int .i64 v0.f_Max)), (37, one (.bool (decide (v0.f_Max < 0))))]) (os' := [(101, .box (pvL (e_api_Re v0)))]) (O := []) (by kernel_rfl) (sound _ _) trivial ?_
                refine WA.cond (b := (decide (v0.f_Max < 0))) rfl (fun hb120 => ?_) (fun hb120 => ?_)
                · have hF := cond_t hF hb120
                  refine WA.reg [1, 5] [101] [] (env' := [(1, .val false [.ptr 101 1 0 0]), (5, one (.int .i64 (w64 (v0.f_Min + 1))))]) (os' := [(101, .box (pvL (e_api_Re v0)))]) (O := []) (by kernel_rfl) (sound _ _) trivial ?_
                  exact ⟨(w64 (v0.f_Min + 1)), by kernel_rfl, by kernel_rfl, hF⟩
                · have hF := cond_f hF hb120
                  refine WA.skip ?_
                  exact ⟨v0.f_Max, by kernel_rfl, by kernel_rfl, hF⟩
            · have hF := cond_f hF hb119
              refine WA.skip ?_
              exact ⟨0, by kernel_rfl, by kernel_rfl, hF⟩
          · have hF := cond_f hF hb118
            refine WA.skip ?_
            exact ⟨0, by kernel_rfl, by kernel_rfl, hF⟩
      · refine WA.seq ?_
        refine WA.reg [1, 3, 7, 10] [101] [] (env' := [(1, .val false [.ptr 101 1 0 0]), (3, one (.int .i64 0)), (7, one (.int .i64 v0.f_Kind)), (10, one (.bool (v0.f_Kind == 2)))]) (os' := [(101, .box (pvL (e_api_Re v0)))]) (O := []) (by kernel_rfl) (sound _ _) trivial ?_
        refine WA.cond (b := (v0.f_Kind == 2)) rfl (fun hb102 => ?_) (fun hb102 => ?_)
        · have hF := cond_t hF hb102
          refine WA.skip ?_
          exact ⟨(v0.f_Kind == 2), by kernel_rfl, by kernel_rfl, hF⟩
        · have hF := cond_f hF hb102
          refine WA.reg [1, 3, 7, 10] [101] [] (env' := [(1, .val false [.ptr 101 1 0 0]), (3, one (.int .i64 0)), (7, one (.int .i64 v0.f_Kind)), (10, one (.bool (v0.f_Kind == 3)))]) (os' := [(101, .box (pvL (e_api_Re v0)))]) (O := []) (by kernel_rfl) (sound _ _) trivial ?_
          exact ⟨(v0.f_Kind == 3), by kernel_rfl, by kernel_rfl, hF⟩
def F20 : Nat → api_Re → Option Int
  | 0, _ => none
  | k + 1, v0 => F20_b (F20 k) k v0
theorem F20_ok : ∀ (k : Nat), ∀ (v0 : api_Re) (r : Int), F20 k v0 = some r → Sim Tryz.prog GL0 20 [.val true (pvL (e_api_Re v0))] [] (one (.int .i64 r)) []
  | 0 => fun _ _ hF => by cases hF
  | k + 1 => fun v0 r hF => F20_b_ok (F20 k) (F20_ok k) k v0 r hF
/-! entrepot entrepotref10.right -/
def F43_b7 (R43 : api_Re → Option Bool) (self7 : Int → Option Bool) (v0 : api_Re) (v178 : Int) : Option Bool :=
  (cond (decide (v178 < (v0.f_L.length : Int))) ((idxL v0.f_L v178).bind fun y180 => (R43 y180).bind fun y181 => (cond (!y181) ((some false)) ((self7 (w64 (v178 + 1)))))) (((some true))))
def F43_l7 (R43 : api_Re → Option Bool) (v0 : api_Re) : Nat → Int → Option Bool
  | 0, _ => none
  | m_ + 1, v178 => F43_b7 R43 (F43_l7 R43 v0 m_) v0 v178
def F43_j6 (R43 : api_Re → Option Bool) (k : Nat) (v0 : api_Re) : Option Bool :=
  (F43_l7 R43 v0 k 0)
def F43_j5 (R43 : api_Re → Option Bool) (k : Nat) (v0 : api_Re) (v167 : Bool) : Option Bool :=
  cond v167 ((some false)) ((F43_j6 R43 k v0))
def F43_j4 (self3 : Int → Option Bool) (v141 : Int) (v155 : Bool) : Option Bool :=
  cond v155 ((some false)) ((self3 (w64 (v141 + 1))))
def F43_b3 (k : Nat) (self3 : Int → Option Bool) (v0 : api_Re) (v141 : Int) : Option Bool :=
  (cond (decide (v141 < (v0.f_Set.length : Int))) ((idxL v0.f_Set v141).bind fun y143 => (F67 k y143.f_Lo).bind fun y144 => cond (!y144) ((F43_j4 self3 v141 true)) ((F67 k y143.f_Hi).bind fun y146 => cond (!y146) ((F43_j4 self3 v141 true)) (cond (decide (y143.f_Lo > y143.f_Hi)) ((F43_j4 self3 v141 true)) (cond (decide (y143.f_Lo < 55296)) (cond (decide (y143.f_Hi > 57343)) ((F43_j4 self3 v141 true)) (cond (decide (v141 > 0)) ((idxL v0.f_Set (w64 (v141 - 1))).bind fun y152 => (F43_j4 self3 v141 (decide (y143.f_Lo ≤ (w64 (y152.f_Hi + 1)))))) ((F43_j4 self3 v141 false)))) (cond (decide (v141 > 0)) ((idxL v0.f_Set (w64 (v141 - 1))).bind fun y154 => (F43_j4 self3 v141 (decide (y143.f_Lo ≤ (w64 (y154.f_Hi + 1)))))) ((F43_j4 self3 v141 false))))))) (((some ((v0.f_L.length : Int) == 0)))))
def F43_l3 (k : Nat) (v0 : api_Re) : Nat → Int → Option Bool
  | 0, _ => none
  | m_ + 1, v141 => F43_b3 k (F43_l3 k v0 m_) v0 v141
def F43_j0 (R43 : api_Re → Option Bool) (k : Nat) (v0 : api_Re) (v107 : Bool) : Option Bool :=
  cond v107 ((some false)) (((((cond (v0.f_Kind == 1) ((F43_l3 k v0 k 0)) ((cond (v0.f_Kind == 2) ((cond ((v0.f_L.length : Int) == 1) ((some false)) ((F43_j6 R43 k v0)))) ((cond (v0.f_Kind == 3) ((cond (decide ((v0.f_L.length : Int) < 2)) ((some false)) ((F43_j6 R43 k v0)))) ((cond (v0.f_Kind == 4) (cond ((v0.f_L.length : Int) != 1) ((F43_j5 R43 k v0 true)) (cond (decide (v0.f_Min < 0)) ((F43_j5 R43 k v0 true)) (cond (decide (v0.f_Min > 20)) ((F43_j5 R43 k v0 true)) (cond (v0.f_Max != (-1)) (cond (decide (v0.f_Max < v0.f_Min)) ((F43_j5 R43 k v0 true)) ((F43_j5 R43 k v0 (decide (v0.f_Max > 20))))) ((F43_j5 R43 k v0 false)))))) ((some false)))))))))))))
def F43_b (R43 : api_Re → Option Bool) (k : Nat) (v0 : api_Re) : Option Bool :=
  (cond (v0.f_Kind != 1) (cond (decide ((v0.f_Set.length : Int) > 0)) ((F43_j0 R43 k v0 true)) (cond (v0.f_Kind != 4) (cond (v0.f_Min != 0) ((F43_j0 R43 k v0 true)) ((F43_j0 R43 k v0 (v0.f_Max != 0)))) ((F43_j0 R43 k v0 false)))) (cond (v0.f_Kind != 4) (cond (v0.f_Min != 0) ((F43_j0 R43 k v0 true)) ((F43_j0 R43 k v0 (v0.f_Max != 0)))) ((F43_j0 R43 k v0 false))))
theorem F43_b_ok (R43 : api_Re → Option Bool) (IH43 : ∀ (v0 : api_Re) (r : Bool), R43 v0 = some r → Sim Tryz.prog GL0 43 [.val true (pvL (e_api_Re v0))] [] (one (.bool r)) []) (k : Nat) (v0 : api_Re) (r : Bool) (hF : F43_b R43 k v0 = some r) : Sim Tryz.prog GL0 43 [.val true (pvL (e_api_Re v0))] [] (one (.bool r)) [] := by
  refine sim_of [] Tryz.func43 rfl (by kernel_rfl) (by kernel_rfl) ?_
  show WA _ _ 147 _ _ _
  refine WA.seq ?_
  refine WA.reg [1] [101] [(0, .obj 101)] (env' := [(1, .val false [.ptr 101 1 0 0])]) (os' := [(101, .box (pvL (e_api_Re v0)))]) (O := []) (by kernel_rfl) (sound _ _) trivial ?_
  refine WA.seq ?_
  refine WA.join (fun s_ => ∃ (v107 : Bool), pickE s_.env [1, 30] = [(1, .val false [.ptr 101 1 0 0]), (30, one (.bool v107))] ∧ pickE s_.os [101] = [(101, .box (pvL (e_api_Re v0)))] ∧ F43_j0 R43 k v0 v107 = some r) ?_ ?_
  · rintro s_ ⟨v107, he, ho, hF⟩
    refine WA.keep _ _ he ho ?_
    clear he ho
    refine WA.cond (b := v107) rfl (fun hb108 => ?_) (fun hb108 => ?_)
    · have hF := cond_t hF hb108
      refine WA.seq ?_
      refine WA.reg [2] [] [] (env' := [(2, one (.bool false))]) (os' := []) (O := []) (by kernel_rfl) (sound _ _) trivial ?_
      refine WA.ret ?_
      obtain rfl := Option.some.inj hF
      exact out_ret (one (.bool false)) [] (by kernel_rfl) (by kernel_rfl) (by kernel_rfl) (by kernel_rfl) (by decide) rfl rfl
    · have hF := cond_f hF hb108
      refine WA.skip ?_
      refine WA.seq ?_
      refine WA.regM (α := Int) (raw := ((es_api_Re v0.f_L).length : Int)) (can := (v0.f_L.length : Int)) (fun m_ => ([(1, .val false [.ptr 101 1 0 0]), (3, one (.int .i64 m_))], [(101, .box (pvL (e_api_Re v0)))], [])) ((by first | (simp only [zlm, zla, zlc, zln, zls, zlr, zlt, zld, lens_api_Re]; done) | (simp only [zlm, zla, zlc, zln, zls, zlr, zlt, zld, lens_api_Re]; omega) | omega)) [1, 3] [101] [] (env' := [(1, .val false [.ptr 101 1 0 0]), (3, one (.int .i64 (v0.f_L.length : Int)))]) (os' := [(101, .box (pvL (e_api_Re v0)))]) (O := []) (by kernel_rfl) (by kernel_rfl) (sound _ _) trivial ?_
      refine WA.join (fun s_ => pickE s_.env [1, 3] = [(1, .val false [.ptr 101 1 0 0]), (3, one (.int .i64 (v0.f_L.length : Int)))] ∧ pickE s_.os [101] = [(101, .box (pvL (e_api_Re v0)))] ∧ F43_j6 R43 k v0 = some r) ?_ ?_
      · rintro s_ ⟨he, ho, hF⟩
        refine WA.keep _ _ he ho ?_
        clear he ho
        refine WA.seq ?_
        refine WA.seq ?_
        refine WA.reg [1, 3, 6] [101] [] (env' := [(1, .val false [.ptr 101 1 0 0]), (3, one (.int .i64 (v0.f_L.length : Int))), (6, one (.int .i64 0))]) (os' := [(101, .box (pvL (e_api_Re v0)))]) (O := []) (by kernel_rfl) (sound _ _) trivial ?_
        refine WA.block ?_
        refine WA.loop (fun m s_ => ∃ (v178 : Int), pickE s_.env [1, 3, 6] = [(1, .val false [.ptr 101 1 0 0]), (3, one (.int .i64 (v0.f_L.length : Int))), (6, one (.int .i64 v178))] ∧ pickE s_.os [101] = [(101, .box (pvL (e_api_Re v0)))] ∧ F43_l7 R43 v0 m v178 = some r) k ⟨0, by kernel_rfl, by kernel_rfl, hF⟩ ?_
        clear hF
        rintro m7 s_ ⟨v178, he, ho, hF⟩
        refine WA.keep _ _ he ho ?_
        clear he ho
        cases m7 with
        | zero => cases hF
        | succ m7 =>
          obtain ⟨self7, hself7⟩ : ∃ g, g = F43_l7 R43 v0 m7 := ⟨_, rfl⟩
          have hF : F43_b7 R43 self7 v0 v178 = some r := by rw [hself7]; exact hF
          refine WA.seq ?_
          refine WA.seq ?_
          refine WA.reg [1, 3, 6, 137] [101] [] (env' := [(1, .val false [.ptr 101 1 0 0]), (3, one (.int .i64 (v0.f_L.length : Int))), (6, one (.int .i64 v178)), (137, one (.bool (decide (v178 < (v0.f_L.length : Int)))))]) (os' := [(101, .box (pvL (e_api_Re v0)))]) (O := []) (by kernel_rfl) (sound _ _) trivial ?_
          refine WA.cond (b := (decide (v178 < (v0.f_L.length : Int)))) rfl (fun hb179 => ?_) (fun hb179 => ?_)
          · have hF := cond_t hF hb179
            refine WA.skip ?_
            refine WA.seq ?_
            refine WA.block ?_
            refine WA.seq ?_
            obtain ⟨y180, hy180, hF⟩ := bind_some hF
            obtain ⟨y181, hy181, hF⟩ := bind_some hF
            refine WA.reg [1, 3, 6, 146] [101] [(3, .cells (e_api_Re y180)), (5, .callR [] (one (.bool y181)))] (env' := [(1, .val false [.ptr 101 1 0 0]), (3, one (.int .i64 (v0.f_L.length : Int))), (6, one (.int .i64 v178)), (146, one (.bool (!y181)))]) (os' := [(101, .box (pvL (e_api_Re v0)))]) (O := [idxL (es_api_Re v0.f_L) v178 = some (e_api_Re y180), Sim Tryz.prog GL0 43 [.val true (pvL (e_api_Re y180))] [] (one (.bool y181)) [], ([] : List Nat).Nodup]) (by kernel_rfl) (sound _ _) ⟨(idx_api_Re hy180), (IH43 _ _ hy181), (by decide), trivial⟩ ?_
            refine WA.cond (b := (!y181)) rfl (fun hb182 => ?_) (fun hb182 => ?_)
            · have hF := cond_t hF hb182
              refine WA.seq ?_
              refine WA.reg [2] [] [] (env' := [(2, one (.bool false))]) (os' := []) (O := []) (by kernel_rfl) (sound _ _) trivial ?_
              refine WA.ret ?_
              obtain rfl := Option.some.inj hF
              exact out_ret (one (.bool false)) [] (by kernel_rfl) (by kernel_rfl) (by kernel_rfl) (by kernel_rfl) (by decide) rfl rfl
            · have hF := cond_f hF hb182
              refine WA.skip ?_
              refine WA.reg [1, 3, 6] [101] [] (env' := [(1, .val false [.ptr 101 1 0 0]), (3, one (.int .i64 (v0.f_L.length : Int))), (6, one (.int .i64 (w64 (v178 + 1))))]) (os' := [(101, .box (pvL (e_api_Re v0)))]) (O := []) (by kernel_rfl) (sound _ _) trivial ?_
              exact ⟨m7, Nat.lt_succ_self _, (w64 (v178 + 1)), by kernel_rfl, by kernel_rfl, by rw [hself7] at hF; exact hF⟩
          · have hF := cond_f hF hb179
            refine WA.exit ?_
            refine WA.seq ?_
            refine WA.reg [2] [] [] (env' := [(2, one (.bool true))]) (os' := []) (O := []) (by kernel_rfl) (sound _ _) trivial ?_
            refine WA.ret ?_
            obtain rfl := Option.some.inj hF
            exact out_ret (one (.bool true)) [] (by kernel_rfl) (by kernel_rfl) (by kernel_rfl) (by kernel_rfl) (by decide) rfl rfl
      · refine WA.seq ?_
        refine WA.reg [1, 3, 35] [101] [] (env' := [(1, .val false [.ptr 101 1 0 0]), (3, one (.int .i64 (v0.f_L.length : Int))), (35, one (.int .i64 v0.f_Kind))]) (os' := [(101, .box (pvL (e_api_Re v0)))]) (O := []) (by kernel_rfl) (sound _ _) trivial ?_
        refine WA.block ?_
        refine WA.seq ?_
        refine WA.reg [1, 3, 35, 36] [101] [] (env' := [(1, .val false [.ptr 101 1 0 0]), (3, one (.int .i64 (v0.f_L.length : Int))), (35, one (.int .i64 v0.f_Kind)), (36, one (.bool (v0.f_Kind == 1)))]) (os' := [(101, .box (pvL (e_api_Re v0)))]) (O := []) (by kernel_rfl) (sound _ _) trivial ?_
        refine WA.cond (b := (v0.f_Kind == 1)) rfl (fun hb109 => ?_) (fun hb109 => ?_)
        · have hF := cond_t hF hb109
          refine WA.seq ?_
          refine WA.seq ?_
          refine WA.reg [1, 3, 4] [101] [] (env' := [(1, .val false [.ptr 101 1 0 0]), (3, one (.int .i64 (v0.f_L.length : Int))), (4, one (.int .i64 0))]) (os' := [(101, .box (pvL (e_api_Re v0)))]) (O := []) (by kernel_rfl) (sound _ _) trivial ?_
          refine WA.block ?_
          refine WA.loop (fun m s_ => ∃ (v141 : Int), pickE s_.env [1, 3, 4] = [(1, .val false [.ptr 101 1 0 0]), (3, one (.int .i64 (v0.f_L.length : Int))), (4, one (.int .i64 v141))] ∧ pickE s_.os [101] = [(101, .box (pvL (e_api_Re v0)))] ∧ F43_l3 k v0 m v141 = some r) k ⟨0, by kernel_rfl, by kernel_rfl, hF⟩ ?_
          clear hF
          rintro m3 s_ ⟨v141, he, ho, hF⟩
          refine WA.keep _ _ he ho ?_
          clear he ho
          cases m3 with
          | zero => cases hF
          | succ m3 =>
            obtain ⟨self3, hself3⟩ : ∃ g, g = F43_l3 k v0 m3 := ⟨_, rfl⟩
            have hF : F43_b3 k self3 v0 v141 = some r := by rw [hself3]; exact hF
            refine WA.seq ?_
            refine WA.seq ?_
            refine WA.regM (α := Int) (raw := ((v0.f_Set.map e_api_Range).length : Int)) (can := (v0.f_Set.length : Int)) (fun m_ => ([(1, .val false [.ptr 101 1 0 0]), (3, one (.int .i64 (v0.f_L.length : Int))), (4, one (.int .i64 v141)), (42, one (.bool (decide (v141 < m_))))], [(101, .box (pvL (e_api_Re v0)))], [])) ((by first | (simp only [zlm, zla, zlc, zln, zls, zlr, zlt, zld, lens_api_Re]; done) | (simp only [zlm, zla, zlc, zln, zls, zlr, zlt, zld, lens_api_Re]; omega) | omega)) [1, 3, 4, 42] [101] [] (env' := [(1, .val false [.ptr 101 1 0 0]), (3, one (.int .i64 (v0.f_L.length : Int))), (4, one (.int .i64 v141)), (42, one (.bool (decide (v141 < (v0.f_Set.length : Int)))))]) (os' := [(101, .box (pvL (e_api_Re v0)))]) (O := []) (by kernel_rfl) (by kernel_rfl) (sound _ _) trivial ?_
            refine WA.cond (b := (decide (v141 < (v0.f_Set.length : Int)))) rfl (fun hb142 => ?_) (fun hb142 => ?_)
            · have hF := cond_t hF hb142
              refine WA.skip ?_
              refine WA.seq ?_
              refine WA.block ?_
              refine WA.seq ?_
              obtain ⟨y143, hy143, hF⟩ := bind_some hF
              refine WA.reg [1, 3, 4, 5] [101, 105] [(3, .cells (e_api_Range y143)), (5, .obj 105)] (env' := [(1, .val false [.ptr 101 1 0 0]), (3, one (.int .i64 (v0.f_L.length : Int))), (4, one (.int .i64 v141)), (5, .val false [.ptr 105 1 0 0])]) (os' := [(101, .box (pvL (e_api_Re v0))), (105, .box (pvL (e_api_Range y143)))]) (O := [idxL (v0.f_Set.map e_api_Range) v141 = some (e_api_Range y143)]) (by kernel_rfl) (sound _ _) ⟨(idx_map _ hy143), trivial⟩ ?_
              refine WA.join (fun s_ => ∃ (v155 : Bool), pickE s_.env [1, 3, 4, 93] = [(1, .val false [.ptr 101 1 0 0]), (3, one (.int .i64 (v0.f_L.length : Int))), (4, one (.int .i64 v141)), (93, one (.bool v155))] ∧ pickE s_.os [101] = [(101, .box (pvL (e_api_Re v0)))] ∧ F43_j4 self3 v141 v155 = some r) ?_ ?_
              · rintro s_ ⟨v155, he, ho, hF⟩
                refine WA.keep _ _ he ho ?_
                clear he ho
                refine WA.cond (b := v155) rfl (fun hb156 => ?_) (fun hb156 => ?_)
                · have hF := cond_t hF hb156
                  refine WA.seq ?_
                  refine WA.reg [2] [] [] (env' := [(2, one (.bool false))]) (os' := []) (O := []) (by kernel_rfl) (sound _ _) trivial ?_
                  refine WA.ret ?_
                  obtain rfl := Option.some.inj hF
                  exact out_ret (one (.bool false)) [] (by kernel_rfl) (by kernel_rfl) (by kernel_rfl) (by kernel_rfl) (by decide) rfl rfl
                · have hF := cond_f hF hb156
                  refine WA.skip ?_
                  refine WA.reg [1, 3, 4] [101] [] (env' := [(1, .val false [.ptr 101 1 0 0]), (3, one (.int .i64 (v0.f_L.length : Int))), (4, one (.int .i64 (w64 (v141 + 1))))]) (os' := [(101, .box (pvL (e_api_Re v0)))]) (O := []) (by kernel_rfl) (sound _ _) trivial ?_
                  exact ⟨m3, Nat.lt_succ_self _, (w64 (v141 + 1)), by kernel_rfl, by kernel_rfl, by rw [hself3] at hF; exact hF⟩
              · obtain ⟨y144, hy144, hF⟩ := bind_some hF
                rcases Bool.eq_false_or_eq_true (!y144) with hb145 | hb145
                · have hF := cond_t hF hb145
                  refine WA.regD (by kernel_rfl) [1, 3, 4, 93] [101] [(2, .callR [] (one (.bool y144))), (4, .bool true), (7, .callR [] (.tup []))] (env' := [(1, .val false [.ptr 101 1 0 0]), (3, one (.int .i64 (v0.f_L.length : Int))), (4, one (.int .i64 v141)), (93, one (.bool true))]) (os' := [(101, .box (pvL (e_api_Re v0)))]) (O := [Sim Tryz.prog GL0 67 [one (.int .i64 y143.f_Lo)] [] (one (.bool y144)) [], ([] : List Nat).Nodup, (!y144) = true]) (by kernel_rfl) (by kernel_rfl) (sound _ _) ⟨(F67_ok k _ _ hy144), (by decide), hb145, trivial⟩ ?_
                  exact ⟨true, by kernel_rfl, by kernel_rfl, hF⟩
                · have hF := cond_f hF hb145
                  obtain ⟨y146, hy146, hF⟩ := bind_some hF
                  rcases Bool.eq_false_or_eq_true (!y146) with hb147 | hb147
                  · have hF := cond_t hF hb147
                    refine WA.regD (by kernel_rfl) [1, 3, 4, 93] [101] [(2, .callR [] (one (.bool y144))), (4, .bool false), (7, .callR [] (one (.bool y146))), (10, .bool true)] (env' := [(1, .val false [.ptr 101 1 0 0]), (3, one (.int .i64 (v0.f_L.length : Int))), (4, one (.int .i64 v141)), (93, one (.bool true))]) (os' := [(101, .box (pvL (e_api_Re v0)))]) (O := [Sim Tryz.prog GL0 67 [one (.int .i64 y143.f_Lo)] [] (one (.bool y144)) [], ([] : List Nat).Nodup, (!y144) = false, Sim Tryz.prog GL0 67 [one (.int .i64 y143.f_Hi)] [] (one (.bool y146)) [], ([] : List Nat).Nodup, (!y146) = true]) (by kernel_rfl) (by kernel_rfl) (sound _ _) ⟨(F67_ok k _ _ hy144), (by decide), hb145, (F67_ok k _ _ hy146), (by decide), hb147, trivial⟩ ?_
                    exact ⟨true, by kernel_rfl, by kernel_rfl, hF⟩
                  · have hF := cond_f hF hb147
                    rcases Bool.eq_false_or_eq_true (decide (y143.f_Lo > y143.f_Hi)) with hb148 | hb148
                    · have hF := cond_t hF hb148
                      refine WA.regD (by kernel_rfl) [1, 3, 4, 93] [101] [(2, .callR [] (one (.bool y144))), (4, .bool false), (7, .callR [] (one (.bool y146))), (10, .bool false), (17, .bool true)] (env' := [(1, .val false [.ptr 101 1 0 0]), (3, one (.int .i64 (v0.f_L.length : Int))), (4, one (.int .i64 v141)), (93, one (.bool true))]) (os' := [(101, .box (pvL (e_api_Re v0)))]) (O := [Sim Tryz.prog GL0 67 [one (.int .i64 y143.f_Lo)] [] (one (.bool y144)) [], ([] : List Nat).Nodup, (!y144) = false, Sim Tryz.prog GL0 67 [one (.int .i64 y143.f_Hi)] [] (one (.bool y146)) [], ([] : List Nat).Nodup, (!y146) = false, (decide (y143.f_Lo > y143.f_Hi)) = true]) (by kernel_rfl) (by kernel_rfl) (sound _ _) ⟨(F67_ok k _ _ hy144), (by decide), hb145, (F67_ok k _ _ hy146), (by decide), hb147, hb148, trivial⟩ ?_
                      exact ⟨true, by kernel_rfl, by kernel_rfl, hF⟩
                    · have hF := cond_f hF hb148
                      rcases Bool.eq_false_or_eq_true (decide (y143.f_Lo < 55296)) with hb149 | hb149
                      · have hF := cond_t hF hb149
                        rcases Bool.eq_false_or_eq_true (decide (y143.f_Hi > 57343)) with hb150 | hb150
                        · have hF := cond_t hF hb150
                          refine WA.regD (by kernel_rfl) [1, 3, 4, 93] [101] [(2, .callR [] (one (.bool y144))), (4, .bool false), (7, .callR [] (one (.bool y146))), (10, .bool false), (17, .bool false), (21, .bool true), (27, .bool true)] (env' := [(1, .val false [.ptr 101 1 0 0]), (3, one (.int .i64 (v0.f_L.length : Int))), (4, one (.int .i64 v141)), (93, one (.bool true))]) (os' := [(101, .box (pvL (e_api_Re v0)))]) (O := [Sim Tryz.prog GL0 67 [one (.int .i64 y143.f_Lo)] [] (one (.bool y144)) [], ([] : List Nat).Nodup, (!y144) = false, Sim Tryz.prog GL0 67 [one (.int .i64 y143.f_Hi)] [] (one (.bool y146)) [], ([] : List Nat).Nodup, (!y146) = false, (decide (y143.f_Lo > y143.f_Hi)) = false, (decide (y143.f_Lo < 55296)) = true, (decide (y143.f_Hi > 57343)) = true]) (by kernel_rfl) (by kernel_rfl) (sound _ _) ⟨(F67_ok k _ _ hy144), (by decide), hb145, (F67_ok k _ _ hy146), (by decide), hb147, hb148, hb149, hb150, trivial⟩ ?_
                          exact ⟨true, by kernel_rfl, by kernel_rfl, hF⟩
                        · have hF := cond_f hF hb150
                          rcases Bool.eq_false_or_eq_true (decide (v141 > 0)) with hb151 | hb151
                          · have hF := cond_t hF hb151
                            obtain ⟨y152, hy152, hF⟩ := bind_some hF
                            refine WA.regD (by kernel_rfl) [1, 3, 4, 93] [101] [(2, .callR [] (one (.bool y144))), (4, .bool false), (7, .callR [] (one (.bool y146))), (10, .bool false), (17, .bool false), (21, .bool true), (27, .bool false), (30, .bool true), (37, .cells (e_api_Range y152))] (env' := [(1, .val false [.ptr 101 1 0 0]), (3, one (.int .i64 (v0.f_L.length : Int))), (4, one (.int .i64 v141)), (93, one (.bool (decide (y143.f_Lo ≤ (w64 (y152.f_Hi + 1))))))]) (os' := [(101, .box (pvL (e_api_Re v0)))]) (O := [Sim Tryz.prog GL0 67 [one (.int .i64 y143.f_Lo)] [] (one (.bool y144)) [], ([] : List Nat).Nodup, (!y144) = false, Sim Tryz.prog GL0 67 [one (.int .i64 y143.f_Hi)] [] (one (.bool y146)) [], ([] : List Nat).Nodup, (!y146) = false, (decide (y143.f_Lo > y143.f_Hi)) = false, (decide (y143.f_Lo < 55296)) = true, (decide (y143.f_Hi > 57343)) = false, (decide (v141 > 0)) = true, idxL (v0.f_Set.map e_api_Range) (w64 (v141 - 1)) = some (e_api_Range y152)]) (by kernel_rfl) (by kernel_rfl) (sound _ _) ⟨(F67_ok k _ _ hy144), (by decide), hb145, (F67_ok k _ _ hy146), (by decide), hb147, hb148, hb149, hb150, hb151, (idx_map _ hy152), trivial⟩ ?_
                            exact ⟨(decide (y143.f_Lo ≤ (w64 (y152.f_Hi + 1)))), by kernel_rfl, by kernel_rfl, hF⟩
                          · have hF := cond_f hF hb151
                            refine WA.regD (by kernel_rfl) [1, 3, 4, 93] [101] [(2, .callR [] (one (.bool y144))), (4, .bool false), (7, .callR [] (one (.bool y146))), (10, .bool false), (17, .bool false), (21, .bool true), (27, .bool false), (30, .bool false)] (env' := [(1, .val false [.ptr 101 1 0 0]), (3, one (.int .i64 (v0.f_L.length : Int))), (4, one (.int .i64 v141)), (93, one (.bool false))]) (os' := [(101, .box (pvL (e_api_Re v0)))]) (O := [Sim Tryz.prog GL0 67 [one (.int .i64 y143.f_Lo)] [] (one (.bool y144)) [], ([] : List Nat).Nodup, (!y144) = false, Sim Tryz.prog GL0 67 [one (.int .i64 y143.f_Hi)] [] (one (.bool y146)) [], ([] : List Nat).Nodup, (!y146) = false, (decide (y143.f_Lo > y143.f_Hi)) = false, (decide (y143.f_Lo < 55296)) = true, (decide (y143.f_Hi > 57343)) = false, (decide (v141 > 0)) = false]) (by kernel_rfl) (by kernel_rfl) (sound _ _) ⟨(F67_ok k _ _ hy144), (by decide), hb145, (F67_ok k _ _ hy146), (by decide), hb147, hb148, hb149, hb150, hb151, trivial⟩ ?_
                            exact ⟨false, by kernel_rfl, by kernel_rfl, hF⟩
                      · have hF := cond_f hF hb149
                        rcases Bool.eq_false_or_eq_true (decide (v141 > 0)) with hb153 | hb153
                        · have hF := cond_t hF hb153
                          obtain ⟨y154, hy154, hF⟩ := bind_some hF
                          refine WA.regD (by kernel_rfl) [1, 3, 4, 93] [101] [(2, .callR [] (one (.bool y144))), (4, .bool false), (7, .callR [] (one (.bool y146))), (10, .bool false), (17, .bool false), (21, .bool false), (30, .bool true), (37, .cells (e_api_Range y154))] (env' := [(1, .val false [.ptr 101 1 0 0]), (3, one (.int .i64 (v0.f_L.length : Int))), (4, one (.int .i64 v141)), (93, one (.bool (decide (y143.f_Lo ≤ (w64 (y154.f_Hi + 1))))))]) (os' := [(101, .box (pvL (e_api_Re v0)))]) (O := [Sim Tryz.prog GL0 67 [one (.int .i64 y143.f_Lo)] [] (one (.bool y144)) [], ([] : List Nat).Nodup, (!y144) = false, Sim Tryz.prog GL0 67 [one (.int .i64 y143.f_Hi)] [] (one (.bool y146)) [], ([] : List Nat).Nodup, (!y146) = false, (decide (y143.f_Lo > y143.f_Hi)) = false, (decide (y143.f_Lo < 55296)) = false, (decide (v141 > 0)) = true, idxL (v0.f_Set.map e_api_Range) (w64 (v141 - 1)) = some (e_api_Range y154)]) (by kernel_rfl) (by kernel_rfl) (sound _ _) ⟨(F67_ok k _ _ hy144), (by decide), hb145, (F67_ok k _ _ hy146), (by decide), hb147, hb148, hb149, hb153, (idx_map _ hy154), trivial⟩ ?_
                          exact ⟨(decide (y143.f_Lo ≤ (w64 (y154.f_Hi + 1)))), by kernel_rfl, by kernel_rfl, hF⟩
                        · have hF := cond_f hF hb153
                          refine WA.regD (by kernel_rfl) [1, 3, 4, 93] [101] [(2, .callR [] (one (.bool y144))), (4, .bool false), (7, .callR [] (one (.bool y146))), (10, .bool false), (17, .bool false), (21, .bool false), (30, .bool false)] (env' := [(1, .val false [.ptr 101 1 0 0]), (3, one (.int .i64 (v0.f_L.length : Int))), (4, one (.int .i64 v141)), (93, one (.bool false))]) (os' := [(101, .box (pvL (e_api_Re v0)))]) (O := [Sim Tryz.prog GL0 67 [one (.int .i64 y143.f_Lo)] [] (one (.bool y144)) [], ([] : List Nat).Nodup, (!y144) = false, Sim Tryz.prog GL0 67 [one (.int .i64 y143.f_Hi)] [] (one (.bool y146)) [], ([] : List Nat).Nodup, (!y146) = false, (decide (y143.f_Lo > y143.f_Hi)) = false, (decide (y143.f_Lo < 55296)) = false, (decide (v141 > 0)) = false]) (by kernel_rfl) (by kernel_rfl) (sound _ _) ⟨(F67_ok k _ _ hy144), (by decide), hb145, (F67_ok k _ _ hy146), (by decide), hb147, hb148, hb149, hb153, trivial⟩ ?_
                          exact ⟨false, by kernel_rfl, by kernel_rfl, hF⟩
            · have hF := cond_f hF hb142
              refine WA.exit ?_
              refine WA.seq ?_
              refine WA.reg [2] [] [] (env' := [(2, one (.bool ((v0.f_L.length : Int) == 0)))]) (os' := []) (O := []) (by kernel_rfl) (sound _ _) trivial ?_
              refine WA.ret ?_
              obtain rfl := Option.some.inj hF
              exact out_ret (one (.bool ((v0.f_L.length : Int) == 0))) [] (by kernel_rfl) (by kernel_rfl) (by kernel_rfl) (by kernel_rfl) (by decide) rfl rfl
        · have hF := cond_f hF hb109
          refine WA.seq ?_
          refine WA.reg [1, 3, 35, 96] [101] [] (env' := [(1, .val false [.ptr 101 1 0 0]), (3, one (.int .i64 (v0.f_L.length : Int))), (35, one (.int .i64 v0.f_Kind)), (96, one (.bool (v0.f_Kind == 2)))]) (os' := [(101, .box (pvL (e_api_Re v0)))]) (O := []) (by kernel_rfl) (sound _ _) trivial ?_
          refine WA.cond (b := (v0.f_Kind == 2)) rfl (fun hb157 => ?_) (fun hb157 => ?_)
          · have hF := cond_t hF hb157
            refine WA.seq ?_
            refine WA.reg [1, 3, 99] [101] [] (env' := [(1, .val false [.ptr 101 1 0 0]), (3, one (.int .i64 (v0.f_L.length : Int))), (99, one (.bool ((v0.f_L.length : Int) == 1)))]) (os' := [(101, .box (pvL (e_api_Re v0)))]) (O := []) (by kernel_rfl) (sound _ _) trivial ?_
            refine WA.cond (b := ((v0.f_L.length : Int) == 1)) rfl (fun hb158 => ?_) (fun hb158 => ?_)
            · have hF := cond_t hF hb158
              refine WA.seq ?_
              refine WA.reg [2] [] [] (env' := [(2, one (.bool false))]) (os' := []) (O := []) (by kernel_rfl) (sound _ _) trivial ?_
              refine WA.ret ?_
              obtain rfl := Option.some.inj hF
              exact out_ret (one (.bool false)) [] (by kernel_rfl) (by kernel_rfl) (by kernel_rfl) (by kernel_rfl) (by decide) rfl rfl
            · have hF := cond_f hF hb158
              refine WA.skip ?_
              exact ⟨by kernel_rfl, by kernel_rfl, hF⟩
          · have hF := cond_f hF hb157
            refine WA.seq ?_
            refine WA.reg [1, 3, 35, 100] [101] [] (env' := [(1, .val false [.ptr 101 1 0 0]), (3, one (.int .i64 (v0.f_L.length : Int))), (35, one (.int .i64 v0.f_Kind)), (100, one (.bool (v0.f_Kind == 3)))]) (os' := [(101, .box (pvL (e_api_Re v0)))]) (O := []) (by kernel_rfl) (sound _ _) trivial ?_
            refine WA.cond (b := (v0.f_Kind == 3)) rfl (fun hb159 => ?_) (fun hb159 => ?_)
            · have hF := cond_t hF hb159
              refine WA.seq ?_
              refine WA.reg [1, 3, 103] [101] [] (env' := [(1, .val false [.ptr 101 1 0 0]), (3, one (.int .i64 (v0.f_L.length : Int))), (103, one (.bool (decide ((v0.f_L.length : Int) < 2))))]) (os' := [(101, .box (pvL (e_api_Re v0)))]) (O := []) (by kernel_rfl) (sound _ _) trivial ?_
              refine WA.cond (b := (decide ((v0.f_L.length : Int) < 2))) rfl (fun hb160 => ?_) (fun hb160 => ?_)
              · have hF := cond_t hF hb160
                refine WA.seq ?_
                refine WA.reg [2] [] [] (env' := [(2, one (.bool false))]) (os' := []) (O := []) (by kernel_rfl) (sound _ _) trivial ?_
                refine WA.ret ?_
                obtain rfl := Option.some.inj hF
                exact out_ret (one (.bool false)) [] (by kernel_rfl) (by kernel_rfl) (by kernel_rfl) (by kernel_rfl) (by decide) rfl rfl
              · have hF := cond_f hF hb160
                refine WA.skip ?_
                exact ⟨by kernel_rfl, by kernel_rfl, hF⟩
            · have hF := cond_f hF hb159
              refine WA.seq ?_
              refine WA.reg [1, 3, 104] [101] [] (env' := [(1, .val false [.ptr 101 1 0 0]), (3, one (.int .i64 (v0.f_L.length : Int))), (104, one (.bool (v0.f_Kind == 4)))]) (os' := [(101, .box (pvL (e_api_Re v0)))]) (O := []) (by kernel_rfl) (sound _ _) trivial ?_
              refine WA.cond (b := (v0.f_Kind == 4)) rfl (fun hb161 => ?_) (fun hb161 => ?_)
              · have hF := cond_t hF hb161
                refine WA.join (fun s_ => ∃ (v167 : Bool), pickE s_.env [1, 3, 134] = [(1, .val false [.ptr 101 1 0 0]), (3, one (.int .i64 (v0.f_L.length : Int))), (134, one (.bool v167))] ∧ pickE s_.os [101] = [(101, .box (pvL (e_api_Re v0)))] ∧ F43_j5 R43 k v0 v167 = some r) ?_ ?_
                · rintro s_ ⟨v167, he, ho, hF⟩
                  refine WA.keep _ _ he ho ?_
                  clear he ho
                  refine WA.cond (b := v167) rfl (fun hb168 => ?_) (fun hb168 => ?_)
                  · have hF := cond_t hF hb168
                    refine WA.seq ?_
                    refine WA.reg [2] [] [] (env' := [(2, one (.bool false))]) (os' := []) (O := []) (by kernel_rfl) (sound _ _) trivial ?_
                    refine WA.ret ?_
                    obtain rfl := Option.some.inj hF
                    exact out_ret (one (.bool false)) [] (by kernel_rfl) (by kernel_rfl) (by kernel_rfl) (by kernel_rfl) (by decide) rfl rfl
                  · have hF := cond_f hF hb168
                    refine WA.skip ?_
                    exact ⟨by kernel_rfl, by kernel_rfl, hF⟩
                · rcases Bool.eq_false_or_eq_true ((v0.f_L.length : Int) != 1) with hb162 | hb162
                  · have hF := cond_t hF hb162
                    refine WA.reg [1, 3, 134] [101] [(2, .bool true)] (env' := [(1, .val false [.ptr 101 1 0 0]), (3, one (.int .i64 (v0.f_L.length : Int))), (134, one (.bool true))]) (os' := [(101, .box (pvL (e_api_Re v0)))]) (O := [((v0.f_L.length : Int) != 1) = true]) (by kernel_rfl) (sound _ _) ⟨hb162, trivial⟩ ?_
                    exact ⟨true, by kernel_rfl, by kernel_rfl, hF⟩
                  · have hF := cond_f hF hb162
                    rcases Bool.eq_false_or_eq_true (decide (v0.f_Min < 0)) with hb163 | hb163
                    · have hF := cond_t hF hb163
                      refine WA.reg [1, 3, 134] [101] [(2, .bool false), (7, .bool true)] (env' := [(1, .val false [.ptr 101 1 0 0]), (3, one (.int .i64 (v0.f_L.length : Int))), (134, one (.bool true))]) (os' := [(101, .box (pvL (e_api_Re v0)))]) (O := [((v0.f_L.length : Int) != 1) = false, (decide (v0.f_Min < 0)) = true]) (by kernel_rfl) (sound _ _) ⟨hb162, hb163, trivial⟩ ?_
                      exact ⟨true, by kernel_rfl, by kernel_rfl, hF⟩
                    · have hF := cond_f hF hb163
                      rcases Bool.eq_false_or_eq_true (decide (v0.f_Min > 20)) with hb164 | hb164
                      · have hF := cond_t hF hb164
                        refine WA.reg [1, 3, 134] [101] [(2, .bool false), (7, .bool false), (12, .bool true)] (env' := [(1, .val false [.ptr 101 1 0 0]), (3, one (.int .i64 (v0.f_L.length : Int))), (134, one (.bool true))]) (os' := [(101, .box (pvL (e_api_Re v0)))]) (O := [((v0.f_L.length : Int) != 1) = false, (decide (v0.f_Min < 0)) = false, (decide (v0.f_Min > 20)) = true]) (by kernel_rfl) (sound _ _) ⟨hb162, hb163, hb164, trivial⟩ ?_
                        exact ⟨true, by kernel_rfl, by kernel_rfl, hF⟩
                      · have hF := cond_f hF hb164
                        rcases Bool.eq_false_or_eq_true (v0.f_Max != (-1)) with hb165 | hb165
                        · have hF := cond_t hF hb165
                          rcases Bool.eq_false_or_eq_true (decide (v0.f_Max < v0.f_Min)) with hb166 | hb166
                          · have hF := cond_t hF hb166
                            refine WA.reg [1, 3, 134] [101] [(2, .bool false), (7, .bool false), (12, .bool false), (16, .bool true), (22, .bool true)] (env' := [(1, .val false [.ptr 101 1 0 0]), (3, one (.int .i64 (v0.f_L.length : Int))), (134, one (.bool true))]) (os' := [(101, .box (pvL (e_api_Re v0)))]) (O := [((v0.f_L.length : Int) != 1) = false, (decide (v0.f_Min < 0)) = false, (decide (v0.f_Min > 20)) = false, (v0.f_Max != (-1)) = true, (decide (v0.f_Max < v0.f_Min)) = true]) (by kernel_rfl) (sound _ _) ⟨hb162, hb163, hb164, hb165, hb166, trivial⟩ ?_
                            exact ⟨true, by kernel_rfl, by kernel_rfl, hF⟩
                          · have hF := cond_f hF hb166
                            refine WA.reg [1, 3, 134] [101] [(2, .bool false), (7, .bool false), (12, .bool false), (16, .bool true), (22, .bool false)] (env' := [(1, .val false [.ptr 101 1 0 0]), (3, one (.int .i64 (v0.f_L.length : Int))), (134, one (.bool (decide (v0.f_Max > 20))))]) (os' := [(101, .box (pvL (e_api_Re v0)))]) (O := [((v0.f_L.length : Int) != 1) = false, (decide (v0.f_Min < 0)) = false, (decide (v0.f_Min > 20)) = false, (v0.f_Max != (-1)) = true, (decide (v0.f_Max < v0.f_Min)) = false]) (by kernel_rfl) (sound _ _) ⟨hb162, hb163, hb164, hb165, hb166, trivial⟩ ?_
                            exact ⟨(decide (v0.f_Max > 20)), by kernel_rfl, by kernel_rfl, hF⟩
                        · have hF := cond_f hF hb165
                          refine WA.reg [1, 3, 134] [101] [(2, .bool false), (7, .bool false), (12, .bool false), (16, .bool false)] (env' := [(1, .val false [.ptr 101 1 0 0]), (3, one (.int .i64 (v0.f_L.length : Int))), (134, one (.bool false))]) (os' := [(101, .box (pvL (e_api_Re v0)))]) (O := [((v0.f_L.length : Int) != 1) = false, (decide (v0.f_Min < 0)) = false, (decide (v0.f_Min > 20)) = false, (v0.f_Max != (-1)) = false]) (by kernel_rfl) (sound _ _) ⟨hb162, hb163, hb164, hb165, trivial⟩ ?_
                          exact ⟨false, by kernel_rfl, by kernel_rfl, hF⟩
              · have hF := cond_f hF hb161
                refine WA.seq ?_
                refine WA.reg [2] [] [] (env' := [(2, one (.bool false))]) (os' := []) (O := []) (by kernel_rfl) (sound _ _) trivial ?_
                refine WA.ret ?_
                obtain rfl := Option.some.inj hF
                exact out_ret (one (.bool false)) [] (by kernel_rfl) (by kernel_rfl) (by kernel_rfl) (by kernel_rfl) (by decide) rfl rfl
  · rcases Bool.eq_false_or_eq_true (v0.f_Kind != 1) with hb101 | hb101
    · have hF := cond_t hF hb101
      rcases Bool.eq_false_or_eq_true (decide ((v0.f_Set.length : Int) > 0)) with hb102 | hb102
      · have hF := cond_t hF hb102
        refine WA.regM (α := Int) (raw := ((v0.f_Set.map e_api_Range).length : Int)) (can := (v0.f_Set.length : Int)) (fun m_ => ([(1, .val false [.ptr 101 1 0 0]), (30, one (.bool true))], [(101, .box (pvL (e_api_Re v0)))], [(v0.f_Kind != 1) = true, (decide (m_ > 0)) = true])) ((by first | (simp only [zlm, zla, zlc, zln, zls, zlr, zlt, zld, lens_api_Re]; done) | (simp only [zlm, zla, zlc, zln, zls, zlr, zlt, zld, lens_api_Re]; omega) | omega)) [1, 30] [101] [(3, .bool true), (9, .bool true)] (env' := [(1, .val false [.ptr 101 1 0 0]), (30, one (.bool true))]) (os' := [(101, .box (pvL (e_api_Re v0)))]) (O := [(v0.f_Kind != 1) = true, (decide ((v0.f_Set.length : Int) > 0)) = true]) (by kernel_rfl) (by kernel_rfl) (sound _ _) ⟨hb101, hb102, trivial⟩ ?_
        exact ⟨true, by kernel_rfl, by kernel_rfl, hF⟩
      · have hF := cond_f hF hb102
        rcases Bool.eq_false_or_eq_true (v0.f_Kind != 4) with hb103 | hb103
        · have hF := cond_t hF hb103
          rcases Bool.eq_false_or_eq_true (v0.f_Min != 0) with hb104 | hb104
          · have hF := cond_t hF hb104
            refine WA.regM (α := Int) (raw := ((v0.f_Set.map e_api_Range).length : Int)) (can := (v0.f_Set.length : Int)) (fun m_ => ([(1, .val false [.ptr 101 1 0 0]), (30, one (.bool true))], [(101, .box (pvL (e_api_Re v0)))], [(v0.f_Kind != 1) = true, (decide (m_ > 0)) = false, (v0.f_Kind != 4) = true, (v0.f_Min != 0) = true])) ((by first | (simp only [zlm, zla, zlc, zln, zls, zlr, zlt, zld, lens_api_Re]; done) | (simp only [zlm, zla, zlc, zln, zls, zlr, zlt, zld, lens_api_Re]; omega) | omega)) [1, 30] [101] [(3, .bool true), (9, .bool false), (13, .bool true), (17, .bool true)] (env' := [(1, .val false [.ptr 101 1 0 0]), (30, one (.bool true))]) (os' := [(101, .box (pvL (e_api_Re v0)))]) (O := [(v0.f_Kind != 1) = true, (decide ((v0.f_Set.length : Int) > 0)) = false, (v0.f_Kind != 4) = true, (v0.f_Min != 0) = true]) (by kernel_rfl) (by kernel_rfl) (sound _ _) ⟨hb101, hb102, hb103, hb104, trivial⟩ ?_
            exact ⟨true, by kernel_rfl, by kernel_rfl, hF⟩
          · have hF := cond_f hF hb104
            refine WA.regM (α := Int) (raw := ((v0.f_Set.map e_api_Range).length : Int)) (can := (v0.f_Set.length : Int)) (fun m_ => ([(1, .val false [.ptr 101 1 0 0]), (30, one (.bool (v0.f_Max != 0)))], [(101, .box (pvL (e_api_Re v0)))], [(v0.f_Kind != 1) = true, (decide (m_ > 0)) = false, (v0.f_Kind != 4) = true, (v0.f_Min != 0) = false])) ((by first | (simp only [zlm, zla, zlc, zln, zls, zlr, zlt, zld, lens_api_Re]; done) | (simp only [zlm, zla, zlc, zln, zls, zlr, zlt, zld, lens_api_Re]; omega) | omega)) [1, 30] [101] [(3, .bool true), (9, .bool false), (13, .bool true), (17, .bool false)] (env' := [(1, .val false [.ptr 101 1 0 0]), (30, one (.bool (v0.f_Max != 0)))]) (os' := [(101, .box (pvL (e_api_Re v0)))]) (O := [(v0.f_Kind != 1) = true, (decide ((v0.f_Set.length : Int) > 0)) = false, (v0.f_Kind != 4) = true, (v0.f_Min != 0) = false]) (by kernel_rfl) (by kernel_rfl) (sound _ _) ⟨hb101, hb102, hb103, hb104, trivial⟩ ?_
            exact ⟨(v0.f_Max != 0), by kernel_rfl, by kernel_rfl, hF⟩
        · have hF := cond_f hF hb103
          refine WA.regM (α := Int) (raw := ((v0.f_Set.map e_api_Range).length : Int)) (can := (v0.f_Set.length : Int)) (fun m_ => ([(1, .val false [.ptr 101 1 0 0]), (30, one (.bool false))], [(101, .box (pvL (e_api_Re v0)))], [(v0.f_Kind != 1) = true, (decide (m_ > 0)) = false, (v0.f_Kind != 4) = false])) ((by first | (simp only [zlm, zla, zlc, zln, zls, zlr, zlt, zld, lens_api_Re]; done) | (simp only [zlm, zla, zlc, zln, zls, zlr, zlt, zld, lens_api_Re]; omega) | omega)) [1, 30] [101] [(3, .bool true), (9, .bool false), (13, .bool false)] (env' := [(1, .val false [.ptr 101 1 0 0]), (30, one (.bool false))]) (os' := [(101, .box (pvL (e_api_Re v0)))]) (O := [(v0.f_Kind != 1) = true, (decide ((v0.f_Set.length : Int) > 0)) = false, (v0.f_Kind != 4) = false]) (by kernel_rfl) (by kernel_rfl) (sound _ _) ⟨hb101, hb102, hb103, trivial⟩ ?_
          exact ⟨false, by kernel_rfl, by kernel_rfl, hF⟩
    · have hF := cond_f hF hb101
      rcases Bool.eq_false_or_eq_true (v0.f_Kind != 4) with hb105 | hb105
      · have hF := cond_t hF hb105
        rcases Bool.eq_false_or_eq_true (v0.f_Min != 0) with hb106 | hb106
        · have hF := cond_t hF hb106
          refine WA.reg [1, 30] [101] [(3, .bool false), (13, .bool true), (17, .bool true)] (env' := [(1, .val false [.ptr 101 1 0 0]), (30, one (.bool true))]) (os' := [(101, .box (pvL (e_api_Re v0)))]) (O := [(v0.f_Kind != 1) = false, (v0.f_Kind != 4) = true, (v0.f_Min != 0) = true]) (by kernel_rfl) (sound _ _) ⟨hb101, hb105, hb106, trivial⟩ ?_
          exact ⟨true, by kernel_rfl, by kernel_rfl, hF⟩
        · have hF := cond_f hF hb106
          refine WA.reg [1, 30] [101] [(3, .bool false), (13, .bool true), (17, .bool false)] (env' := [(1, .val false [.ptr 101 1 0 0]), (30, one (.bool (v0.f_Max != 0)))]) (os' := [(101, .box (pvL (e_api_Re v0)))]) (O := [(v0.f_Kind != 1) = false, (v0.f_Kind != 4) = true, (v0.f_Min != 0) = false]) (by kernel_rfl) (sound _ _) ⟨hb101, hb105, hb106, trivial⟩ ?_
          exact ⟨(v0.f_Max != 0), by kernel_rfl, by kernel_rfl, hF⟩
      · have hF := cond_f hF hb105
        refine WA.reg [1, 30] [101] [(3, .bool false), (13, .bool false)] (env' := [(1, .val false [.ptr 101 1 0 0]), (30, one (.bool false))]) (os' := [(101, .box (pvL (e_api_Re v0)))]) (O := [(v0.f_Kind != 1) = false, (v0.f_Kind != 4) = false]) (by kernel_rfl) (sound _ _) ⟨hb101, hb105, trivial⟩ ?_
        exact ⟨false, by kernel_rfl, by kernel_rfl, hF⟩
def F43 : Nat → api_Re → Option Bool
  | 0, _ => none
  | k + 1, v0 => F43_b (F43 k) k v0
theorem F43_ok : ∀ (k : Nat), ∀ (v0 : api_Re) (r : Bool), F43 k v0 = some r → Sim Tryz.prog GL0 43 [.val true (pvL (e_api_Re v0))] [] (one (.bool r)) []
  | 0 => fun _ _ hF => by cases hF
  | k + 1 => fun v0 r hF => F43_b_ok (F43 k) (F43_ok k) k v0 r hF
/-! entrepot entrepotref10.May -/
def F22_j0 (v106 : Bool) : Option Bool :=
  some v106
def F22 (k : Nat) (v0 : api_Re) : Option Bool :=
  (F42 k v0 1).bind fun y101 => cond (decide (y101 ≤ 16)) ((F43 k v0).bind fun y103 => cond y103 ((F20 k v0).bind fun y105 => (F22_j0 (decide (y105 ≤ 200)))) ((F22_j0 false))) ((F22_j0 false))
theorem F22_ok (k : Nat) (v0 : api_Re) (r : Bool) (hF : F22 k v0 = some r) : Sim Tryz.prog GL0 22 [.val true (pvL (e_api_Re v0))] [] (one (.bool r)) [] := by
  refine sim_of [] Tryz.func22 rfl (by kernel_rfl) (by kernel_rfl) ?_
  show WA _ _ 15 _ _ _
  refine WA.seq ?_
  refine WA.reg [1] [101] [(0, .obj 101)] (env' := [(1, .val false [.ptr 101 1 0 0])]) (os' := [(101, .box (pvL (e_api_Re v0)))]) (O := []) (by kernel_rfl) (sound _ _) trivial ?_
  refine WA.join (fun s_ => ∃ (v106 : Bool), pickE s_.env [2] = [(2, one (.bool v106))] ∧ pickE s_.os [] = [] ∧ F22_j0 v106 = some r) ?_ ?_
  · rintro s_ ⟨v106, he, ho, hF⟩
    refine WA.keep _ _ he ho ?_
    clear he ho
    refine WA.ret ?_
    obtain rfl := Option.some.inj hF
    exact out_ret (one (.bool v106)) [] (by kernel_rfl) (by kernel_rfl) (by kernel_rfl) (by kernel_rfl) (by decide) rfl rfl
  · obtain ⟨y101, hy101, hF⟩ := bind_some hF
    rcases Bool.eq_false_or_eq_true (decide (y101 ≤ 16)) with hb102 | hb102
    · have hF := cond_t hF hb102
      obtain ⟨y103, hy103, hF⟩ := bind_some hF
      rcases Bool.eq_false_or_eq_true y103 with hb104 | hb104
      · have hF := cond_t hF hb104
        obtain ⟨y105, hy105, hF⟩ := bind_some hF
        refine WA.reg [2] [] [(1, .callR [] (one (.int .i64 y101))), (3, .bool true), (5, .callR [] (one (.bool y103))), (7, .bool true), (9, .callR [] (one (.int .i64 y105)))] (env' := [(2, one (.bool (decide (y105 ≤ 200))))]) (os' := []) (O := [Sim Tryz.prog GL0 42 [.val true (pvL (e_api_Re v0)), one (.int .i64 1)] [] (one (.int .i64 y101)) [], ([] : List Nat).Nodup, (decide (y101 ≤ 16)) = true, Sim Tryz.prog GL0 43 [.val true (pvL (e_api_Re v0))] [] (one (.bool y103)) [], ([] : List Nat).Nodup, y103 = true, Sim Tryz.prog GL0 20 [.val true (pvL (e_api_Re v0))] [] (one (.int .i64 y105)) [], ([] : List Nat).Nodup]) (by kernel_rfl) (sound _ _) ⟨(F42_ok k _ _ _ hy101), (by decide), hb102, (F43_ok k _ _ hy103), (by decide), hb104, (F20_ok k _ _ hy105), (by decide), trivial⟩ ?_
        exact ⟨(decide (y105 ≤ 200)), by kernel_rfl, by kernel_rfl, hF⟩
      · have hF := cond_f hF hb104
        refine WA.reg [2] [] [(1, .callR [] (one (.int .i64 y101))), (3, .bool true), (5, .callR [] (one (.bool y103))), (7, .bool false)] (env' := [(2, one (.bool false))]) (os' := []) (O := [Sim Tryz.prog GL0 42 [.val true (pvL (e_api_Re v0)), one (.int .i64 1)] [] (one (.int .i64 y101)) [], ([] : List Nat).Nodup, (decide (y101 ≤ 16)) = true, Sim Tryz.prog GL0 43 [.val true (pvL (e_api_Re v0))] [] (one (.bool y103)) [], ([] : List Nat).Nodup, y103 = false]) (by kernel_rfl) (sound _ _) ⟨(F42_ok k _ _ _ hy101), (by decide), hb102, (F43_ok k _ _ hy103), (by decide), hb104, trivial⟩ ?_
        exact ⟨false, by kernel_rfl, by kernel_rfl, hF⟩
    · have hF := cond_f hF hb102
      refine WA.reg [2] [] [(1, .callR [] (one (.int .i64 y101))), (3, .bool false)] (env' := [(2, one (.bool false))]) (os' := []) (O := [Sim Tryz.prog GL0 42 [.val true (pvL (e_api_Re v0)), one (.int .i64 1)] [] (one (.int .i64 y101)) [], ([] : List Nat).Nodup, (decide (y101 ≤ 16)) = false]) (by kernel_rfl) (sound _ _) ⟨(F42_ok k _ _ _ hy101), (by decide), hb102, trivial⟩ ?_
      exact ⟨false, by kernel_rfl, by kernel_rfl, hF⟩
/-! entrepot entrepotref10.Same -/
def F29_b2 (R29 : api_Re → api_Re → Option Bool) (self2 : Int → Option Bool) (v0 : api_Re) (v1 : api_Re) (v132 : Int) : Option Bool :=
  (cond (decide (v132 < (v0.f_L.length : Int))) ((idxL v0.f_L v132).bind fun y134 => (idxL v1.f_L v132).bind fun y135 => (R29 y134 y135).bind fun y136 => (cond (!y136) ((some false)) ((self2 (w64 (v132 + 1)))))) (((some true))))
def F29_l2 (R29 : api_Re → api_Re → Option Bool) (v0 : api_Re) (v1 : api_Re) : Nat → Int → Option Bool
  | 0, _ => none
  | m_ + 1, v132 => F29_b2 R29 (F29_l2 R29 v0 v1 m_) v0 v1 v132
def F29_b1 (R29 : api_Re → api_Re → Option Bool) (k : Nat) (self1 : Int → Option Bool) (v0 : api_Re) (v1 : api_Re) (v116 : Int) : Option Bool :=
  (cond (decide (v116 < (v0.f_Set.length : Int))) ((idxL v0.f_Set v116).bind fun y118 => (idxL v1.f_Set v116).bind fun y119 => (cond (!((y118.f_Lo == y119.f_Lo) && ((y118.f_Hi == y119.f_Hi) && true))) ((some false)) ((self1 (w64 (v116 + 1)))))) (((F29_l2 R29 v0 v1 k 0))))
def F29_l1 (R29 : api_Re → api_Re → Option Bool) (k : Nat) (v0 : api_Re) (v1 : api_Re) : Nat → Int → Option Bool
  | 0, _ => none
  | m_ + 1, v116 => F29_b1 R29 k (F29_l1 R29 k v0 v1 m_) v0 v1 v116
def F29_j0 (R29 : api_Re → api_Re → Option Bool) (k : Nat) (v0 : api_Re) (v1 : api_Re) (v105 : Bool) : Option Bool :=
  cond v105 ((some false)) (((F29_l1 R29 k v0 v1 k 0)))
def F29_b (R29 : api_Re → api_Re → Option Bool) (k : Nat) (v0 : api_Re) (v1 : api_Re) : Option Bool :=
  (cond (v0.f_Kind != v1.f_Kind) ((F29_j0 R29 k v0 v1 true)) (cond (v0.f_Min != v1.f_Min) ((F29_j0 R29 k v0 v1 true)) (cond (v0.f_Max != v1.f_Max) ((F29_j0 R29 k v0 v1 true)) (cond ((v0.f_L.length : Int) != (v1.f_L.length : Int)) ((F29_j0 R29 k v0 v1 true)) ((F29_j0 R29 k v0 v1 ((v0.f_Set.length : Int) != (v1.f_Set.length : Int))))))))
theorem F29_b_ok (R29 : api_Re → api_Re → Option Bool) (IH29 : ∀ (v0 : api_Re) (v1 : api_Re) (r : Bool), R29 v0 v1 = some r → Sim Tryz.prog GL0 29 [.val true (pvL (e_api_Re v0)), .val true (pvL (e_api_Re v1))] [] (one (.bool r)) []) (k : Nat) (v0 : api_Re) (v1 : api_Re) (r : Bool) (hF : F29_b R29 k v0 v1 = some r) : Sim Tryz.prog GL0 29 [.val true (pvL (e_api_Re v0)), .val true (pvL (e_api_Re v1))] [] (one (.bool r)) [] := by
  refine sim_of [] Tryz.func29 rfl (by kernel_rfl) (by kernel_rfl) ?_
  show WA _ _ 81 _ _ _
  refine WA.seq ?_
  refine WA.reg [2, 3] [102, 103] [(0, .obj 102), (1, .obj 103)] (env' := [(2, .val false [.ptr 102 1 0 0]), (3, .val false [.ptr 103 1 0 0])]) (os' := [(102, .box (pvL (e_api_Re v0))), (103, .box (pvL (e_api_Re v1)))]) (O := []) (by kernel_rfl) (sound _ _) trivial ?_
  refine WA.seq ?_
  refine WA.join (fun s_ => ∃ (v105 : Bool), pickE s_.env [2, 3, 43] = [(2, .val false [.ptr 102 1 0 0]), (3, .val false [.ptr 103 1 0 0]), (43, one (.bool v105))] ∧ pickE s_.os [102, 103] = [(102, .box (pvL (e_api_Re v0))), (103, .box (pvL (e_api_Re v1)))] ∧ F29_j0 R29 k v0 v1 v105 = some r) ?_ ?_
  · rintro s_ ⟨v105, he, ho, hF⟩
    refine WA.keep _ _ he ho ?_
    clear he ho
    refine WA.cond (b := v105) rfl (fun hb106 => ?_) (fun hb106 => ?_)
    · have hF := cond_t hF hb106
      refine WA.seq ?_
      refine WA.reg [4] [] [] (env' := [(4, one (.bool false))]) (os' := []) (O := []) (by kernel_rfl) (sound _ _) trivial ?_
      refine WA.ret ?_
      obtain rfl := Option.some.inj hF
      exact out_ret (one (.bool false)) [] (by kernel_rfl) (by kernel_rfl) (by kernel_rfl) (by kernel_rfl) (by decide) rfl rfl
    · have hF := cond_f hF hb106
      refine WA.skip ?_
      refine WA.seq ?_
      refine WA.seq ?_
      refine WA.reg [2, 3, 5] [102, 103] [] (env' := [(2, .val false [.ptr 102 1 0 0]), (3, .val false [.ptr 103 1 0 0]), (5, one (.int .i64 0))]) (os' := [(102, .box (pvL (e_api_Re v0))), (103, .box (pvL (e_api_Re v1)))]) (O := []) (by kernel_rfl) (sound _ _) trivial ?_
      refine WA.block ?_
      refine WA.loop (fun m s_ => ∃ (v116 : Int), pickE s_.env [2, 3, 5] = [(2, .val false [.ptr 102 1 0 0]), (3, .val false [.ptr 103 1 0 0]), (5, one (.int .i64 v116))] ∧ pickE s_.os [102, 103] = [(102, .box (pvL (e_api_Re v0))), (103, .box (pvL (e_api_Re v1)))] ∧ F29_l1 R29 k v0 v1 m v116 = some r) k ⟨0, by kernel_rfl, by kernel_rfl, hF⟩ ?_
      clear hF
      rintro m1 s_ ⟨v116, he, ho, hF⟩
      refine WA.keep _ _ he ho ?_
      clear he ho
      cases m1 with
      | zero => cases hF
      | succ m1 =>
        obtain ⟨self1, hself1⟩ : ∃ g, g = F29_l1 R29 k v0 v1 m1 := ⟨_, rfl⟩
        have hF : F29_b1 R29 k self1 v0 v1 v116 = some r := by rw [hself1]; exact hF
        refine WA.seq ?_
        refine WA.seq ?_
        refine WA.regM (α := Int) (raw := ((v0.f_Set.map e_api_Range).length : Int)) (can := (v0.f_Set.length : Int)) (fun m_ => ([(2, .val false [.ptr 102 1 0 0]), (3, .val false [.ptr 103 1 0 0]), (5, one (.int .i64 v116)), (48, one (.bool (decide (v116 < m_))))], [(102, .box (pvL (e_api_Re v0))), (103, .box (pvL (e_api_Re v1)))], [])) ((by first | (simp only [zlm, zla, zlc, zln, zls, zlr, zlt, zld, lens_api_Re]; done) | (simp only [zlm, zla, zlc, zln, zls, zlr, zlt, zld, lens_api_Re]; omega) | omega)) [2, 3, 5, 48] [102, 103] [] (env' := [(2, .val false [.ptr 102 1 0 0]), (3, .val false [.ptr 103 1 0 0]), (5, one (.int .i64 v116)), (48, one (.bool (decide (v116 < (v0.f_Set.length : Int)))))]) (os' := [(102, .box (pvL (e_api_Re v0))), (103, .box (pvL (e_api_Re v1)))]) (O := []) (by kernel_rfl) (by kernel_rfl) (sound _ _) trivial ?_
        refine WA.cond (b := (decide (v116 < (v0.f_Set.length : Int)))) rfl (fun hb117 => ?_) (fun hb117 => ?_)
        · have hF := cond_t hF hb117
          refine WA.skip ?_
          refine WA.seq ?_
          refine WA.block ?_
          refine WA.seq ?_
          obtain ⟨y118, hy118, hF⟩ := bind_some hF
          obtain ⟨y119, hy119, hF⟩ := bind_some hF
          refine WA.regD (by kernel_rfl) [2, 3, 5, 61] [102, 103] [(3, .cells (e_api_Range y118)), (8, .cells (e_api_Range y119))] (env' := [(2, .val false [.ptr 102 1 0 0]), (3, .val false [.ptr 103 1 0 0]), (5, one (.int .i64 v116)), (61, one (.bool (!((y118.f_Lo == y119.f_Lo) && ((y118.f_Hi == y119.f_Hi) && true)))))]) (os' := [(102, .box (pvL (e_api_Re v0))), (103, .box (pvL (e_api_Re v1)))]) (O := [idxL (v0.f_Set.map e_api_Range) v116 = some (e_api_Range y118), idxL (v1.f_Set.map e_api_Range) v116 = some (e_api_Range y119)]) (by kernel_rfl) (by kernel_rfl) (sound _ _) ⟨(idx_map _ hy118), (idx_map _ hy119), trivial⟩ ?_
          refine WA.cond (b := (!((y118.f_Lo == y119.f_Lo) && ((y118.f_Hi == y119.f_Hi) && true)))) rfl (fun hb120 => ?_) (fun hb120 => ?_)
          · have hF := cond_t hF hb120
            refine WA.seq ?_
            refine WA.reg [4] [] [] (env' := [(4, one (.bool false))]) (os' := []) (O := []) (by kernel_rfl) (sound _ _) trivial ?_
            refine WA.ret ?_
            obtain rfl := Option.some.inj hF
            exact out_ret (one (.bool false)) [] (by kernel_rfl) (by kernel_rfl) (by kernel_rfl) (by kernel_rfl) (by decide) rfl rfl
          · have hF := cond_f hF hb120
            refine WA.skip ?_
            refine WA.reg [2, 3, 5] [102, 103] [] (env' := [(2, .val false [.ptr 102 1 0 0]), (3, .val false [.ptr 103 1 0 0]), (5, one (.int .i64 (w64 (v116 + 1))))]) (os' := [(102, .box (pvL (e_api_Re v0))), (103, .box (pvL (e_api_Re v1)))]) (O := []) (by kernel_rfl) (sound _ _) trivial ?_
            exact ⟨m1, Nat.lt_succ_self _, (w64 (v116 + 1)), by kernel_rfl, by kernel_rfl, by rw [hself1] at hF; exact hF⟩
        · have hF := cond_f hF hb117
          refine WA.exit ?_
          refine WA.seq ?_
          refine WA.seq ?_
          refine WA.reg [2, 3, 6] [102, 103] [] (env' := [(2, .val false [.ptr 102 1 0 0]), (3, .val false [.ptr 103 1 0 0]), (6, one (.int .i64 0))]) (os' := [(102, .box (pvL (e_api_Re v0))), (103, .box (pvL (e_api_Re v1)))]) (O := []) (by kernel_rfl) (sound _ _) trivial ?_
          refine WA.block ?_
          refine WA.loop (fun m s_ => ∃ (v132 : Int), pickE s_.env [2, 3, 6] = [(2, .val false [.ptr 102 1 0 0]), (3, .val false [.ptr 103 1 0 0]), (6, one (.int .i64 v132))] ∧ pickE s_.os [102, 103] = [(102, .box (pvL (e_api_Re v0))), (103, .box (pvL (e_api_Re v1)))] ∧ F29_l2 R29 v0 v1 m v132 = some r) k ⟨0, by kernel_rfl, by kernel_rfl, hF⟩ ?_
          clear hF
          rintro m2 s_ ⟨v132, he, ho, hF⟩
          refine WA.keep _ _ he ho ?_
          clear he ho
          cases m2 with
          | zero => cases hF
          | succ m2 =>
            obtain ⟨self2, hself2⟩ : ∃ g, g = F29_l2 R29 v0 v1 m2 := ⟨_, rfl⟩
            have hF : F29_b2 R29 self2 v0 v1 v132 = some r := by rw [hself2]; exact hF
            refine WA.seq ?_
            refine WA.seq ?_
            refine WA.regM (α := Int) (raw := ((es_api_Re v0.f_L).length : Int)) (can := (v0.f_L.length : Int)) (fun m_ => ([(2, .val false [.ptr 102 1 0 0]), (3, .val false [.ptr 103 1 0 0]), (6, one (.int .i64 v132)), (66, one (.bool (decide (v132 < m_))))], [(102, .box (pvL (e_api_Re v0))), (103, .box (pvL (e_api_Re v1)))], [])) ((by first | (simp only [zlm, zla, zlc, zln, zls, zlr, zlt, zld, lens_api_Re]; done) | (simp only [zlm, zla, zlc, zln, zls, zlr, zlt, zld, lens_api_Re]; omega) | omega)) [2, 3, 6, 66] [102, 103] [] (env' := [(2, .val false [.ptr 102 1 0 0]), (3, .val false [.ptr 103 1 0 0]), (6, one (.int .i64 v132)), (66, one (.bool (decide (v132 < (v0.f_L.length : Int)))))]) (os' := [(102, .box (pvL (e_api_Re v0))), (103, .box (pvL (e_api_Re v1)))]) (O := []) (by kernel_rfl) (by kernel_rfl) (sound _ _) trivial ?_
            refine WA.cond (b := (decide (v132 < (v0.f_L.length : Int)))) rfl (fun hb133 => ?_) (fun hb133 => ?_)
            · have hF := cond_t hF hb133
              refine WA.skip ?_
              refine WA.seq ?_
              refine WA.block ?_
              refine WA.seq ?_
              obtain ⟨y134, hy134, hF⟩ := bind_some hF
              obtain ⟨y135, hy135, hF⟩ := bind_some hF
              obtain ⟨y136, hy136, hF⟩ := bind_some hF
              refine WA.regD (by kernel_rfl) [2, 3, 6, 80] [102, 103] [(3, .cells (e_api_Re y134)), (8, .cells (e_api_Re y135)), (10, .callR [] (one (.bool y136)))] (env' := [(2, .val false [.ptr 102 1 0 0]), (3, .val false [.ptr 103 1 0 0]), (6, one (.int .i64 v132)), (80, one (.bool (!y136)))]) (os' := [(102, .box (pvL (e_api_Re v0))), (103, .box (pvL (e_api_Re v1)))]) (O := [idxL (es_api_Re v0.f_L) v132 = some (e_api_Re y134), idxL (es_api_Re v1.f_L) v132 = some (e_api_Re y135), Sim Tryz.prog GL0 29 [.val true (pvL (e_api_Re y134)), .val true (pvL (e_api_Re y135))] [] (one (.bool y136)) [], ([] : List Nat).Nodup]) (by kernel_rfl) (by kernel_rfl) (sound _ _) ⟨(idx_api_Re hy134), (idx_api_Re hy135), (IH29 _ _ _ hy136), (by decide), trivial⟩ ?_
              refine WA.cond (b := (!y136)) rfl (fun hb137 => ?_) (fun hb137 => ?_)
              · have hF := cond_t hF hb137
                refine WA.seq ?_
                refine WA.reg [4] [] [] (env' := [(4, one (.bool false))]) (os' := []) (O := []) (by kernel_rfl) (sound _ _) trivial ?_
                refine WA.ret ?_
                obtain rfl := Option.some.inj hF
                exact out_ret (one (.bool false)) [] (by kernel_rfl) (by kernel_rfl) (by kernel_rfl) (by kernel_rfl) (by decide) rfl rfl
              · have hF := cond_f hF hb137
                refine WA.skip ?_
                refine WA.reg [2, 3, 6] [102, 103] [] (env' := [(2, .val false [.ptr 102 1 0 0]), (3, .val false [.ptr 103 1 0 0]), (6, one (.int .i64 (w64 (v132 + 1))))]) (os' := [(102, .box (pvL (e_api_Re v0))), (103, .box (pvL (e_api_Re v1)))]) (O := []) (by kernel_rfl) (sound _ _) trivial ?_
                exact ⟨m2, Nat.lt_succ_self _, (w64 (v132 + 1)), by kernel_rfl, by kernel_rfl, by rw [hself2] at hF; exact hF⟩
            · have hF := cond_f hF hb133
              refine WA.exit ?_
              refine WA.seq ?_
              refine WA.reg [4] [] [] (env' := [(4, one (.bool true))]) (os' := []) (O := []) (by kernel_rfl) (sound _ _) trivial ?_
              refine WA.ret ?_
              obtain rfl := Option.some.inj hF
              exact out_ret (one (.bool true)) [] (by kernel_rfl) (by kernel_rfl) (by kernel_rfl) (by kernel_rfl) (by decide) rfl rfl
  · rcases Bool.eq_false_or_eq_true (v0.f_Kind != v1.f_Kind) with hb101 | hb101
    · have hF := cond_t hF hb101
      refine WA.reg [2, 3, 43] [102, 103] [(5, .bool true)] (env' := [(2, .val false [.ptr 102 1 0 0]), (3, .val false [.ptr 103 1 0 0]), (43, one (.bool true))]) (os' := [(102, .box (pvL (e_api_Re v0))), (103, .box (pvL (e_api_Re v1)))]) (O := [(v0.f_Kind != v1.f_Kind) = true]) (by kernel_rfl) (sound _ _) ⟨hb101, trivial⟩ ?_
      exact ⟨true, by kernel_rfl, by kernel_rfl, hF⟩
    · have hF := cond_f hF hb101
      rcases Bool.eq_false_or_eq_true (v0.f_Min != v1.f_Min) with hb102 | hb102
      · have hF := cond_t hF hb102
        refine WA.reg [2, 3, 43] [102, 103] [(5, .bool false), (12, .bool true)] (env' := [(2, .val false [.ptr 102 1 0 0]), (3, .val false [.ptr 103 1 0 0]), (43, one (.bool true))]) (os' := [(102, .box (pvL (e_api_Re v0))), (103, .box (pvL (e_api_Re v1)))]) (O := [(v0.f_Kind != v1.f_Kind) = false, (v0.f_Min != v1.f_Min) = true]) (by kernel_rfl) (sound _ _) ⟨hb101, hb102, trivial⟩ ?_
        exact ⟨true, by kernel_rfl, by kernel_rfl, hF⟩
      · have hF := cond_f hF hb102
        rcases Bool.eq_false_or_eq_true (v0.f_Max != v1.f_Max) with hb103 | hb103
        · have hF := cond_t hF hb103
          refine WA.reg [2, 3, 43] [102, 103] [(5, .bool false), (12, .bool false), (19, .bool true)] (env' := [(2, .val false [.ptr 102 1 0 0]), (3, .val false [.ptr 103 1 0 0]), (43, one (.bool true))]) (os' := [(102, .box (pvL (e_api_Re v0))), (103, .box (pvL (e_api_Re v1)))]) (O := [(v0.f_Kind != v1.f_Kind) = false, (v0.f_Min != v1.f_Min) = false, (v0.f_Max != v1.f_Max) = true]) (by kernel_rfl) (sound _ _) ⟨hb101, hb102, hb103, trivial⟩ ?_
          exact ⟨true, by kernel_rfl, by kernel_rfl, hF⟩
        · have hF := cond_f hF hb103
          rcases Bool.eq_false_or_eq_true ((v0.f_L.length : Int) != (v1.f_L.length : Int)) with hb104 | hb104
          · have hF := cond_t hF hb104
            refine WA.regM (α := Int × Int) (raw := (((es_api_Re v0.f_L).length : Int), ((es_api_Re v1.f_L).length : Int))) (can := ((v0.f_L.length : Int), (v1.f_L.length : Int))) (fun m_ => ([(2, .val false [.ptr 102 1 0 0]), (3, .val false [.ptr 103 1 0 0]), (43, one (.bool true))], [(102, .box (pvL (e_api_Re v0))), (103, .box (pvL (e_api_Re v1)))], [(v0.f_Kind != v1.f_Kind) = false, (v0.f_Min != v1.f_Min) = false, (v0.f_Max != v1.f_Max) = false, (m_.1 != m_.2) = true])) (pair_eq (by first | (simp only [zlm, zla, zlc, zln, zls, zlr, zlt, zld, lens_api_Re]; done) | (simp only [zlm, zla, zlc, zln, zls, zlr, zlt, zld, lens_api_Re]; omega) | omega) (by first | (simp only [zlm, zla, zlc, zln, zls, zlr, zlt, zld, lens_api_Re]; done) | (simp only [zlm, zla, zlc, zln, zls, zlr, zlt, zld, lens_api_Re]; omega) | omega)) [2, 3, 43] [102, 103] [(5, .bool false), (12, .bool false), (19, .bool false), (28, .bool true)] (env' := [(2, .val false [.ptr 102 1 0 0]), (3, .val false [.ptr 103 1 0 0]), (43, one (.bool true))]) (os' := [(102, .box (pvL (e_api_Re v0))), (103, .box (pvL (e_api_Re v1)))]) (O := [(v0.f_Kind != v1.f_Kind) = false, (v0.f_Min != v1.f_Min) = false, (v0.f_Max != v1.f_Max) = false, ((v0.f_L.length : Int) != (v1.f_L.length : Int)) = true]) (by kernel_rfl) (by kernel_rfl) (sound _ _) ⟨hb101, hb102, hb103, hb104, trivial⟩ ?_
            exact ⟨true, by kernel_rfl, by kernel_rfl, hF⟩
          · have hF := cond_f hF hb104
            refine WA.regM (α := Int × Int × Int × Int) (raw := (((v0.f_Set.map e_api_Range).length : Int), ((v1.f_Set.map e_api_Range).length : Int), ((es_api_Re v0.f_L).length : Int), ((es_api_Re v1.f_L).length : Int))) (can := ((v0.f_Set.length : Int), (v1.f_Set.length : Int), (v0.f_L.length : Int), (v1.f_L.length : Int))) (fun m_ => ([(2, .val false [.ptr 102 1 0 0]), (3, .val false [.ptr 103 1 0 0]), (43, one (.bool (m_.1 != m_.2.1)))], [(102, .box (pvL (e_api_Re v0))), (103, .box (pvL (e_api_Re v1)))], [(v0.f_Kind != v1.f_Kind) = false, (v0.f_Min != v1.f_Min) = false, (v0.f_Max != v1.f_Max) = false, (m_.2.2.1 != m_.2.2.2) = false])) (pair_eq (by first | (simp only [zlm, zla, zlc, zln, zls, zlr, zlt, zld, lens_api_Re]; done) | (simp only [zlm, zla, zlc, zln, zls, zlr, zlt, zld, lens_api_Re]; omega) | omega) (pair_eq (by first | (simp only [zlm, zla, zlc, zln, zls, zlr, zlt, zld, lens_api_Re]; done) | (simp only [zlm, zla, zlc, zln, zls, zlr, zlt, zld, lens_api_Re]; omega) | omega) (pair_eq (by first | (simp only [zlm, zla, zlc, zln, zls, zlr, zlt, zld, lens_api_Re]; done) | (simp only [zlm, zla, zlc, zln, zls, zlr, zlt, zld, lens_api_Re]; omega) | omega) (by first | (simp only [zlm, zla, zlc, zln, zls, zlr, zlt, zld, lens_api_Re]; done) | (simp only [zlm, zla, zlc, zln, zls, zlr, zlt, zld, lens_api_Re]; omega) | omega)))) [2, 3, 43] [102, 103] [(5, .bool false), (12, .bool false), (19, .bool false), (28, .bool false)] (env' := [(2, .val false [.ptr 102 1 0 0]), (3, .val false [.ptr 103 1 0 0]), (43, one (.bool ((v0.f_Set.length : Int) != (v1.f_Set.length : Int))))]) (os' := [(102, .box (pvL (e_api_Re v0))), (103, .box (pvL (e_api_Re v1)))]) (O := [(v0.f_Kind != v1.f_Kind) = false, (v0.f_Min != v1.f_Min) = false, (v0.f_Max != v1.f_Max) = false, ((v0.f_L.length : Int) != (v1.f_L.length : Int)) = false]) (by kernel_rfl) (by kernel_rfl) (sound _ _) ⟨hb101, hb102, hb103, hb104, trivial⟩ ?_
            exact ⟨((v0.f_Set.length : Int) != (v1.f_Set.length : Int)), by kernel_rfl, by kernel_rfl, hF⟩
def F29 : Nat → api_Re → api_Re → Option Bool
  | 0, _, _ => none
  | k + 1, v0, v1 => F29_b (F29 k) k v0 v1
theorem F29_ok : ∀ (k : Nat), ∀ (v0 : api_Re) (v1 : api_Re) (r : Bool), F29 k v0 v1 = some r → Sim Tryz.prog GL0 29 [.val true (pvL (e_api_Re v0)), .val true (pvL (e_api_Re v1))] [] (one (.bool r)) []
  | 0 => fun _ _ _ hF => by cases hF
  | k + 1 => fun v0 v1 r hF => F29_b_ok (F29 k) (F29_ok k) k v0 v1 r hF
/-! entrepot entrepotref10.in -/
def F68_j3 (self2 : Int → Option Bool) (v114 : Int) (v119 : Bool) : Option Bool :=
  cond v119 ((some true)) ((self2 (w64 (v114 + 1))))
def F68_b2 (self2 : Int → Option Bool) (v0 : List api_Range) (v1 : Int) (v114 : Int) : Option Bool :=
  (cond (decide (v114 < (v0.length : Int))) ((idxL v0 v114).bind fun y116 => cond (decide (y116.f_Lo ≤ v1)) ((idxL v0 v114).bind fun y118 => (F68_j3 self2 v114 (decide (v1 ≤ y118.f_Hi)))) ((F68_j3 self2 v114 false))) (((some false))))
def F68_l2 (v0 : List api_Range) (v1 : Int) : Nat → Int → Option Bool
  | 0, _ => none
  | m_ + 1, v114 => F68_b2 (F68_l2 v0 v1 m_) v0 v1 v114
def F68 (k : Nat) (v0 : List api_Range) (v1 : Int) : Option Bool :=
  ((F68_l2 v0 v1 k 0))
theorem F68_ok (k : Nat) (v0 : List api_Range) (v1 : Int) (r : Bool) (hF : F68 k v0 v1 = some r) : Sim Tryz.prog GL0 68 [one (.sl (v0.map e_api_Range)), one (.int .i64 v1)] [] (one (.bool r)) [] := by
  refine sim_of [] Tryz.func68 rfl (by kernel_rfl) (by kernel_rfl) ?_
  show WA _ _ 28 _ _ _
  refine WA.seq ?_
  refine WA.reg [0, 1] [] [] (env' := [(0, one (.sl (v0.map e_api_Range))), (1, one (.int .i64 v1))]) (os' := []) (O := []) (by kernel_rfl) (sound _ _) trivial ?_
  refine WA.seq ?_
  refine WA.seq ?_
  refine WA.reg [0, 1, 5] [] [] (env' := [(0, one (.sl (v0.map e_api_Range))), (1, one (.int .i64 v1)), (5, one (.int .i64 0))]) (os' := []) (O := []) (by kernel_rfl) (sound _ _) trivial ?_
  refine WA.block ?_
  refine WA.loop (fun m s_ => ∃ (v114 : Int), pickE s_.env [0, 1, 5] = [(0, one (.sl (v0.map e_api_Range))), (1, one (.int .i64 v1)), (5, one (.int .i64 v114))] ∧ pickE s_.os [] = [] ∧ F68_l2 v0 v1 m v114 = some r) k ⟨0, by kernel_rfl, by kernel_rfl, hF⟩ ?_
  clear hF
  rintro m2 s_ ⟨v114, he, ho, hF⟩
  refine WA.keep _ _ he ho ?_
  clear he ho
  cases m2 with
  | zero => cases hF
  | succ m2 =>
    obtain ⟨self2, hself2⟩ : ∃ g, g = F68_l2 v0 v1 m2 := ⟨_, rfl⟩
    have hF : F68_b2 self2 v0 v1 v114 = some r := by rw [hself2]; exact hF
    refine WA.seq ?_
    refine WA.seq ?_
    refine WA.regM (α := Int) (raw := ((v0.map e_api_Range).length : Int)) (can := (v0.length : Int)) (fun m_ => ([(0, one (.sl (v0.map e_api_Range))), (1, one (.int .i64 v1)), (5, one (.int .i64 v114)), (9, one (.bool (decide (v114 < m_))))], [], [])) ((by first | (simp only [zlm, zla, zlc, zln, zls, zlr, zlt, zld, lens_api_Re]; done) | (simp only [zlm, zla, zlc, zln, zls, zlr, zlt, zld, lens_api_Re]; omega) | omega)) [0, 1, 5, 9] [] [] (env' := [(0, one (.sl (v0.map e_api_Range))), (1, one (.int .i64 v1)), (5, one (.int .i64 v114)), (9, one (.bool (decide (v114 < (v0.length : Int)))))]) (os' := []) (O := []) (by kernel_rfl) (by kernel_rfl) (sound _ _) trivial ?_
    refine WA.cond (b := (decide (v114 < (v0.length : Int)))) rfl (fun hb115 => ?_) (fun hb115 => ?_)
    · have hF := cond_t hF hb115
      refine WA.skip ?_
      refine WA.seq ?_
      refine WA.block ?_
      refine WA.join (fun s_ => ∃ (v119 : Bool), pickE s_.env [0, 1, 5, 27] = [(0, one (.sl (v0.map e_api_Range))), (1, one (.int .i64 v1)), (5, one (.int .i64 v114)), (27, one (.bool v119))] ∧ pickE s_.os [] = [] ∧ F68_j3 self2 v114 v119 = some r) ?_ ?_
      · rintro s_ ⟨v119, he, ho, hF⟩
        refine WA.keep _ _ he ho ?_
        clear he ho
        refine WA.cond (b := v119) rfl (fun hb120 => ?_) (fun hb120 => ?_)
        · have hF := cond_t hF hb120
          refine WA.seq ?_
          refine WA.reg [4] [] [] (env' := [(4, one (.bool true))]) (os' := []) (O := []) (by kernel_rfl) (sound _ _) trivial ?_
          refine WA.ret ?_
          obtain rfl := Option.some.inj hF
          exact out_ret (one (.bool true)) [] (by kernel_rfl) (by kernel_rfl) (by kernel_rfl) (by kernel_rfl) (by decide) rfl rfl
        · have hF := cond_f hF hb120
          refine WA.skip ?_
          refine WA.reg [0, 1, 5] [] [] (env' := [(0, one (.sl (v0.map e_api_Range))), (1, one (.int .i64 v1)), (5, one (.int .i64 (w64 (v114 + 1))))]) (os' := []) (O := []) (by kernel_rfl) (sound _ _) trivial ?_
          exact ⟨m2, Nat.lt_succ_self _, (w64 (v114 + 1)), by kernel_rfl, by kernel_rfl, by rw [hself2] at hF; exact hF⟩
      · obtain ⟨y116, hy116, hF⟩ := bind_some hF
        rcases Bool.eq_false_or_eq_true (decide (y116.f_Lo ≤ v1)) with hb117 | hb117
        · have hF := cond_t hF hb117
          obtain ⟨y118, hy118, hF⟩ := bind_some hF
          refine WA.reg [0, 1, 5, 27] [] [(2, .cells (e_api_Range y116)), (7, .bool true), (11, .cells (e_api_Range y118))] (env' := [(0, one (.sl (v0.map e_api_Range))), (1, one (.int .i64 v1)), (5, one (.int .i64 v114)), (27, one (.bool (decide (v1 ≤ y118.f_Hi))))]) (os' := []) (O := [idxL (v0.map e_api_Range) v114 = some (e_api_Range y116), (decide (y116.f_Lo ≤ v1)) = true, idxL (v0.map e_api_Range) v114 = some (e_api_Range y118)]) (by kernel_rfl) (sound _ _) ⟨(idx_map _ hy116), hb117, (idx_map _ hy118), trivial⟩ ?_
          exact ⟨(decide (v1 ≤ y118.f_Hi)), by kernel_rfl, by kernel_rfl, hF⟩
        · have hF := cond_f hF hb117
          refine WA.reg [0, 1, 5, 27] [] [(2, .cells (e_api_Range y116)), (7, .bool false)] (env' := [(0, one (.sl (v0.map e_api_Range))), (1, one (.int .i64 v1)), (5, one (.int .i64 v114)), (27, one (.bool false))]) (os' := []) (O := [idxL (v0.map e_api_Range) v114 = some (e_api_Range y116), (decide (y116.f_Lo ≤ v1)) = false]) (by kernel_rfl) (sound _ _) ⟨(idx_map _ hy116), hb117, trivial⟩ ?_
          exact ⟨false, by kernel_rfl, by kernel_rfl, hF⟩
    · have hF := cond_f hF hb115
      refine WA.exit ?_
      refine WA.seq ?_
      refine WA.reg [4] [] [] (env' := [(4, one (.bool false))]) (os' := []) (O := []) (by kernel_rfl) (sound _ _) trivial ?_
      refine WA.ret ?_
      obtain rfl := Option.some.inj hF
      exact out_ret (one (.bool false)) [] (by kernel_rfl) (by kernel_rfl) (by kernel_rfl) (by kernel_rfl) (by decide) rfl rfl
/-! entrepot entrepotref10.or -/
def F69_j6 (self4 : (List Bool) → Bool → Int → Option (Bool × (List Bool))) (v143 : Int) (v159 : List Bool) (v161 : Bool) : Option (Bool × (List Bool)) :=
  self4 v159 v161 (w64 (v143 + 1))
def F69_j5 (self4 : (List Bool) → Bool → Int → Option (Bool × (List Bool))) (v1 : List Bool) (v140 : List Bool) (v143 : Int) (v150 : Bool) : Option (Bool × (List Bool)) :=
  if (0 : Int) ≤ v143 ∧ v143 < (v140.length : Int) then (idxL v140 v143).bind fun y152 => cond y152 (if (0 : Int) ≤ v143 ∧ v143 < (v140.length : Int) then (idxL v140 v143).bind fun y155 => (F69_j6 self4 v143 (v140.set (Int.toNat v143) true) v150) else none) ((idxL v1 v143).bind fun y156 => if (0 : Int) ≤ v143 ∧ v143 < (v140.length : Int) then (idxL v140 v143).bind fun y158 => (F69_j6 self4 v143 (v140.set (Int.toNat v143) y156) v150) else none) else none
def F69_b4 (self4 : (List Bool) → Bool → Int → Option (Bool × (List Bool))) (v1 : List Bool) (v140 : List Bool) (v142 : Bool) (v143 : Int) : Option (Bool × (List Bool)) :=
  (cond (decide (v143 < (v140.length : Int))) ((cond v142 ((F69_j5 self4 v1 v140 v143 true)) ((idxL v1 v143).bind fun y146 => cond y146 (if (0 : Int) ≤ v143 ∧ v143 < (v140.length : Int) then (idxL v140 v143).bind fun y149 => (F69_j5 self4 v1 v140 v143 (!y149)) else none) ((F69_j5 self4 v1 v140 v143 false))))) (((some (v142, v140)))))
def F69_l4 (v1 : List Bool) : Nat → (List Bool) → Bool → Int → Option (Bool × (List Bool))
  | 0, _, _, _ => none
  | m_ + 1, v140, v142, v143 => F69_b4 (F69_l4 v1 m_) v1 v140 v142 v143
def F69 (k : Nat) (v0 : List Bool) (v1 : List Bool) : Option (Bool × (List Bool)) :=
  (((F69_l4 v1 k v0 false 0)))
theorem F69_ok (k : Nat) (v0 : List Bool) (v1 : List Bool) (r : Bool × (List Bool)) (hF : F69 k v0 v1 = some r) {n0 : Nat} (hn_n0 : n0 = v0.length) : Sim Tryz.prog GL0 69 [.val false [.arr 0 n0], one (.sl (v1.map eBool))] [.arr 1 (v0.map eBool)] (one (.bool r.1)) [.arr 1 (r.2.map eBool)] := by
  refine sim_of [0] Tryz.func69 rfl (by kernel_rfl) (by kernel_rfl) ?_
  show WA _ _ 41 _ _ _
  refine WA.seq ?_
  refine WA.reg [0, 1] [0] [] (env' := [(0, .val false [.arr 0 n0]), (1, one (.sl (v1.map eBool)))]) (os' := [(0, .arr 1 (v0.map eBool))]) (O := []) (by kernel_rfl) (sound _ _) trivial ?_
  refine WA.seq ?_
  refine WA.reg [0, 1, 5] [0] [] (env' := [(0, .val false [.arr 0 n0]), (1, one (.sl (v1.map eBool))), (5, one (.bool false))]) (os' := [(0, .arr 1 (v0.map eBool))]) (O := []) (by kernel_rfl) (sound _ _) trivial ?_
  refine WA.seq ?_
  refine WA.seq ?_
  refine WA.reg [0, 1, 5, 6] [0] [] (env' := [(0, .val false [.arr 0 n0]), (1, one (.sl (v1.map eBool))), (5, one (.bool false)), (6, one (.int .i64 0))]) (os' := [(0, .arr 1 (v0.map eBool))]) (O := []) (by kernel_rfl) (sound _ _) trivial ?_
  refine WA.block ?_
  refine WA.loop (fun m s_ => ∃ (v140 : List Bool) (v141 : Nat) (v142 : Bool) (v143 : Int), pickE s_.env [0, 1, 5, 6] = [(0, .val false [.arr 0 v141]), (1, one (.sl (v1.map eBool))), (5, one (.bool v142)), (6, one (.int .i64 v143))] ∧ pickE s_.os [0] = [(0, .arr 1 (v140.map eBool))] ∧ v141 = (v140 : List _).length ∧ F69_l4 v1 m v140 v142 v143 = some r) k ⟨v0, n0, false, 0, by kernel_rfl, by kernel_rfl, (by first | omega | (simp only [zlm, zla, zlc, zln, zls, zlr, zlt, zld, lens_api_Re]; done) | (simp only [zlm, zla, zlc, zln, zls, zlr, zlt, zld, lens_api_Re]; omega) | (simp only [zlm, zla, zlc, zln, zls, zlr, zlt, zld, lens_api_Re] at *; omega)), hF⟩ ?_
  clear hF
  rintro m4 s_ ⟨v140, v141, v142, v143, he, ho, hn_v141, hF⟩
  refine WA.keep _ _ he ho ?_
  clear he ho
  cases m4 with
  | zero => cases hF
  | succ m4 =>
    obtain ⟨self4, hself4⟩ : ∃ g, g = F69_l4 v1 m4 := ⟨_, rfl⟩
    have hF : F69_b4 self4 v1 v140 v142 v143 = some r := by rw [hself4]; exact hF
    refine WA.seq ?_
    refine WA.seq ?_
    refine WA.regM (α := Int) (raw := ((v141 : Nat) : Int)) (can := (v140.length : Int)) (fun m_ => ([(0, .val false [.arr 0 v141]), (1, one (.sl (v1.map eBool))), (5, one (.bool v142)), (6, one (.int .i64 v143)), (10, one (.bool (decide (v143 < m_))))], [(0, .arr 1 (v140.map eBool))], [])) ((by first | (simp only [zlm, zla, zlc, zln, zls, zlr, zlt, zld, lens_api_Re]; done) | (simp only [zlm, zla, zlc, zln, zls, zlr, zlt, zld, lens_api_Re]; omega) | omega)) [0, 1, 5, 6, 10] [0] [] (env' := [(0, .val false [.arr 0 v141]), (1, one (.sl (v1.map eBool))), (5, one (.bool v142)), (6, one (.int .i64 v143)), (10, one (.bool (decide (v143 < (v140.length : Int)))))]) (os' := [(0, .arr 1 (v140.map eBool))]) (O := []) (by kernel_rfl) (by kernel_rfl) (sound _ _) trivial ?_
    refine WA.cond (b := (decide (v143 < (v140.length : Int)))) rfl (fun hb144 => ?_) (fun hb144 => ?_)
    · have hF := cond_t hF hb144
      refine WA.skip ?_
      refine WA.join (fun s_ => ∃ (v159 : List Bool) (v160 : Nat) (v161 : Bool), pickE s_.env [0, 1, 5, 6] = [(0, .val false [.arr 0 v160]), (1, one (.sl (v1.map eBool))), (5, one (.bool v161)), (6, one (.int .i64 v143))] ∧ pickE s_.os [0] = [(0, .arr 1 (v159.map eBool))] ∧ v160 = (v159 : List _).length ∧ F69_j6 self4 v143 v159 v161 = some r) ?_ ?_
      · rintro s_ ⟨v159, v160, v161, he, ho, hn_v160, hF⟩
        refine WA.keep _ _ he ho ?_
        clear he ho
        refine WA.reg [0, 1, 5, 6] [0] [] (env' := [(0, .val false [.arr 0 v160]), (1, one (.sl (v1.map eBool))), (5, one (.bool v161)), (6, one (.int .i64 (w64 (v143 + 1))))]) (os' := [(0, .arr 1 (v159.map eBool))]) (O := []) (by kernel_rfl) (sound _ _) trivial ?_
        exact ⟨m4, Nat.lt_succ_self _, v159, v160, v161, (w64 (v143 + 1)), by kernel_rfl, by kernel_rfl, (by first | omega | (simp only [zlm, zla, zlc, zln, zls, zlr, zlt, zld, lens_api_Re]; done) | (simp only [zlm, zla, zlc, zln, zls, zlr, zlt, zld, lens_api_Re]; omega) | (simp only [zlm, zla, zlc, zln, zls, zlr, zlt, zld, lens_api_Re] at *; omega)), by rw [hself4] at hF; exact hF⟩
      · refine WA.block ?_
        refine WA.join (fun s_ => ∃ (v150 : Bool), pickE s_.env [0, 1, 5, 6] = [(0, .val false [.arr 0 v141]), (1, one (.sl (v1.map eBool))), (5, one (.bool v150)), (6, one (.int .i64 v143))] ∧ pickE s_.os [0] = [(0, .arr 1 (v140.map eBool))] ∧ F69_j5 self4 v1 v140 v143 v150 = some r) ?_ ?_
        · rintro s_ ⟨v150, he, ho, hF⟩
          refine WA.keep _ _ he ho ?_
          clear he ho
          obtain ⟨hc151, hF⟩ := if_some hF
          obtain ⟨y152, hy152, hF⟩ := bind_some hF
          rcases Bool.eq_false_or_eq_true y152 with hb153 | hb153
          · have hF := cond_t hF hb153
            obtain ⟨hc154, hF⟩ := if_some hF
            obtain ⟨y155, hy155, hF⟩ := bind_some hF
            refine WA.regM (α := (List (List PV))) (raw := ((v140.map eBool).set (Int.toNat v143) (eBool true))) (can := ((v140.set (Int.toNat v143) true).map eBool)) (fun m_ => ([(0, .val false [.arr 0 v141]), (1, one (.sl (v1.map eBool))), (5, one (.bool v150)), (6, one (.int .i64 v143))], [(0, .arr 1 m_)], [v141 = (v140.map eBool).length, (0 : Int) ≤ v143, v143 < ((v141 : Nat) : Int), v141 = (v140.map eBool).length, (v140.map eBool)[Int.toNat v143]? = some [.bool y152], y152 = true, v141 = (v140.map eBool).length, (0 : Int) ≤ v143, v143 < ((v141 : Nat) : Int), v141 = (v140.map eBool).length, (v140.map eBool)[Int.toNat v143]? = some [.bool y155]])) ((by first | (simp only [len_map, app_map, take_map, drop_map, set_map, rep_map, lens_api_Re, app_api_Re, take_api_Re, drop_api_Re, set_api_Re, es_api_Re, e0_eq_api_Re]; done) | (simp only [List.map_append, List.map_cons, List.map_nil, List.map_take, List.map_drop, List.map_set, List.map_replicate, List.length_map, es_map_api_Re, e0_eq_api_Re]; done))) [0, 1, 5, 6] [0] [(5, .cells [.bool y152]), (6, .bool true), (13, .cells [.bool y155])] (env' := [(0, .val false [.arr 0 v141]), (1, one (.sl (v1.map eBool))), (5, one (.bool v150)), (6, one (.int .i64 v143))]) (os' := [(0, .arr 1 ((v140.set (Int.toNat v143) true).map eBool))]) (O := [v141 = (v140.map eBool).length, (0 : Int) ≤ v143, v143 < ((v141 : Nat) : Int), v141 = (v140.map eBool).length, (v140.map eBool)[Int.toNat v143]? = some [.bool y152], y152 = true, v141 = (v140.map eBool).length, (0 : Int) ≤ v143, v143 < ((v141 : Nat) : Int), v141 = (v140.map eBool).length, (v140.map eBool)[Int.toNat v143]? = some [.bool y155]]) (by kernel_rfl) (by kernel_rfl) (sound _ _) ⟨(by first | omega | (simp only [zlm, zla, zlc, zln, zls, zlr, zlt, zld, lens_api_Re]; done) | (simp only [zlm, zla, zlc, zln, zls, zlr, zlt, zld, lens_api_Re]; omega) | (simp only [zlm, zla, zlc, zln, zls, zlr, zlt, zld, lens_api_Re] at *; omega)), hc151.1, (by have h_ := hc151.2; (try simp only [zlm, zla, zlc, zln, zls, zlr, zlt, zld, lens_api_Re] at h_ ⊢); omega), (by first | omega | (simp only [zlm, zla, zlc, zln, zls, zlr, zlt, zld, lens_api_Re]; done) | (simp only [zlm, zla, zlc, zln, zls, zlr, zlt, zld, lens_api_Re]; omega) | (simp only [zlm, zla, zlc, zln, zls, zlr, zlt, zld, lens_api_Re] at *; omega)), (get_of_idx (idx_map _ hy152)), hb153, (by first | omega | (simp only [zlm, zla, zlc, zln, zls, zlr, zlt, zld, lens_api_Re]; done) | (simp only [zlm, zla, zlc, zln, zls, zlr, zlt, zld, lens_api_Re]; omega) | (simp only [zlm, zla, zlc, zln, zls, zlr, zlt, zld, lens_api_Re] at *; omega)), hc154.1, (by have h_ := hc154.2; (try simp only [zlm, zla, zlc, zln, zls, zlr, zlt, zld, lens_api_Re] at h_ ⊢); omega), (by first | omega | (simp only [zlm, zla, zlc, zln, zls, zlr, zlt, zld, lens_api_Re]; done) | (simp only [zlm, zla, zlc, zln, zls, zlr, zlt, zld, lens_api_Re]; omega) | (simp only [zlm, zla, zlc, zln, zls, zlr, zlt, zld, lens_api_Re] at *; omega)), (get_of_idx (idx_map _ hy155)), trivial⟩ ?_
            exact ⟨(v140.set (Int.toNat v143) true), v141, v150, by kernel_rfl, by kernel_rfl, (by first | omega | (simp only [zlm, zla, zlc, zln, zls, zlr, zlt, zld, lens_api_Re]; done) | (simp only [zlm, zla, zlc, zln, zls, zlr, zlt, zld, lens_api_Re]; omega) | (simp only [zlm, zla, zlc, zln, zls, zlr, zlt, zld, lens_api_Re] at *; omega)), hF⟩
          · have hF := cond_f hF hb153
            obtain ⟨y156, hy156, hF⟩ := bind_some hF
            obtain ⟨hc157, hF⟩ := if_some hF
            obtain ⟨y158, hy158, hF⟩ := bind_some hF
            refine WA.regM (α := (List (List PV))) (raw := ((v140.map eBool).set (Int.toNat v143) (eBool y156))) (can := ((v140.set (Int.toNat v143) y156).map eBool)) (fun m_ => ([(0, .val false [.arr 0 v141]), (1, one (.sl (v1.map eBool))), (5, one (.bool v150)), (6, one (.int .i64 v143))], [(0, .arr 1 m_)], [v141 = (v140.map eBool).length, (0 : Int) ≤ v143, v143 < ((v141 : Nat) : Int), v141 = (v140.map eBool).length, (v140.map eBool)[Int.toNat v143]? = some [.bool y152], y152 = false, idxL (v1.map eBool) v143 = some [.bool y156], v141 = (v140.map eBool).length, (0 : Int) ≤ v143, v143 < ((v141 : Nat) : Int), v141 = (v140.map eBool).length, (v140.map eBool)[Int.toNat v143]? = some [.bool y158]])) ((by first | (simp only [len_map, app_map, take_map, drop_map, set_map, rep_map, lens_api_Re, app_api_Re, take_api_Re, drop_api_Re, set_api_Re, es_api_Re, e0_eq_api_Re]; done) | (simp only [List.map_append, List.map_cons, List.map_nil, List.map_take, List.map_drop, List.map_set, List.map_replicate, List.length_map, es_map_api_Re, e0_eq_api_Re]; done))) [0, 1, 5, 6] [0] [(5, .cells [.bool y152]), (6, .bool false), (9, .cells [.bool y156]), (13, .cells [.bool y158])] (env' := [(0, .val false [.arr 0 v141]), (1, one (.sl (v1.map eBool))), (5, one (.bool v150)), (6, one (.int .i64 v143))]) (os' := [(0, .arr 1 ((v140.set (Int.toNat v143) y156).map eBool))]) (O := [v141 = (v140.map eBool).length, (0 : Int) ≤ v143, v143 < ((v141 : Nat) : Int), v141 = (v140.map eBool).length, (v140.map eBool)[Int.toNat v143]? = some [.bool y152], y152 = false, idxL (v1.map eBool) v143 = some [.bool y156], v141 = (v140.map eBool).length, (0 : Int) ≤ v143, v143 < ((v141 : Nat) : Int), v141 = (v140.map eBool).length, (v140.map eBool)[Int.toNat v143]? = some [.bool y158]]) (by kernel_rfl) (by kernel_rfl) (sound _ _) ⟨(by first | omega | (simp only [zlm, zla, zlc, zln, zls, zlr, zlt, zld, lens_api_Re]; done) | (simp only [zlm, zla, zlc, zln, zls, zlr, zlt, zld, lens_api_Re]; omega) | (simp only [zlm, zla, zlc, zln, zls, zlr, zlt, zld, lens_api_Re] at *; omega)), hc151.1, (by have h_ := hc151.2; (try simp only [zlm, zla, zlc, zln, zls, zlr, zlt, zld, lens_api_Re] at h_ ⊢); omega), (by first | omega | (simp only [zlm, zla, zlc, zln, zls, zlr, zlt, zld, lens_api_Re]; done) | (simp only [zlm, zla, zlc, zln, zls, zlr, zlt, zld, lens_api_Re]; omega) | (simp only [zlm, zla, zlc, zln, zls, zlr, zlt, zld, lens_api_Re] at *; omega)), (get_of_idx (idx_map _ hy152)), hb153, (idx_map _ hy156), (by first | omega | (simp only [zlm, zla, zlc, zln, zls, zlr, zlt, zld, lens_api_Re]; done) | (simp only [zlm, zla, zlc, zln, zls, zlr, zlt, zld, lens_api_Re]; omega) | (simp only [zlm, zla, zlc, zln, zls, zlr, zlt, zld, lens_api_Re] at *; omega)), hc157.1, (by have h_ := hc157.2; (try simp only [zlm, zla, zlc, zln, zls, zlr, zlt, zld, lens_api_Re] at h_ ⊢); omega), (by first | omega | (simp only [zlm, zla, zlc, zln, zls, zlr, zlt, zld, lens_api_Re]; done) | (simp only [zlm, zla, zlc, zln, zls, zlr, zlt, zld, lens_api_Re]; omega) | (simp only [zlm, zla, zlc, zln, zls, zlr, zlt, zld, lens_api_Re] at *; omega)), (get_of_idx (idx_map _ hy158)), trivial⟩ ?_
            exact ⟨(v140.set (Int.toNat v143) y156), v141, v150, by kernel_rfl, by kernel_rfl, (by first | omega | (simp only [zlm, zla, zlc, zln, zls, zlr, zlt, zld, lens_api_Re]; done) | (simp only [zlm, zla, zlc, zln, zls, zlr, zlt, zld, lens_api_Re]; omega) | (simp only [zlm, zla, zlc, zln, zls, zlr, zlt, zld, lens_api_Re] at *; omega)), hF⟩
        · rcases Bool.eq_false_or_eq_true v142 with hb145 | hb145
          · have hF := cond_t hF hb145
            refine WA.reg [0, 1, 5, 6] [0] [(1, .bool true)] (env' := [(0, .val false [.arr 0 v141]), (1, one (.sl (v1.map eBool))), (5, one (.bool true)), (6, one (.int .i64 v143))]) (os' := [(0, .arr 1 (v140.map eBool))]) (O := [v142 = true]) (by kernel_rfl) (sound _ _) ⟨hb145, trivial⟩ ?_
            exact ⟨true, by kernel_rfl, by kernel_rfl, hF⟩
          · have hF := cond_f hF hb145
            obtain ⟨y146, hy146, hF⟩ := bind_some hF
            rcases Bool.eq_false_or_eq_true y146 with hb147 | hb147
            · have hF := cond_t hF hb147
              obtain ⟨hc148, hF⟩ := if_some hF
              obtain ⟨y149, hy149, hF⟩ := bind_some hF
              refine WA.reg [0, 1, 5, 6] [0] [(1, .bool false), (4, .cells [.bool y146]), (6, .bool true), (10, .cells [.bool y149])] (env' := [(0, .val false [.arr 0 v141]), (1, one (.sl (v1.map eBool))), (5, one (.bool (!y149))), (6, one (.int .i64 v143))]) (os' := [(0, .arr 1 (v140.map eBool))]) (O := [v142 = false, idxL (v1.map eBool) v143 = some [.bool y146], y146 = true, v141 = (v140.map eBool).length, (0 : Int) ≤ v143, v143 < ((v141 : Nat) : Int), v141 = (v140.map eBool).length, (v140.map eBool)[Int.toNat v143]? = some [.bool y149]]) (by kernel_rfl) (sound _ _) ⟨hb145, (idx_map _ hy146), hb147, (by first | omega | (simp only [zlm, zla, zlc, zln, zls, zlr, zlt, zld, lens_api_Re]; done) | (simp only [zlm, zla, zlc, zln, zls, zlr, zlt, zld, lens_api_Re]; omega) | (simp only [zlm, zla, zlc, zln, zls, zlr, zlt, zld, lens_api_Re] at *; omega)), hc148.1, (by have h_ := hc148.2; (try simp only [zlm, zla, zlc, zln, zls, zlr, zlt, zld, lens_api_Re] at h_ ⊢); omega), (by first | omega | (simp only [zlm, zla, zlc, zln, zls, zlr, zlt, zld, lens_api_Re]; done) | (simp only [zlm, zla, zlc, zln, zls, zlr, zlt, zld, lens_api_Re]; omega) | (simp only [zlm, zla, zlc, zln, zls, zlr, zlt, zld, lens_api_Re] at *; omega)), (get_of_idx (idx_map _ hy149)), trivial⟩ ?_
              exact ⟨(!y149), by kernel_rfl, by kernel_rfl, hF⟩
            · have hF := cond_f hF hb147
              refine WA.reg [0, 1, 5, 6] [0] [(1, .bool false), (4, .cells [.bool y146]), (6, .bool false)] (env' := [(0, .val false [.arr 0 v141]), (1, one (.sl (v1.map eBool))), (5, one (.bool false)), (6, one (.int .i64 v143))]) (os' := [(0, .arr 1 (v140.map eBool))]) (O := [v142 = false, idxL (v1.map eBool) v143 = some [.bool y146], y146 = false]) (by kernel_rfl) (sound _ _) ⟨hb145, (idx_map _ hy146), hb147, trivial⟩ ?_
              exact ⟨false, by kernel_rfl, by kernel_rfl, hF⟩
    · have hF := cond_f hF hb144
      refine WA.exit ?_
      refine WA.seq ?_
      refine WA.reg [4] [0] [] (env' := [(4, one (.bool v142))]) (os' := [(0, .arr 1 (v140.map eBool))]) (O := []) (by kernel_rfl) (sound _ _) trivial ?_
      refine WA.ret ?_
      obtain rfl := Option.some.inj hF
      exact out_ret (one (.bool v142)) [.arr 1 (v140.map eBool)] (by kernel_rfl) (by kernel_rfl) (by kernel_rfl) (by kernel_rfl) (by decide) rfl rfl
/-! entrepot entrepotref10.Dot -/
def F143 (k : Nat) : Option (List api_Range) :=
  ((some ([(⟨0, 55295⟩ : api_Range), (⟨57344, 1114111⟩ : api_Range)] : List api_Range)))
theorem F143_ok (k : Nat) (r : List api_Range) (hF : F143 k = some r) : Sim Tryz.prog GL0 143 [] [] (one (.sl (r.map e_api_Range))) [] := by
  refine sim_of [] Tryz.func143 rfl (by kernel_rfl) (by kernel_rfl) ?_
  show WA _ _ 4 _ _ _
  refine WA.seq ?_
  refine WA.reg [] [] [] (env' := []) (os' := []) (O := []) (by kernel_rfl) (sound _ _) trivial ?_
  refine WA.seq ?_
  refine WA.reg [0] [] [] (env' := [(0, one (.sl (([(⟨0, 55295⟩ : api_Range), (⟨57344, 1114111⟩ : api_Range)] : List api_Range).map e_api_Range)))]) (os' := []) (O := []) (by kernel_rfl) (sound _ _) trivial ?_
  refine WA.ret ?_
  obtain rfl := Option.some.inj hF
  exact out_ret (one (.sl (([(⟨0, 55295⟩ : api_Range), (⟨57344, 1114111⟩ : api_Range)] : List api_Range).map e_api_Range))) [] (by kernel_rfl) (by kernel_rfl) (by kernel_rfl) (by kernel_rfl) (by decide) rfl rfl
/-! entrepot entrepotref10.meet -/
def F190_j12 (self11 : (List api_Range) → Int → Option (List api_Range)) (v199 : Int) (v207 : List api_Range) : Option (List api_Range) :=
  self11 v207 (w64 (v199 + 1))
def F190_b11 (self8 : (List api_Range) → Int → Option (List api_Range)) (self11 : (List api_Range) → Int → Option (List api_Range)) (v0 : List api_Range) (v1 : List api_Range) (v174 : Int) (v197 : List api_Range) (v199 : Int) : Option (List api_Range) :=
  (cond (decide (v199 < (v1.length : Int))) ((idxL v0 v174).bind fun y201 => (idxL v1 v199).bind fun y202 => (idxL v0 v174).bind fun y203 => (idxL v1 v199).bind fun y204 => ((cond (decide ((mx y201.f_Lo y202.f_Lo) ≤ (mn y203.f_Hi y204.f_Hi))) (if v197.length + ([(⟨(mx y201.f_Lo y202.f_Lo), (mn y203.f_Hi y204.f_Hi)⟩ : api_Range)] : List api_Range).length ≤ 1073741824 then (F190_j12 self11 v199 (v197 ++ ([(⟨(mx y201.f_Lo y202.f_Lo), (mn y203.f_Hi y204.f_Hi)⟩ : api_Range)] : List api_Range))) else none) ((F190_j12 self11 v199 v197))))) ((self8 v197 (w64 (v174 + 1)))))
def F190_l11 (self8 : (List api_Range) → Int → Option (List api_Range)) (v0 : List api_Range) (v1 : List api_Range) (v174 : Int) : Nat → (List api_Range) → Int → Option (List api_Range)
  | 0, _, _ => none
  | m_ + 1, v197, v199 => F190_b11 self8 (F190_l11 self8 v0 v1 v174 m_) v0 v1 v174 v197 v199
def F190_b8 (k : Nat) (self8 : (List api_Range) → Int → Option (List api_Range)) (v0 : List api_Range) (v1 : List api_Range) (v172 : List api_Range) (v174 : Int) : Option (List api_Range) :=
  (cond (decide (v174 < (v0.length : Int))) (((F190_l11 self8 v0 v1 v174 k v172 0))) (((some v172))))
def F190_l8 (k : Nat) (v0 : List api_Range) (v1 : List api_Range) : Nat → (List api_Range) → Int → Option (List api_Range)
  | 0, _, _ => none
  | m_ + 1, v172, v174 => F190_b8 k (F190_l8 k v0 v1 m_) v0 v1 v172 v174
def F190 (k : Nat) (v0 : List api_Range) (v1 : List api_Range) : Option (List api_Range) :=
  (((F190_l8 k v0 v1 k ([] : List api_Range) 0)))
theorem F190_ok (k : Nat) (v0 : List api_Range) (v1 : List api_Range) (r : List api_Range) (hF : F190 k v0 v1 = some r) : Sim Tryz.prog GL0 190 [one (.sl (v0.map e_api_Range)), one (.sl (v1.map e_api_Range))] [] (one (.sl (r.map e_api_Range))) [] := by
  refine sim_of [] Tryz.func190 rfl (by kernel_rfl) (by kernel_rfl) ?_
  show WA _ _ 54 _ _ _
  refine WA.seq ?_
  refine WA.reg [0, 1] [] [] (env' := [(0, one (.sl (v0.map e_api_Range))), (1, one (.sl (v1.map e_api_Range)))]) (os' := []) (O := []) (by kernel_rfl) (sound _ _) trivial ?_
  refine WA.seq ?_
  refine WA.reg [0, 1, 5] [105] [(0, .obj 105)] (env' := [(0, one (.sl (v0.map e_api_Range))), (1, one (.sl (v1.map e_api_Range))), (5, .val false [.arr 105 0])]) (os' := [(105, .arr 2 (([] : List api_Range).map e_api_Range))]) (O := []) (by kernel_rfl) (sound _ _) trivial ?_
  refine WA.seq ?_
  refine WA.seq ?_
  refine WA.reg [0, 1, 5, 6] [105] [] (env' := [(0, one (.sl (v0.map e_api_Range))), (1, one (.sl (v1.map e_api_Range))), (5, .val false [.arr 105 0]), (6, one (.int .i64 0))]) (os' := [(105, .arr 2 (([] : List api_Range).map e_api_Range))]) (O := []) (by kernel_rfl) (sound _ _) trivial ?_
  refine WA.block ?_
  refine WA.loop (fun m s_ => ∃ (v172 : List api_Range) (v173 : Nat) (v174 : Int), pickE s_.env [0, 1, 5, 6] = [(0, one (.sl (v0.map e_api_Range))), (1, one (.sl (v1.map e_api_Range))), (5, .val false [.arr 105 v173]), (6, one (.int .i64 v174))] ∧ pickE s_.os [105] = [(105, .arr 2 (v172.map e_api_Range))] ∧ v173 = (v172 : List _).length ∧ F190_l8 k v0 v1 m v172 v174 = some r) k ⟨([] : List api_Range), 0, 0, by kernel_rfl, by kernel_rfl, (by first | omega | (simp only [zlm, zla, zlc, zln, zls, zlr, zlt, zld, lens_api_Re]; done) | (simp only [zlm, zla, zlc, zln, zls, zlr, zlt, zld, lens_api_Re]; omega) | (simp only [zlm, zla, zlc, zln, zls, zlr, zlt, zld, lens_api_Re] at *; omega)), hF⟩ ?_
  clear hF
  rintro m8 s_ ⟨v172, v173, v174, he, ho, hn_v173, hF⟩
  refine WA.keep _ _ he ho ?_
  clear he ho
  cases m8 with
  | zero => cases hF
  | succ m8 =>
    obtain ⟨self8, hself8⟩ : ∃ g, g = F190_l8 k v0 v1 m8 := ⟨_, rfl⟩
    have hF : F190_b8 k self8 v0 v1 v172 v174 = some r := by rw [hself8]; exact hF
    refine WA.seq ?_
    refine WA.seq ?_
    refine WA.regM (α := Int) (raw := ((v0.map e_api_Range).length : Int)) (can := (v0.length : Int)) (fun m_ => ([(0, one (.sl (v0.map e_api_Range))), (1, one (.sl (v1.map e_api_Range))), (5, .val false [.arr 105 v173]), (6, one (.int .i64 v174)), (13, one (.bool (decide (v174 < m_))))], [(105, .arr 2 (v172.map e_api_Range))], [])) ((by first | (simp only [zlm, zla, zlc, zln, zls, zlr, zlt, zld, lens_api_Re]; done) | (simp only [zlm, zla, zlc, zln, zls, zlr, zlt, zld, lens_api_Re]; omega) | omega)) [0, 1, 5, 6, 13] [105] [] (env' := [(0, one (.sl (v0.map e_api_Range))), (1, one (.sl (v1.map e_api_Range))), (5, .val false [.arr 105 v173]), (6, one (.int .i64 v174)), (13, one (.bool (decide (v174 < (v0.length : Int)))))]) (os' := [(105, .arr 2 (v172.map e_api_Range))]) (O := []) (by kernel_rfl) (by kernel_rfl) (sound _ _) trivial ?_
    refine WA.cond (b := (decide (v174 < (v0.length : Int)))) rfl (fun hb175 => ?_) (fun hb175 => ?_)
    · have hF := cond_t hF hb175
      refine WA.skip ?_
      refine WA.seq ?_
      refine WA.block ?_
      refine WA.seq ?_
      refine WA.reg [0, 1, 5, 6, 7] [105] [] (env' := [(0, one (.sl (v0.map e_api_Range))), (1, one (.sl (v1.map e_api_Range))), (5, .val false [.arr 105 v173]), (6, one (.int .i64 v174)), (7, one (.int .i64 0))]) (os' := [(105, .arr 2 (v172.map e_api_Range))]) (O := []) (by kernel_rfl) (sound _ _) trivial ?_
      refine WA.block ?_
      refine WA.loop (fun m s_ => ∃ (v197 : List api_Range) (v198 : Nat) (v199 : Int), pickE s_.env [0, 1, 5, 6, 7] = [(0, one (.sl (v0.map e_api_Range))), (1, one (.sl (v1.map e_api_Range))), (5, .val false [.arr 105 v198]), (6, one (.int .i64 v174)), (7, one (.int .i64 v199))] ∧ pickE s_.os [105] = [(105, .arr 2 (v197.map e_api_Range))] ∧ v198 = (v197 : List _).length ∧ F190_l11 self8 v0 v1 v174 m v197 v199 = some r) k ⟨v172, v173, 0, by kernel_rfl, by kernel_rfl, (by first | omega | (simp only [zlm, zla, zlc, zln, zls, zlr, zlt, zld, lens_api_Re]; done) | (simp only [zlm, zla, zlc, zln, zls, zlr, zlt, zld, lens_api_Re]; omega) | (simp only [zlm, zla, zlc, zln, zls, zlr, zlt, zld, lens_api_Re] at *; omega)), hF⟩ ?_
      clear hF
      rintro m11 s_ ⟨v197, v198, v199, he, ho, hn_v198, hF⟩
      refine WA.keep _ _ he ho ?_
      clear he ho
      cases m11 with
      | zero => cases hF
      | succ m11 =>
        obtain ⟨self11, hself11⟩ : ∃ g, g = F190_l11 self8 v0 v1 v174 m11 := ⟨_, rfl⟩
        have hF : F190_b11 self8 self11 v0 v1 v174 v197 v199 = some r := by rw [hself11]; exact hF
        refine WA.seq ?_
        refine WA.seq ?_
        refine WA.regM (α := Int) (raw := ((v1.map e_api_Range).length : Int)) (can := (v1.length : Int)) (fun m_ => ([(0, one (.sl (v0.map e_api_Range))), (1, one (.sl (v1.map e_api_Range))), (5, .val false [.arr 105 v198]), (6, one (.int .i64 v174)), (7, one (.int .i64 v199)), (19, one (.bool (decide (v199 < m_))))], [(105, .arr 2 (v197.map e_api_Range))], [])) ((by first | (simp only [zlm, zla, zlc, zln, zls, zlr, zlt, zld, lens_api_Re]; done) | (simp only [zlm, zla, zlc, zln, zls, zlr, zlt, zld, lens_api_Re]; omega) | omega)) [0, 1, 5, 6, 7, 19] [105] [] (env' := [(0, one (.sl (v0.map e_api_Range))), (1, one (.sl (v1.map e_api_Range))), (5, .val false [.arr 105 v198]), (6, one (.int .i64 v174)), (7, one (.int .i64 v199)), (19, one (.bool (decide (v199 < (v1.length : Int)))))]) (os' := [(105, .arr 2 (v197.map e_api_Range))]) (O := []) (by kernel_rfl) (by kernel_rfl) (sound _ _) trivial ?_
        refine WA.cond (b := (decide (v199 < (v1.length : Int)))) rfl (fun hb200 => ?_) (fun hb200 => ?_)
        · have hF := cond_t hF hb200
          refine WA.skip ?_
          refine WA.join (fun s_ => ∃ (v207 : List api_Range) (v208 : Nat), pickE s_.env [0, 1, 5, 6, 7] = [(0, one (.sl (v0.map e_api_Range))), (1, one (.sl (v1.map e_api_Range))), (5, .val false [.arr 105 v208]), (6, one (.int .i64 v174)), (7, one (.int .i64 v199))] ∧ pickE s_.os [105] = [(105, .arr 2 (v207.map e_api_Range))] ∧ v208 = (v207 : List _).length ∧ F190_j12 self11 v199 v207 = some r) ?_ ?_
          · rintro s_ ⟨v207, v208, he, ho, hn_v208, hF⟩
            refine WA.keep _ _ he ho ?_
            clear he ho
            refine WA.reg [0, 1, 5, 6, 7] [105] [] (env' := [(0, one (.sl (v0.map e_api_Range))), (1, one (.sl (v1.map e_api_Range))), (5, .val false [.arr 105 v208]), (6, one (.int .i64 v174)), (7, one (.int .i64 (w64 (v199 + 1))))]) (os' := [(105, .arr 2 (v207.map e_api_Range))]) (O := []) (by kernel_rfl) (sound _ _) trivial ?_
            exact ⟨m11, Nat.lt_succ_self _, v207, v208, (w64 (v199 + 1)), by kernel_rfl, by kernel_rfl, (by first | omega | (simp only [zlm, zla, zlc, zln, zls, zlr, zlt, zld, lens_api_Re]; done) | (simp only [zlm, zla, zlc, zln, zls, zlr, zlt, zld, lens_api_Re]; omega) | (simp only [zlm, zla, zlc, zln, zls, zlr, zlt, zld, lens_api_Re] at *; omega)), by rw [hself11] at hF; exact hF⟩
          · refine WA.block ?_
            refine WA.seq ?_
            obtain ⟨y201, hy201, hF⟩ := bind_some hF
            obtain ⟨y202, hy202, hF⟩ := bind_some hF
            obtain ⟨y203, hy203, hF⟩ := bind_some hF
            obtain ⟨y204, hy204, hF⟩ := bind_some hF
            refine WA.regD (by kernel_rfl) [0, 1, 5, 6, 7, 8, 9] [105] [(2, .cells (e_api_Range y201)), (7, .cells (e_api_Range y202)), (13, .cells (e_api_Range y203)), (18, .cells (e_api_Range y204))] (env' := [(0, one (.sl (v0.map e_api_Range))), (1, one (.sl (v1.map e_api_Range))), (5, .val false [.arr 105 v198]), (6, one (.int .i64 v174)), (7, one (.int .i64 v199)), (8, one (.int .i64 (mx y201.f_Lo y202.f_Lo))), (9, one (.int .i64 (mn y203.f_Hi y204.f_Hi)))]) (os' := [(105, .arr 2 (v197.map e_api_Range))]) (O := [idxL (v0.map e_api_Range) v174 = some (e_api_Range y201), idxL (v1.map e_api_Range) v199 = some (e_api_Range y202), idxL (v0.map e_api_Range) v174 = some (e_api_Range y203), idxL (v1.map e_api_Range) v199 = some (e_api_Range y204)]) (by kernel_rfl) (by kernel_rfl) (sound _ _) ⟨(idx_map _ hy201), (idx_map _ hy202), (idx_map _ hy203), (idx_map _ hy204), trivial⟩ ?_
            refine WA.seq ?_
            refine WA.reg [0, 1, 5, 6, 7, 8, 9, 46] [105] [] (env' := [(0, one (.sl (v0.map e_api_Range))), (1, one (.sl (v1.map e_api_Range))), (5, .val false [.arr 105 v198]), (6, one (.int .i64 v174)), (7, one (.int .i64 v199)), (8, one (.int .i64 (mx y201.f_Lo y202.f_Lo))), (9, one (.int .i64 (mn y203.f_Hi y204.f_Hi))), (46, one (.bool (decide ((mx y201.f_Lo y202.f_Lo) ≤ (mn y203.f_Hi y204.f_Hi)))))]) (os' := [(105, .arr 2 (v197.map e_api_Range))]) (O := []) (by kernel_rfl) (sound _ _) trivial ?_
            refine WA.cond (b := (decide ((mx y201.f_Lo y202.f_Lo) ≤ (mn y203.f_Hi y204.f_Hi)))) rfl (fun hb205 => ?_) (fun hb205 => ?_)
            · have hF := cond_t hF hb205
              obtain ⟨hc206, hF⟩ := if_some hF
              refine WA.regM (α := (List (List PV))) (raw := ((v197.map e_api_Range) ++ (([(⟨(mx y201.f_Lo y202.f_Lo), (mn y203.f_Hi y204.f_Hi)⟩ : api_Range)] : List api_Range).map e_api_Range))) (can := ((v197 ++ ([(⟨(mx y201.f_Lo y202.f_Lo), (mn y203.f_Hi y204.f_Hi)⟩ : api_Range)] : List api_Range)).map e_api_Range)) (fun m_ => ([(0, one (.sl (v0.map e_api_Range))), (1, one (.sl (v1.map e_api_Range))), (5, .val false [.arr 105 (v198 + 1)]), (6, one (.int .i64 v174)), (7, one (.int .i64 v199))], [(105, .arr 2 m_)], [v198 = (v197.map e_api_Range).length, (v197.map e_api_Range).length + (([(⟨(mx y201.f_Lo y202.f_Lo), (mn y203.f_Hi y204.f_Hi)⟩ : api_Range)] : List api_Range).map e_api_Range).length ≤ 1073741824, ∀ es, es ∈ (([(⟨(mx y201.f_Lo y202.f_Lo), (mn y203.f_Hi y204.f_Hi)⟩ : api_Range)] : List api_Range).map e_api_Range) → es.length = 2])) ((by first | (simp only [len_map, app_map, take_map, drop_map, set_map, rep_map, lens_api_Re, app_api_Re, take_api_Re, drop_api_Re, set_api_Re, es_api_Re, e0_eq_api_Re]; done) | (simp only [List.map_append, List.map_cons, List.map_nil, List.map_take, List.map_drop, List.map_set, List.map_replicate, List.length_map, es_map_api_Re, e0_eq_api_Re]; done))) [0, 1, 5, 6, 7] [105] [] (env' := [(0, one (.sl (v0.map e_api_Range))), (1, one (.sl (v1.map e_api_Range))), (5, .val false [.arr 105 (v198 + 1)]), (6, one (.int .i64 v174)), (7, one (.int .i64 v199))]) (os' := [(105, .arr 2 ((v197 ++ ([(⟨(mx y201.f_Lo y202.f_Lo), (mn y203.f_Hi y204.f_Hi)⟩ : api_Range)] : List api_Range)).map e_api_Range))]) (O := [v198 = (v197.map e_api_Range).length, (v197.map e_api_Range).length + (([(⟨(mx y201.f_Lo y202.f_Lo), (mn y203.f_Hi y204.f_Hi)⟩ : api_Range)] : List api_Range).map e_api_Range).length ≤ 1073741824, ∀ es, es ∈ (([(⟨(mx y201.f_Lo y202.f_Lo), (mn y203.f_Hi y204.f_Hi)⟩ : api_Range)] : List api_Range).map e_api_Range) → es.length = 2]) (by kernel_rfl) (by kernel_rfl) (sound _ _) ⟨(by first | omega | (simp only [zlm, zla, zlc, zln, zls, zlr, zlt, zld, lens_api_Re]; done) | (simp only [zlm, zla, zlc, zln, zls, zlr, zlt, zld, lens_api_Re]; omega) | (simp only [zlm, zla, zlc, zln, zls, zlr, zlt, zld, lens_api_Re] at *; omega)), (by first | exact hc206 | (simp only [List.length_map, lens_api_Re] ; exact hc206)), (len_api_Range ([(⟨(mx y201.f_Lo y202.f_Lo), (mn y203.f_Hi y204.f_Hi)⟩ : api_Range)] : List api_Range)), trivial⟩ ?_
              exact ⟨(v197 ++ ([(⟨(mx y201.f_Lo y202.f_Lo), (mn y203.f_Hi y204.f_Hi)⟩ : api_Range)] : List api_Range)), (v198 + 1), by kernel_rfl, by kernel_rfl, (by first | omega | (simp only [zlm, zla, zlc, zln, zls, zlr, zlt, zld, lens_api_Re]; done) | (simp only [zlm, zla, zlc, zln, zls, zlr, zlt, zld, lens_api_Re]; omega) | (simp only [zlm, zla, zlc, zln, zls, zlr, zlt, zld, lens_api_Re] at *; omega)), hF⟩
            · have hF := cond_f hF hb205
              refine WA.skip ?_
              exact ⟨v197, v198, by kernel_rfl, by kernel_rfl, (by first | omega | (simp only [zlm, zla, zlc, zln, zls, zlr, zlt, zld, lens_api_Re]; done) | (simp only [zlm, zla, zlc, zln, zls, zlr, zlt, zld, lens_api_Re]; omega) | (simp only [zlm, zla, zlc, zln, zls, zlr, zlt, zld, lens_api_Re] at *; omega)), hF⟩
        · have hF := cond_f hF hb200
          refine WA.exit ?_
          refine WA.reg [0, 1, 5, 6] [105] [] (env' := [(0, one (.sl (v0.map e_api_Range))), (1, one (.sl (v1.map e_api_Range))), (5, .val false [.arr 105 v198]), (6, one (.int .i64 (w64 (v174 + 1))))]) (os' := [(105, .arr 2 (v197.map e_api_Range))]) (O := []) (by kernel_rfl) (sound _ _) trivial ?_
          exact ⟨m8, Nat.lt_succ_self _, v197, v198, (w64 (v174 + 1)), by kernel_rfl, by kernel_rfl, (by first | omega | (simp only [zlm, zla, zlc, zln, zls, zlr, zlt, zld, lens_api_Re]; done) | (simp only [zlm, zla, zlc, zln, zls, zlr, zlt, zld, lens_api_Re]; omega) | (simp only [zlm, zla, zlc, zln, zls, zlr, zlt, zld, lens_api_Re] at *; omega)), by rw [hself8] at hF; exact hF⟩
    · have hF := cond_f hF hb175
      refine WA.exit ?_
      refine WA.seq ?_
      refine WA.reg [4] [105] [] (env' := [(4, .val false [.arr 105 v173])]) (os' := [(105, .arr 2 (v172.map e_api_Range))]) (O := []) (by kernel_rfl) (sound _ _) trivial ?_
      refine WA.freeze 105 4 (s := 2) (n := v173) (els := (v172.map e_api_Range)) rfl rfl (by first | omega | (simp only [zlm, zla, zlc, zln, zls, zlr, zlt, zld, lens_api_Re]; done) | (simp only [zlm, zla, zlc, zln, zls, zlr, zlt, zld, lens_api_Re]; omega) | (simp only [zlm, zla, zlc, zln, zls, zlr, zlt, zld, lens_api_Re] at *; omega)) ?_
      refine WA.keep [4] [] (env' := [(4, one (.sl (v172.map e_api_Range)))]) (os' := []) (by kernel_rfl) (by kernel_rfl) ?_
      refine WA.ret ?_
      obtain rfl := Option.some.inj hF
      exact out_ret (one (.sl (v172.map e_api_Range))) [] (by kernel_rfl) (by kernel_rfl) (by kernel_rfl) (by kernel_rfl) (by decide) rfl rfl
/-! entrepot entrepotref10.not -/
def F175_j3 (self2 : (List api_Range) → Int → Int → Option (List api_Range)) (v0 : List api_Range) (v124 : Int) (v130 : List api_Range) : Option (List api_Range) :=
  (idxL v0 v124).bind fun y132 => (self2 v130 (w64 (y132.f_Hi + 1)) (w64 (v124 + 1)))
def F175_j4 (k : Nat) (v135 : List api_Range) : Option (List api_Range) :=
  (F143 k).bind fun y138 => (F190 k v135 y138).bind fun y139 => (some y139)
def F175_b2 (k : Nat) (self2 : (List api_Range) → Int → Int → Option (List api_Range)) (v0 : List api_Range) (v121 : List api_Range) (v123 : Int) (v124 : Int) : Option (List api_Range) :=
  (cond (decide (v124 < (v0.length : Int))) ((idxL v0 v124).bind fun y126 => (cond (decide (v123 < y126.f_Lo)) ((idxL v0 v124).bind fun y128 => if v121.length + ([(⟨v123, (w64 (y128.f_Lo - 1))⟩ : api_Range)] : List api_Range).length ≤ 1073741824 then (F175_j3 self2 v0 v124 (v121 ++ ([(⟨v123, (w64 (y128.f_Lo - 1))⟩ : api_Range)] : List api_Range))) else none) ((F175_j3 self2 v0 v124 v121)))) (((cond (decide (v123 ≤ 1114111)) (if v121.length + ([(⟨v123, 1114111⟩ : api_Range)] : List api_Range).length ≤ 1073741824 then (F175_j4 k (v121 ++ ([(⟨v123, 1114111⟩ : api_Range)] : List api_Range))) else none) ((F175_j4 k v121))))))
def F175_l2 (k : Nat) (v0 : List api_Range) : Nat → (List api_Range) → Int → Int → Option (List api_Range)
  | 0, _, _, _ => none
  | m_ + 1, v121, v123, v124 => F175_b2 k (F175_l2 k v0 m_) v0 v121 v123 v124
def F175 (k : Nat) (v0 : List api_Range) : Option (List api_Range) :=
  ((((F175_l2 k v0 k ([] : List api_Range) 0 0))))
theorem F175_ok (k : Nat) (v0 : List api_Range) (r : List api_Range) (hF : F175 k v0 = some r) : Sim Tryz.prog GL0 175 [one (.sl (v0.map e_api_Range))] [] (one (.sl (r.map e_api_Range))) [] := by
  refine sim_of [] Tryz.func175 rfl (by kernel_rfl) (by kernel_rfl) ?_
  show WA _ _ 46 _ _ _
  refine WA.seq ?_
  refine WA.reg [0] [] [] (env' := [(0, one (.sl (v0.map e_api_Range)))]) (os' := []) (O := []) (by kernel_rfl) (sound _ _) trivial ?_
  refine WA.seq ?_
  refine WA.reg [0, 3] [103] [(0, .obj 103)] (env' := [(0, one (.sl (v0.map e_api_Range))), (3, .val false [.arr 103 0])]) (os' := [(103, .arr 2 (([] : List api_Range).map e_api_Range))]) (O := []) (by kernel_rfl) (sound _ _) trivial ?_
  refine WA.seq ?_
  refine WA.reg [0, 3, 4] [103] [] (env' := [(0, one (.sl (v0.map e_api_Range))), (3, .val false [.arr 103 0]), (4, one (.int .i64 0))]) (os' := [(103, .arr 2 (([] : List api_Range).map e_api_Range))]) (O := []) (by kernel_rfl) (sound _ _) trivial ?_
  refine WA.seq ?_
  refine WA.seq ?_
  refine WA.reg [0, 3, 4, 5] [103] [] (env' := [(0, one (.sl (v0.map e_api_Range))), (3, .val false [.arr 103 0]), (4, one (.int .i64 0)), (5, one (.int .i64 0))]) (os' := [(103, .arr 2 (([] : List api_Range).map e_api_Range))]) (O := []) (by kernel_rfl) (sound _ _) trivial ?_
  refine WA.block ?_
  refine WA.loop (fun m s_ => ∃ (v121 : List api_Range) (v122 : Nat) (v123 : Int) (v124 : Int), pickE s_.env [0, 3, 4, 5] = [(0, one (.sl (v0.map e_api_Range))), (3, .val false [.arr 103 v122]), (4, one (.int .i64 v123)), (5, one (.int .i64 v124))] ∧ pickE s_.os [103] = [(103, .arr 2 (v121.map e_api_Range))] ∧ v122 = (v121 : List _).length ∧ F175_l2 k v0 m v121 v123 v124 = some r) k ⟨([] : List api_Range), 0, 0, 0, by kernel_rfl, by kernel_rfl, (by first | omega | (simp only [zlm, zla, zlc, zln, zls, zlr, zlt, zld, lens_api_Re]; done) | (simp only [zlm, zla, zlc, zln, zls, zlr, zlt, zld, lens_api_Re]; omega) | (simp only [zlm, zla, zlc, zln, zls, zlr, zlt, zld, lens_api_Re] at *; omega)), hF⟩ ?_
  clear hF
  rintro m2 s_ ⟨v121, v122, v123, v124, he, ho, hn_v122, hF⟩
  refine WA.keep _ _ he ho ?_
  clear he ho
  cases m2 with
  | zero => cases hF
  | succ m2 =>
    obtain ⟨self2, hself2⟩ : ∃ g, g = F175_l2 k v0 m2 := ⟨_, rfl⟩
    have hF : F175_b2 k self2 v0 v121 v123 v124 = some r := by rw [hself2]; exact hF
    refine WA.seq ?_
    refine WA.seq ?_
    refine WA.regM (α := Int) (raw := ((v0.map e_api_Range).length : Int)) (can := (v0.length : Int)) (fun m_ => ([(0, one (.sl (v0.map e_api_Range))), (3, .val false [.arr 103 v122]), (4, one (.int .i64 v123)), (5, one (.int .i64 v124)), (9, one (.bool (decide (v124 < m_))))], [(103, .arr 2 (v121.map e_api_Range))], [])) ((by first | (simp only [zlm, zla, zlc, zln, zls, zlr, zlt, zld, lens_api_Re]; done) | (simp only [zlm, zla, zlc, zln, zls, zlr, zlt, zld, lens_api_Re]; omega) | omega)) [0, 3, 4, 5, 9] [103] [] (env' := [(0, one (.sl (v0.map e_api_Range))), (3, .val false [.arr 103 v122]), (4, one (.int .i64 v123)), (5, one (.int .i64 v124)), (9, one (.bool (decide (v124 < (v0.length : Int)))))]) (os' := [(103, .arr 2 (v121.map e_api_Range))]) (O := []) (by kernel_rfl) (by kernel_rfl) (sound _ _) trivial ?_
    refine WA.cond (b := (decide (v124 < (v0.length : Int)))) rfl (fun hb125 => ?_) (fun hb125 => ?_)
    · have hF := cond_t hF hb125
      refine WA.skip ?_
      refine WA.seq ?_
      refine WA.block ?_
      refine WA.join (fun s_ => ∃ (v130 : List api_Range) (v131 : Nat), pickE s_.env [0, 3, 5] = [(0, one (.sl (v0.map e_api_Range))), (3, .val false [.arr 103 v131]), (5, one (.int .i64 v124))] ∧ pickE s_.os [103] = [(103, .arr 2 (v130.map e_api_Range))] ∧ v131 = (v130 : List _).length ∧ F175_j3 self2 v0 v124 v130 = some r) ?_ ?_
      · rintro s_ ⟨v130, v131, he, ho, hn_v131, hF⟩
        refine WA.keep _ _ he ho ?_
        clear he ho
        obtain ⟨y132, hy132, hF⟩ := bind_some hF
        refine WA.reg [0, 3, 4, 5] [103] [(2, .cells (e_api_Range y132))] (env' := [(0, one (.sl (v0.map e_api_Range))), (3, .val false [.arr 103 v131]), (4, one (.int .i64 (w64 (y132.f_Hi + 1)))), (5, one (.int .i64 v124))]) (os' := [(103, .arr 2 (v130.map e_api_Range))]) (O := [idxL (v0.map e_api_Range) v124 = some (e_api_Range y132)]) (by kernel_rfl) (sound _ _) ⟨(idx_map _ hy132), trivial⟩ ?_
        refine WA.reg [0, 3, 4, 5] [103] [] (env' := [(0, one (.sl (v0.map e_api_Range))), (3, .val false [.arr 103 v131]), (4, one (.int .i64 (w64 (y132.f_Hi + 1)))), (5, one (.int .i64 (w64 (v124 + 1))))]) (os' := [(103, .arr 2 (v130.map e_api_Range))]) (O := []) (by kernel_rfl) (sound _ _) trivial ?_
        exact ⟨m2, Nat.lt_succ_self _, v130, v131, (w64 (y132.f_Hi + 1)), (w64 (v124 + 1)), by kernel_rfl, by kernel_rfl, (by first | omega | (simp only [zlm, zla, zlc, zln, zls, zlr, zlt, zld, lens_api_Re]; done) | (simp only [zlm, zla, zlc, zln, zls, zlr, zlt, zld, lens_api_Re]; omega) | (simp only [zlm, zla, zlc, zln, zls, zlr, zlt, zld, lens_api_Re] at *; omega)), by rw [hself2] at hF; exact hF⟩
      · refine WA.seq ?_
        obtain ⟨y126, hy126, hF⟩ := bind_some hF
        refine WA.reg [0, 3, 4, 5, 18] [103] [(3, .cells (e_api_Range y126))] (env' := [(0, one (.sl (v0.map e_api_Range))), (3, .val false [.arr 103 v122]), (4, one (.int .i64 v123)), (5, one (.int .i64 v124)), (18, one (.bool (decide (v123 < y126.f_Lo))))]) (os' := [(103, .arr 2 (v121.map e_api_Range))]) (O := [idxL (v0.map e_api_Range) v124 = some (e_api_Range y126)]) (by kernel_rfl) (sound _ _) ⟨(idx_map _ hy126), trivial⟩ ?_
        refine WA.cond (b := (decide (v123 < y126.f_Lo))) rfl (fun hb127 => ?_) (fun hb127 => ?_)
        · have hF := cond_t hF hb127
          obtain ⟨y128, hy128, hF⟩ := bind_some hF
          obtain ⟨hc129, hF⟩ := if_some hF
          refine WA.regM (α := (List (List PV))) (raw := ((v121.map e_api_Range) ++ (([(⟨v123, (w64 (y128.f_Lo - 1))⟩ : api_Range)] : List api_Range).map e_api_Range))) (can := ((v121 ++ ([(⟨v123, (w64 (y128.f_Lo - 1))⟩ : api_Range)] : List api_Range)).map e_api_Range)) (fun m_ => ([(0, one (.sl (v0.map e_api_Range))), (3, .val false [.arr 103 (v122 + 1)]), (5, one (.int .i64 v124))], [(103, .arr 2 m_)], [idxL (v0.map e_api_Range) v124 = some (e_api_Range y128), v122 = (v121.map e_api_Range).length, (v121.map e_api_Range).length + (([(⟨v123, (w64 (y128.f_Lo - 1))⟩ : api_Range)] : List api_Range).map e_api_Range).length ≤ 1073741824, ∀ es, es ∈ (([(⟨v123, (w64 (y128.f_Lo - 1))⟩ : api_Range)] : List api_Range).map e_api_Range) → es.length = 2])) ((by first | (simp only [len_map, app_map, take_map, drop_map, set_map, rep_map, lens_api_Re, app_api_Re, take_api_Re, drop_api_Re, set_api_Re, es_api_Re, e0_eq_api_Re]; done) | (simp only [List.map_append, List.map_cons, List.map_nil, List.map_take, List.map_drop, List.map_set, List.map_replicate, List.length_map, es_map_api_Re, e0_eq_api_Re]; done))) [0, 3, 5] [103] [(4, .cells (e_api_Range y128))] (env' := [(0, one (.sl (v0.map e_api_Range))), (3, .val false [.arr 103 (v122 + 1)]), (5, one (.int .i64 v124))]) (os' := [(103, .arr 2 ((v121 ++ ([(⟨v123, (w64 (y128.f_Lo - 1))⟩ : api_Range)] : List api_Range)).map e_api_Range))]) (O := [idxL (v0.map e_api_Range) v124 = some (e_api_Range y128), v122 = (v121.map e_api_Range).length, (v121.map e_api_Range).length + (([(⟨v123, (w64 (y128.f_Lo - 1))⟩ : api_Range)] : List api_Range).map e_api_Range).length ≤ 1073741824, ∀ es, es ∈ (([(⟨v123, (w64 (y128.f_Lo - 1))⟩ : api_Range)] : List api_Range).map e_api_Range) → es.length = 2]) (by kernel_rfl) (by kernel_rfl) (sound _ _) ⟨(idx_map _ hy128), (by first | omega | (simp only [zlm, zla, zlc, zln, zls, zlr, zlt, zld, lens_api_Re]; done) | (simp only [zlm, zla, zlc, zln, zls, zlr, zlt, zld, lens_api_Re]; omega) | (simp only [zlm, zla, zlc, zln, zls, zlr, zlt, zld, lens_api_Re] at *; omega)), (by first | exact hc129 | (simp only [List.length_map, lens_api_Re] ; exact hc129)), (len_api_Range ([(⟨v123, (w64 (y128.f_Lo - 1))⟩ : api_Range)] : List api_Range)), trivial⟩ ?_
          exact ⟨(v121 ++ ([(⟨v123, (w64 (y128.f_Lo - 1))⟩ : api_Range)] : List api_Range)), (v122 + 1), by kernel_rfl, by kernel_rfl, (by first | omega | (simp only [zlm, zla, zlc, zln, zls, zlr, zlt, zld, lens_api_Re]; done) | (simp only [zlm, zla, zlc, zln, zls, zlr, zlt, zld, lens_api_Re]; omega) | (simp only [zlm, zla, zlc, zln, zls, zlr, zlt, zld, lens_api_Re] at *; omega)), hF⟩
        · have hF := cond_f hF hb127
          refine WA.skip ?_
          exact ⟨v121, v122, by kernel_rfl, by kernel_rfl, (by first | omega | (simp only [zlm, zla, zlc, zln, zls, zlr, zlt, zld, lens_api_Re]; done) | (simp only [zlm, zla, zlc, zln, zls, zlr, zlt, zld, lens_api_Re]; omega) | (simp only [zlm, zla, zlc, zln, zls, zlr, zlt, zld, lens_api_Re] at *; omega)), hF⟩
    · have hF := cond_f hF hb125
      refine WA.exit ?_
      refine WA.join (fun s_ => ∃ (v135 : List api_Range) (v136 : Nat), pickE s_.env [3] = [(3, .val false [.arr 103 v136])] ∧ pickE s_.os [103] = [(103, .arr 2 (v135.map e_api_Range))] ∧ v136 = (v135 : List _).length ∧ F175_j4 k v135 = some r) ?_ ?_
      · rintro s_ ⟨v135, v136, he, ho, hn_v136, hF⟩
        refine WA.keep _ _ he ho ?_
        clear he ho
        refine WA.seq ?_
        refine WA.freeze 103 3 (s := 2) (n := v136) (els := (v135.map e_api_Range)) rfl rfl (by first | omega | (simp only [zlm, zla, zlc, zln, zls, zlr, zlt, zld, lens_api_Re]; done) | (simp only [zlm, zla, zlc, zln, zls, zlr, zlt, zld, lens_api_Re]; omega) | (simp only [zlm, zla, zlc, zln, zls, zlr, zlt, zld, lens_api_Re] at *; omega)) ?_
        refine WA.keep [3] [] (env' := [(3, one (.sl (v135.map e_api_Range)))]) (os' := []) (by kernel_rfl) (by kernel_rfl) ?_
        obtain ⟨y138, hy138, hF⟩ := bind_some hF
        obtain ⟨y139, hy139, hF⟩ := bind_some hF
        refine WA.reg [2] [] [(1, .callR [] (one (.sl (y138.map e_api_Range)))), (2, .callR [] (one (.sl (y139.map e_api_Range))))] (env' := [(2, one (.sl (y139.map e_api_Range)))]) (os' := []) (O := [Sim Tryz.prog GL0 143 [] [] (one (.sl (y138.map e_api_Range))) [], ([] : List Nat).Nodup, Sim Tryz.prog GL0 190 [one (.sl (v135.map e_api_Range)), one (.sl (y138.map e_api_Range))] [] (one (.sl (y139.map e_api_Range))) [], ([] : List Nat).Nodup]) (by kernel_rfl) (sound _ _) ⟨(F143_ok k _ hy138), (by decide), (F190_ok k _ _ _ hy139), (by decide), trivial⟩ ?_
        refine WA.ret ?_
        obtain rfl := Option.some.inj hF
        exact out_ret (one (.sl (y139.map e_api_Range))) [] (by kernel_rfl) (by kernel_rfl) (by kernel_rfl) (by kernel_rfl) (by decide) rfl rfl
      · refine WA.seq ?_
        refine WA.reg [3, 4, 37] [103] [] (env' := [(3, .val false [.arr 103 v122]), (4, one (.int .i64 v123)), (37, one (.bool (decide (v123 ≤ 1114111))))]) (os' := [(103, .arr 2 (v121.map e_api_Range))]) (O := []) (by kernel_rfl) (sound _ _) trivial ?_
        refine WA.cond (b := (decide (v123 ≤ 1114111))) rfl (fun hb133 => ?_) (fun hb133 => ?_)
        · have hF := cond_t hF hb133
          obtain ⟨hc134, hF⟩ := if_some hF
          refine WA.regM (α := (List (List PV))) (raw := ((v121.map e_api_Range) ++ (([(⟨v123, 1114111⟩ : api_Range)] : List api_Range).map e_api_Range))) (can := ((v121 ++ ([(⟨v123, 1114111⟩ : api_Range)] : List api_Range)).map e_api_Range)) (fun m_ => ([(3, .val false [.arr 103 (v122 + 1)])], [(103, .arr 2 m_)], [v122 = (v121.map e_api_Range).length, (v121.map e_api_Range).length + (([(⟨v123, 1114111⟩ : api_Range)] : List api_Range).map e_api_Range).length ≤ 1073741824, ∀ es, es ∈ (([(⟨v123, 1114111⟩ : api_Range)] : List api_Range).map e_api_Range) → es.length = 2])) ((by first | (simp only [len_map, app_map, take_map, drop_map, set_map, rep_map, lens_api_Re, app_api_Re, take_api_Re, drop_api_Re, set_api_Re, es_api_Re, e0_eq_api_Re]; done) | (simp only [List.map_append, List.map_cons, List.map_nil, List.map_take, List.map_drop, List.map_set, List.map_replicate, List.length_map, es_map_api_Re, e0_eq_api_Re]; done))) [3] [103] [] (env' := [(3, .val false [.arr 103 (v122 + 1)])]) (os' := [(103, .arr 2 ((v121 ++ ([(⟨v123, 1114111⟩ : api_Range)] : List api_Range)).map e_api_Range))]) (O := [v122 = (v121.map e_api_Range).length, (v121.map e_api_Range).length + (([(⟨v123, 1114111⟩ : api_Range)] : List api_Range).map e_api_Range).length ≤ 1073741824, ∀ es, es ∈ (([(⟨v123, 1114111⟩ : api_Range)] : List api_Range).map e_api_Range) → es.length = 2]) (by kernel_rfl) (by kernel_rfl) (sound _ _) ⟨(by first | omega | (simp only [zlm, zla, zlc, zln, zls, zlr, zlt, zld, lens_api_Re]; done) | (simp only [zlm, zla, zlc, zln, zls, zlr, zlt, zld, lens_api_Re]; omega) | (simp only [zlm, zla, zlc, zln, zls, zlr, zlt, zld, lens_api_Re] at *; omega)), (by first | exact hc134 | (simp only [List.length_map, lens_api_Re] ; exact hc134)), (len_api_Range ([(⟨v123, 1114111⟩ : api_Range)] : List api_Range)), trivial⟩ ?_
          exact ⟨(v121 ++ ([(⟨v123, 1114111⟩ : api_Range)] : List api_Range)), (v122 + 1), by kernel_rfl, by kernel_rfl, (by first | omega | (simp only [zlm, zla, zlc, zln, zls, zlr, zlt, zld, lens_api_Re]; done) | (simp only [zlm, zla, zlc, zln, zls, zlr, zlt, zld, lens_api_Re]; omega) | (simp only [zlm, zla, zlc, zln, zls, zlr, zlt, zld, lens_api_Re] at *; omega)), hF⟩
        · have hF := cond_f hF hb133
          refine WA.skip ?_
          exact ⟨v121, v122, by kernel_rfl, by kernel_rfl, (by first | omega | (simp only [zlm, zla, zlc, zln, zls, zlr, zlt, zld, lens_api_Re]; done) | (simp only [zlm, zla, zlc, zln, zls, zlr, zlt, zld, lens_api_Re]; omega) | (simp only [zlm, zla, zlc, zln, zls, zlr, zlt, zld, lens_api_Re] at *; omega)), hF⟩
/-! entrepot entrepotref10.one -/
def F145 (k : Nat) (v0 : Int) : Option api_Re :=
  ((some (⟨1, ([(⟨v0, v0⟩ : api_Range)] : List api_Range), ([] : List api_Re), 0, 0⟩ : api_Re)))
theorem F145_ok (k : Nat) (v0 : Int) (r : api_Re) (hF : F145 k v0 = some r) : Sim Tryz.prog GL0 145 [one (.int .i64 v0)] [] (.val true (pvL (e_api_Re r))) [] := by
  refine sim_of [] Tryz.func145 rfl (by kernel_rfl) (by kernel_rfl) ?_
  show WA _ _ 8 _ _ _
  refine WA.seq ?_
  refine WA.reg [0, 2] [102] [(0, .obj 102)] (env' := [(0, one (.int .i64 v0)), (2, .val false [.ptr 102 1 0 0])]) (os' := [(102, .box (pvL (e_api_Re (⟨0, ([] : List api_Range), ([] : List api_Re), 0, 0⟩ : api_Re))))]) (O := []) (by kernel_rfl) (sound _ _) trivial ?_
  refine WA.seq ?_
  refine WA.reg [2] [102] [] (env' := [(2, .val false [.ptr 102 1 0 0])]) (os' := [(102, .box (pvL (e_api_Re (⟨1, ([(⟨v0, v0⟩ : api_Range)] : List api_Range), ([] : List api_Re), 0, 0⟩ : api_Re))))]) (O := []) (by kernel_rfl) (sound _ _) trivial ?_
  refine WA.ret ?_
  obtain rfl := Option.some.inj hF
  exact out_ret (.val true (pvL (e_api_Re (⟨1, ([(⟨v0, v0⟩ : api_Range)] : List api_Range), ([] : List api_Re), 0, 0⟩ : api_Re)))) [] (by kernel_rfl) (by kernel_rfl) (by kernel_rfl) (by kernel_rfl) (by decide) rfl rfl
/-! entrepot entrepotref10.among -/
def F146_b0 (self0 : Int → Option Bool) (v0 : List UInt8) (v1 : Int) (v108 : Int) : Option Bool :=
  (cond (decide (v108 < (v0.length : Int))) ((idxL v0 v108).bind fun y110 => (cond ((y110.toNat : Int) == v1) ((some true)) ((self0 (w64 (v108 + 1)))))) (((some false))))
def F146_l0 (v0 : List UInt8) (v1 : Int) : Nat → Int → Option Bool
  | 0, _ => none
  | m_ + 1, v108 => F146_b0 (F146_l0 v0 v1 m_) v0 v1 v108
def F146 (k : Nat) (v0 : List UInt8) (v1 : Int) : Option Bool :=
  ((F146_l0 v0 v1 k 0))
theorem F146_ok (k : Nat) (v0 : List UInt8) (v1 : Int) (r : Bool) (hF : F146 k v0 v1 = some r) : Sim Tryz.prog GL0 146 [one (.str v0), one (.int .u8 v1)] [] (one (.bool r)) [] := by
  refine sim_of [] Tryz.func146 rfl (by kernel_rfl) (by kernel_rfl) ?_
  show WA _ _ 17 _ _ _
  refine WA.seq ?_
  refine WA.reg [0, 1] [] [] (env' := [(0, one (.str v0)), (1, one (.int .u8 v1))]) (os' := []) (O := []) (by kernel_rfl) (sound _ _) trivial ?_
  refine WA.seq ?_
  refine WA.seq ?_
  refine WA.reg [0, 1, 5] [] [] (env' := [(0, one (.str v0)), (1, one (.int .u8 v1)), (5, one (.int .i64 0))]) (os' := []) (O := []) (by kernel_rfl) (sound _ _) trivial ?_
  refine WA.block ?_
  refine WA.loop (fun m s_ => ∃ (v108 : Int), pickE s_.env [0, 1, 5] = [(0, one (.str v0)), (1, one (.int .u8 v1)), (5, one (.int .i64 v108))] ∧ pickE s_.os [] = [] ∧ F146_l0 v0 v1 m v108 = some r) k ⟨0, by kernel_rfl, by kernel_rfl, hF⟩ ?_
  clear hF
  rintro m0 s_ ⟨v108, he, ho, hF⟩
  refine WA.keep _ _ he ho ?_
  clear he ho
  cases m0 with
  | zero => cases hF
  | succ m0 =>
    obtain ⟨self0, hself0⟩ : ∃ g, g = F146_l0 v0 v1 m0 := ⟨_, rfl⟩
    have hF : F146_b0 self0 v0 v1 v108 = some r := by rw [hself0]; exact hF
    refine WA.seq ?_
    refine WA.seq ?_
    refine WA.reg [0, 1, 5, 9] [] [] (env' := [(0, one (.str v0)), (1, one (.int .u8 v1)), (5, one (.int .i64 v108)), (9, one (.bool (decide (v108 < (v0.length : Int)))))]) (os' := []) (O := []) (by kernel_rfl) (sound _ _) trivial ?_
    refine WA.cond (b := (decide (v108 < (v0.length : Int)))) rfl (fun hb109 => ?_) (fun hb109 => ?_)
    · have hF := cond_t hF hb109
      refine WA.skip ?_
      refine WA.seq ?_
      refine WA.block ?_
      refine WA.seq ?_
      obtain ⟨y110, hy110, hF⟩ := bind_some hF
      refine WA.reg [0, 1, 5, 16] [] [(2, .num (y110.toNat : Int))] (env' := [(0, one (.str v0)), (1, one (.int .u8 v1)), (5, one (.int .i64 v108)), (16, one (.bool ((y110.toNat : Int) == v1)))]) (os' := []) (O := [(idxL v0 v108).map (fun b => (b.toNat : Int)) = some (y110.toNat : Int)]) (by kernel_rfl) (sound _ _) ⟨(by rw [hy110]; rfl), trivial⟩ ?_
      refine WA.cond (b := ((y110.toNat : Int) == v1)) rfl (fun hb111 => ?_) (fun hb111 => ?_)
      · have hF := cond_t hF hb111
        refine WA.seq ?_
        refine WA.reg [4] [] [] (env' := [(4, one (.bool true))]) (os' := []) (O := []) (by kernel_rfl) (sound _ _) trivial ?_
        refine WA.ret ?_
        obtain rfl := Option.some.inj hF
        exact out_ret (one (.bool true)) [] (by kernel_rfl) (by kernel_rfl) (by kernel_rfl) (by kernel_rfl) (by decide) rfl rfl
      · have hF := cond_f hF hb111
        refine WA.skip ?_
        refine WA.reg [0, 1, 5] [] [] (env' := [(0, one (.str v0)), (1, one (.int .u8 v1)), (5, one (.int .i64 (w64 (v108 + 1))))]) (os' := []) (O := []) (by kernel_rfl) (sound _ _) trivial ?_
        exact ⟨m0, Nat.lt_succ_self _, (w64 (v108 + 1)), by kernel_rfl, by kernel_rfl, by rw [hself0] at hF; exact hF⟩
    · have hF := cond_f hF hb109
      refine WA.exit ?_
      refine WA.seq ?_
      refine WA.reg [4] [] [] (env' := [(4, one (.bool false))]) (os' := []) (O := []) (by kernel_rfl) (sound _ _) trivial ?_
      refine WA.ret ?_
      obtain rfl := Option.some.inj hF
      exact out_ret (one (.bool false)) [] (by kernel_rfl) (by kernel_rfl) (by kernel_rfl) (by kernel_rfl) (by decide) rfl rfl
/-! entrepot entrepotref10.points -/
def F44_b0 (k : Nat) (self0 : (List Int) → Int → Option (List Int)) (v0 : List UInt8) (v110 : List Int) (v112 : Int) : Option (List Int) :=
  (cond (decide (v112 < (v0.length : Int))) ((F46 k v0 v112).bind fun y114 => (if v110.length + ([y114.1] : List Int).length ≤ 1073741824 then (self0 (v110 ++ ([y114.1] : List Int)) (w64 (v112 + y114.2))) else none)) (((some v110))))
def F44_l0 (k : Nat) (v0 : List UInt8) : Nat → (List Int) → Int → Option (List Int)
  | 0, _, _ => none
  | m_ + 1, v110, v112 => F44_b0 k (F44_l0 k v0 m_) v0 v110 v112
def F44 (k : Nat) (v0 : List UInt8) : Option (List Int) :=
  (((F44_l0 k v0 k ([] : List Int) 0)))
theorem F44_ok (k : Nat) (v0 : List UInt8) (r : List Int) (hF : F44 k v0 = some r) : Sim Tryz.prog GL0 44 [one (.str v0)] [] (one (.sl (r.map (eInt .i64)))) [] := by
  refine sim_of [] Tryz.func44 rfl (by kernel_rfl) (by kernel_rfl) ?_
  show WA _ _ 25 _ _ _
  refine WA.seq ?_
  refine WA.reg [0] [] [] (env' := [(0, one (.str v0))]) (os' := []) (O := []) (by kernel_rfl) (sound _ _) trivial ?_
  refine WA.seq ?_
  refine WA.reg [0, 3] [103] [(0, .obj 103)] (env' := [(0, one (.str v0)), (3, .val false [.arr 103 0])]) (os' := [(103, .arr 1 (([] : List Int).map (eInt .i64)))]) (O := []) (by kernel_rfl) (sound _ _) trivial ?_
  refine WA.seq ?_
  refine WA.seq ?_
  refine WA.reg [0, 3, 4] [103] [] (env' := [(0, one (.str v0)), (3, .val false [.arr 103 0]), (4, one (.int .i64 0))]) (os' := [(103, .arr 1 (([] : List Int).map (eInt .i64)))]) (O := []) (by kernel_rfl) (sound _ _) trivial ?_
  refine WA.block ?_
  refine WA.loop (fun m s_ => ∃ (v110 : List Int) (v111 : Nat) (v112 : Int), pickE s_.env [0, 3, 4] = [(0, one (.str v0)), (3, .val false [.arr 103 v111]), (4, one (.int .i64 v112))] ∧ pickE s_.os [103] = [(103, .arr 1 (v110.map (eInt .i64)))] ∧ v111 = (v110 : List _).length ∧ F44_l0 k v0 m v110 v112 = some r) k ⟨([] : List Int), 0, 0, by kernel_rfl, by kernel_rfl, (by first | omega | (simp only [zlm, zla, zlc, zln, zls, zlr, zlt, zld, lens_api_Re]; done) | (simp only [zlm, zla, zlc, zln, zls, zlr, zlt, zld, lens_api_Re]; omega) | (simp only [zlm, zla, zlc, zln, zls, zlr, zlt, zld, lens_api_Re] at *; omega)), hF⟩ ?_
  clear hF
  rintro m0 s_ ⟨v110, v111, v112, he, ho, hn_v111, hF⟩
  refine WA.keep _ _ he ho ?_
  clear he ho
  cases m0 with
  | zero => cases hF
  | succ m0 =>
    obtain ⟨self0, hself0⟩ : ∃ g, g = F44_l0 k v0 m0 := ⟨_, rfl⟩
    have hF : F44_b0 k self0 v0 v110 v112 = some r := by rw [hself0]; exact hF
    refine WA.seq ?_
    refine WA.seq ?_
    refine WA.reg [0, 3, 4, 10] [103] [] (env' := [(0, one (.str v0)), (3, .val false [.arr 103 v111]), (4, one (.int .i64 v112)), (10, one (.bool (decide (v112 < (v0.length : Int)))))]) (os' := [(103, .arr 1 (v110.map (eInt .i64)))]) (O := []) (by kernel_rfl) (sound _ _) trivial ?_
    refine WA.cond (b := (decide (v112 < (v0.length : Int)))) rfl (fun hb113 => ?_) (fun hb113 => ?_)
    · have hF := cond_t hF hb113
      refine WA.skip ?_
      refine WA.block ?_
      refine WA.seq ?_
      obtain ⟨y114, hy114, hF⟩ := bind_some hF
      refine WA.reg [0, 3, 4, 5, 6] [103] [(2, .callR [] (.tup [(false, [.pv (.int .i64 y114.1)]), (false, [.pv (.int .i64 y114.2)])]))] (env' := [(0, one (.str v0)), (3, .val false [.arr 103 v111]), (4, one (.int .i64 v112)), (5, one (.int .i64 y114.1)), (6, one (.int .i64 y114.2))]) (os' := [(103, .arr 1 (v110.map (eInt .i64)))]) (O := [Sim Tryz.prog GL0 46 [one (.str v0), one (.int .i64 v112)] [] (.tup [(false, [.pv (.int .i64 y114.1)]), (false, [.pv (.int .i64 y114.2)])]) [], ([] : List Nat).Nodup]) (by kernel_rfl) (sound _ _) ⟨(F46_ok k _ _ _ hy114), (by decide), trivial⟩ ?_
      refine WA.seq ?_
      obtain ⟨hc115, hF⟩ := if_some hF
      refine WA.regM (α := (List (List PV))) (raw := ((v110.map (eInt .i64)) ++ (([y114.1] : List Int).map (eInt .i64)))) (can := ((v110 ++ ([y114.1] : List Int)).map (eInt .i64))) (fun m_ => ([(0, one (.str v0)), (3, .val false [.arr 103 (v111 + 1)]), (4, one (.int .i64 v112)), (6, one (.int .i64 y114.2))], [(103, .arr 1 m_)], [v111 = (v110.map (eInt .i64)).length, (v110.map (eInt .i64)).length + (([y114.1] : List Int).map (eInt .i64)).length ≤ 1073741824, ∀ es, es ∈ (([y114.1] : List Int).map (eInt .i64)) → es.length = 1])) ((by first | (simp only [len_map, app_map, take_map, drop_map, set_map, rep_map, lens_api_Re, app_api_Re, take_api_Re, drop_api_Re, set_api_Re, es_api_Re, e0_eq_api_Re]; done) | (simp only [List.map_append, List.map_cons, List.map_nil, List.map_take, List.map_drop, List.map_set, List.map_replicate, List.length_map, es_map_api_Re, e0_eq_api_Re]; done))) [0, 3, 4, 6] [103] [] (env' := [(0, one (.str v0)), (3, .val false [.arr 103 (v111 + 1)]), (4, one (.int .i64 v112)), (6, one (.int .i64 y114.2))]) (os' := [(103, .arr 1 ((v110 ++ ([y114.1] : List Int)).map (eInt .i64)))]) (O := [v111 = (v110.map (eInt .i64)).length, (v110.map (eInt .i64)).length + (([y114.1] : List Int).map (eInt .i64)).length ≤ 1073741824, ∀ es, es ∈ (([y114.1] : List Int).map (eInt .i64)) → es.length = 1]) (by kernel_rfl) (by kernel_rfl) (sound _ _) ⟨(by first | omega | (simp only [zlm, zla, zlc, zln, zls, zlr, zlt, zld, lens_api_Re]; done) | (simp only [zlm, zla, zlc, zln, zls, zlr, zlt, zld, lens_api_Re]; omega) | (simp only [zlm, zla, zlc, zln, zls, zlr, zlt, zld, lens_api_Re] at *; omega)), (by first | exact hc115 | (simp only [List.length_map, lens_api_Re] ; exact hc115)), (len_one _ _ _ (fun _ => rfl)), trivial⟩ ?_
      refine WA.reg [0, 3, 4] [103] [] (env' := [(0, one (.str v0)), (3, .val false [.arr 103 (v111 + 1)]), (4, one (.int .i64 (w64 (v112 + y114.2))))]) (os' := [(103, .arr 1 ((v110 ++ ([y114.1] : List Int)).map (eInt .i64)))]) (O := []) (by kernel_rfl) (sound _ _) trivial ?_
      exact ⟨m0, Nat.lt_succ_self _, (v110 ++ ([y114.1] : List Int)), (v111 + 1), (w64 (v112 + y114.2)), by kernel_rfl, by kernel_rfl, (by first | omega | (simp only [zlm, zla, zlc, zln, zls, zlr, zlt, zld, lens_api_Re]; done) | (simp only [zlm, zla, zlc, zln, zls, zlr, zlt, zld, lens_api_Re]; omega) | (simp only [zlm, zla, zlc, zln, zls, zlr, zlt, zld, lens_api_Re] at *; omega)), by rw [hself0] at hF; exact hF⟩
    · have hF := cond_f hF hb113
      refine WA.exit ?_
      refine WA.seq ?_
      refine WA.reg [2] [103] [] (env' := [(2, .val false [.arr 103 v111])]) (os' := [(103, .arr 1 (v110.map (eInt .i64)))]) (O := []) (by kernel_rfl) (sound _ _) trivial ?_
      refine WA.freeze 103 2 (s := 1) (n := v111) (els := (v110.map (eInt .i64))) rfl rfl (by first | omega | (simp only [zlm, zla, zlc, zln, zls, zlr, zlt, zld, lens_api_Re]; done) | (simp only [zlm, zla, zlc, zln, zls, zlr, zlt, zld, lens_api_Re]; omega) | (simp only [zlm, zla, zlc, zln, zls, zlr, zlt, zld, lens_api_Re] at *; omega)) ?_
      refine WA.keep [2] [] (env' := [(2, one (.sl (v110.map (eInt .i64))))]) (os' := []) (by kernel_rfl) (by kernel_rfl) ?_
      refine WA.ret ?_
      obtain rfl := Option.some.inj hF
      exact out_ret (one (.sl (v110.map (eInt .i64)))) [] (by kernel_rfl) (by kernel_rfl) (by kernel_rfl) (by kernel_rfl) (by decide) rfl rfl
/-! entrepot entrepotlaw10.digits -/
def F35 (k : Nat) (v0 : Int) : Option (List UInt8) :=
  ((cond (decide (v0 ≥ 10)) (if (10 : Int) ≠ 0 then if (10 : Int) ≠ 0 then if (0 : Int) ≤ (w64 (Int.tdiv v0 10)) ∧ ((w64 (Int.tdiv v0 10)) : Int) ≤ (w64 ((w64 (Int.tdiv v0 10)) + 1)) ∧ (w64 ((w64 (Int.tdiv v0 10)) + 1)) ≤ (([48, 49, 50, 51, 52, 53, 54, 55, 56, 57] : List UInt8).length : Int) then if (10 : Int) ≠ 0 then if (10 : Int) ≠ 0 then if (0 : Int) ≤ (Int.tmod v0 10) ∧ ((Int.tmod v0 10) : Int) ≤ (w64 ((Int.tmod v0 10) + 1)) ∧ (w64 ((Int.tmod v0 10) + 1)) ≤ (([48, 49, 50, 51, 52, 53, 54, 55, 56, 57] : List UInt8).length : Int) then if ((([48, 49, 50, 51, 52, 53, 54, 55, 56, 57] : List UInt8).take (Int.toNat (w64 ((w64 (Int.tdiv v0 10)) + 1)))).drop (Int.toNat (w64 (Int.tdiv v0 10)))).length + ((([48, 49, 50, 51, 52, 53, 54, 55, 56, 57] : List UInt8).take (Int.toNat (w64 ((Int.tmod v0 10) + 1)))).drop (Int.toNat (Int.tmod v0 10))).length ≤ 4611686018427387904 then (some (((([48, 49, 50, 51, 52, 53, 54, 55, 56, 57] : List UInt8).take (Int.toNat (w64 ((w64 (Int.tdiv v0 10)) + 1)))).drop (Int.toNat (w64 (Int.tdiv v0 10)))) ++ ((([48, 49, 50, 51, 52, 53, 54, 55, 56, 57] : List UInt8).take (Int.toNat (w64 ((Int.tmod v0 10) + 1)))).drop (Int.toNat (Int.tmod v0 10))))) else none else none else none else none else none else none else none) ((if (0 : Int) ≤ v0 ∧ (v0 : Int) ≤ (w64 (v0 + 1)) ∧ (w64 (v0 + 1)) ≤ (([48, 49, 50, 51, 52, 53, 54, 55, 56, 57] : List UInt8).length : Int) then (some ((([48, 49, 50, 51, 52, 53, 54, 55, 56, 57] : List UInt8).take (Int.toNat (w64 (v0 + 1)))).drop (Int.toNat v0))) else none))))
theorem F35_ok (k : Nat) (v0 : Int) (r : List UInt8) (hF : F35 k v0 = some r) : Sim Tryz.prog GL0 35 [one (.int .i64 v0)] [] (one (.str r)) [] := by
  refine sim_of [] Tryz.func35 rfl (by kernel_rfl) (by kernel_rfl) ?_
  show WA _ _ 22 _ _ _
  refine WA.seq ?_
  refine WA.reg [0] [] [] (env' := [(0, one (.int .i64 v0))]) (os' := []) (O := []) (by kernel_rfl) (sound _ _) trivial ?_
  refine WA.seq ?_
  refine WA.seq ?_
  refine WA.reg [0, 4] [] [] (env' := [(0, one (.int .i64 v0)), (4, one (.bool (decide (v0 ≥ 10))))]) (os' := []) (O := []) (by kernel_rfl) (sound _ _) trivial ?_
  refine WA.cond (b := (decide (v0 ≥ 10))) rfl (fun hb101 => ?_) (fun hb101 => ?_)
  · have hF := cond_t hF hb101
    refine WA.seq ?_
    obtain ⟨hc102, hF⟩ := if_some hF
    obtain ⟨hc103, hF⟩ := if_some hF
    obtain ⟨hc104, hF⟩ := if_some hF
    obtain ⟨hc105, hF⟩ := if_some hF
    obtain ⟨hc106, hF⟩ := if_some hF
    obtain ⟨hc107, hF⟩ := if_some hF
    obtain ⟨hc108, hF⟩ := if_some hF
    refine WA.regD (by kernel_rfl) [2] [] [] (env' := [(2, one (.str (((([48, 49, 50, 51, 52, 53, 54, 55, 56, 57] : List UInt8).take (Int.toNat (w64 ((w64 (Int.tdiv v0 10)) + 1)))).drop (Int.toNat (w64 (Int.tdiv v0 10)))) ++ ((([48, 49, 50, 51, 52, 53, 54, 55, 56, 57] : List UInt8).take (Int.toNat (w64 ((Int.tmod v0 10) + 1)))).drop (Int.toNat (Int.tmod v0 10))))))]) (os' := []) (O := [(10 : Int) ≠ 0, (10 : Int) ≠ 0, (0 : Int) ≤ (w64 (Int.tdiv v0 10)), ((w64 (Int.tdiv v0 10)) : Int) ≤ (w64 ((w64 (Int.tdiv v0 10)) + 1)), (w64 ((w64 (Int.tdiv v0 10)) + 1)) ≤ (([48, 49, 50, 51, 52, 53, 54, 55, 56, 57] : List UInt8).length : Int), (10 : Int) ≠ 0, (10 : Int) ≠ 0, (0 : Int) ≤ (Int.tmod v0 10), ((Int.tmod v0 10) : Int) ≤ (w64 ((Int.tmod v0 10) + 1)), (w64 ((Int.tmod v0 10) + 1)) ≤ (([48, 49, 50, 51, 52, 53, 54, 55, 56, 57] : List UInt8).length : Int), ((([48, 49, 50, 51, 52, 53, 54, 55, 56, 57] : List UInt8).take (Int.toNat (w64 ((w64 (Int.tdiv v0 10)) + 1)))).drop (Int.toNat (w64 (Int.tdiv v0 10)))).length + ((([48, 49, 50, 51, 52, 53, 54, 55, 56, 57] : List UInt8).take (Int.toNat (w64 ((Int.tmod v0 10) + 1)))).drop (Int.toNat (Int.tmod v0 10))).length ≤ 4611686018427387904]) (by kernel_rfl) (by kernel_rfl) (sound _ _) ⟨hc102, hc103, hc104.1, hc104.2.1, hc104.2.2, hc105, hc106, hc107.1, hc107.2.1, hc107.2.2, hc108, trivial⟩ ?_
    refine WA.ret ?_
    obtain rfl := Option.some.inj hF
    exact out_ret (one (.str (((([48, 49, 50, 51, 52, 53, 54, 55, 56, 57] : List UInt8).take (Int.toNat (w64 ((w64 (Int.tdiv v0 10)) + 1)))).drop (Int.toNat (w64 (Int.tdiv v0 10)))) ++ ((([48, 49, 50, 51, 52, 53, 54, 55, 56, 57] : List UInt8).take (Int.toNat (w64 ((Int.tmod v0 10) + 1)))).drop (Int.toNat (Int.tmod v0 10)))))) [] (by kernel_rfl) (by kernel_rfl) (by kernel_rfl) (by kernel_rfl) (by decide) rfl rfl
  · have hF := cond_f hF hb101
    refine WA.skip ?_
    refine WA.seq ?_
    obtain ⟨hc109, hF⟩ := if_some hF
    refine WA.reg [2] [] [] (env' := [(2, one (.str ((([48, 49, 50, 51, 52, 53, 54, 55, 56, 57] : List UInt8).take (Int.toNat (w64 (v0 + 1)))).drop (Int.toNat v0))))]) (os' := []) (O := [(0 : Int) ≤ v0, (v0 : Int) ≤ (w64 (v0 + 1)), (w64 (v0 + 1)) ≤ (([48, 49, 50, 51, 52, 53, 54, 55, 56, 57] : List UInt8).length : Int)]) (by kernel_rfl) (sound _ _) ⟨hc109.1, hc109.2.1, hc109.2.2, trivial⟩ ?_
    refine WA.ret ?_
    obtain rfl := Option.some.inj hF
    exact out_ret (one (.str ((([48, 49, 50, 51, 52, 53, 54, 55, 56, 57] : List UInt8).take (Int.toNat (w64 (v0 + 1)))).drop (Int.toNat v0)))) [] (by kernel_rfl) (by kernel_rfl) (by kernel_rfl) (by kernel_rfl) (by decide) rfl rfl
end Go.Proofs.YthilboheomikjaaGreatDoor
end

section
namespace Go.Proofs.YthilboheomikjaaGreatDoor
open Go.AL
set_option linter.unusedVariables false
set_option linter.unusedSimpArgs false
set_option maxRecDepth 100000

/-! entrepot entrepotlaw10.RexWrong -/
def F13_j0 (v132 : Bool) : Option Bool :=
  some v132
def F13 (k : Nat) (v0 : Int) (v1 : Int) : Option Bool :=
  (if (26 : Int) ≠ 0 then (if ([40] : List UInt8).length + ([UInt8.ofNat (Int.toNat (IntKind.wrap .u8 (97 + (IntKind.wrap .u8 (w64 (Int.tmod (IntKind.wrap .u64 v0) 26))))))] : List UInt8).length ≤ 4611686018427387904 then if ([UInt8.ofNat (Int.toNat (IntKind.wrap .u8 (97 + (IntKind.wrap .u8 (w64 (Int.tmod (IntKind.wrap .u64 v0) 26))))))] : List UInt8).length + ([41] : List UInt8).length ≤ 4611686018427387904 then if ([91] : List UInt8).length + ([UInt8.ofNat (Int.toNat (IntKind.wrap .u8 (97 + (IntKind.wrap .u8 (w64 (Int.tmod (IntKind.wrap .u64 v0) 26))))))] : List UInt8).length ≤ 4611686018427387904 then if ([UInt8.ofNat (Int.toNat (IntKind.wrap .u8 (97 + (IntKind.wrap .u8 (w64 (Int.tmod (IntKind.wrap .u64 v0) 26))))))] : List UInt8).length + ([93] : List UInt8).length ≤ 4611686018427387904 then if ([42] : List UInt8).length + ([UInt8.ofNat (Int.toNat (IntKind.wrap .u8 (97 + (IntKind.wrap .u8 (w64 (Int.tmod (IntKind.wrap .u64 v0) 26))))))] : List UInt8).length ≤ 4611686018427387904 then if ([UInt8.ofNat (Int.toNat (IntKind.wrap .u8 (97 + (IntKind.wrap .u8 (w64 (Int.tmod (IntKind.wrap .u64 v0) 26))))))] : List UInt8).length + ([43, 63] : List UInt8).length ≤ 4611686018427387904 then if ([UInt8.ofNat (Int.toNat (IntKind.wrap .u8 (97 + (IntKind.wrap .u8 (w64 (Int.tmod (IntKind.wrap .u64 v0) 26))))))] : List UInt8).length + ([123] : List UInt8).length ≤ 4611686018427387904 then if ([UInt8.ofNat (Int.toNat (IntKind.wrap .u8 (97 + (IntKind.wrap .u8 (w64 (Int.tmod (IntKind.wrap .u64 v0) 26))))))] : List UInt8).length + ([123, 125] : List UInt8).length ≤ 4611686018427387904 then if ([UInt8.ofNat (Int.toNat (IntKind.wrap .u8 (97 + (IntKind.wrap .u8 (w64 (Int.tmod (IntKind.wrap .u64 v0) 26))))))] : List UInt8).length + ([123, 44, 50, 125] : List UInt8).length ≤ 4611686018427387904 then if ([UInt8.ofNat (Int.toNat (IntKind.wrap .u8 (97 + (IntKind.wrap .u8 (w64 (Int.tmod (IntKind.wrap .u64 v0) 26))))))] : List UInt8).length + ([123, 49] : List UInt8).length ≤ 4611686018427387904 then if ([UInt8.ofNat (Int.toNat (IntKind.wrap .u8 (97 + (IntKind.wrap .u8 (w64 (Int.tmod (IntKind.wrap .u64 v0) 26))))))] : List UInt8).length + ([123, 49, 44, 50] : List UInt8).length ≤ 4611686018427387904 then if ([UInt8.ofNat (Int.toNat (IntKind.wrap .u8 (97 + (IntKind.wrap .u8 (w64 (Int.tmod (IntKind.wrap .u64 v0) 26))))))] : List UInt8).length + ([123, 49, 50, 51, 52, 125] : List UInt8).length ≤ 4611686018427387904 then if ([91] : List UInt8).length + ([UInt8.ofNat (Int.toNat (IntKind.wrap .u8 (97 + (IntKind.wrap .u8 (w64 (Int.tmod (IntKind.wrap .u64 v0) 26))))))] : List UInt8).length ≤ 4611686018427387904 then if (([91] : List UInt8) ++ ([UInt8.ofNat (Int.toNat (IntKind.wrap .u8 (97 + (IntKind.wrap .u8 (w64 (Int.tmod (IntKind.wrap .u64 v0) 26))))))] : List UInt8)).length + ([45, 93] : List UInt8).length ≤ 4611686018427387904 then if ([91, 45] : List UInt8).length + ([UInt8.ofNat (Int.toNat (IntKind.wrap .u8 (97 + (IntKind.wrap .u8 (w64 (Int.tmod (IntKind.wrap .u64 v0) 26))))))] : List UInt8).length ≤ 4611686018427387904 then if (([91, 45] : List UInt8) ++ ([UInt8.ofNat (Int.toNat (IntKind.wrap .u8 (97 + (IntKind.wrap .u8 (w64 (Int.tmod (IntKind.wrap .u64 v0) 26))))))] : List UInt8)).length + ([93] : List UInt8).length ≤ 4611686018427387904 then if ([94] : List UInt8).length + ([UInt8.ofNat (Int.toNat (IntKind.wrap .u8 (97 + (IntKind.wrap .u8 (w64 (Int.tmod (IntKind.wrap .u64 v0) 26))))))] : List UInt8).length ≤ 4611686018427387904 then if ([UInt8.ofNat (Int.toNat (IntKind.wrap .u8 (97 + (IntKind.wrap .u8 (w64 (Int.tmod (IntKind.wrap .u64 v0) 26))))))] : List UInt8).length + ([36] : List UInt8).length ≤ 4611686018427387904 then if ([UInt8.ofNat (Int.toNat (IntKind.wrap .u8 (97 + (IntKind.wrap .u8 (w64 (Int.tmod (IntKind.wrap .u64 v0) 26))))))] : List UInt8).length + ([125] : List UInt8).length ≤ 4611686018427387904 then (if ((IntKind.wrap .u64 (([(([40] : List UInt8) ++ ([UInt8.ofNat (Int.toNat (IntKind.wrap .u8 (97 + (IntKind.wrap .u8 (w64 (Int.tmod (IntKind.wrap .u64 v0) 26))))))] : List UInt8)), (([UInt8.ofNat (Int.toNat (IntKind.wrap .u8 (97 + (IntKind.wrap .u8 (w64 (Int.tmod (IntKind.wrap .u64 v0) 26))))))] : List UInt8) ++ ([41] : List UInt8)), (([91] : List UInt8) ++ ([UInt8.ofNat (Int.toNat (IntKind.wrap .u8 (97 + (IntKind.wrap .u8 (w64 (Int.tmod (IntKind.wrap .u64 v0) 26))))))] : List UInt8)), (([UInt8.ofNat (Int.toNat (IntKind.wrap .u8 (97 + (IntKind.wrap .u8 (w64 (Int.tmod (IntKind.wrap .u64 v0) 26))))))] : List UInt8) ++ ([93] : List UInt8)), (([42] : List UInt8) ++ ([UInt8.ofNat (Int.toNat (IntKind.wrap .u8 (97 + (IntKind.wrap .u8 (w64 (Int.tmod (IntKind.wrap .u64 v0) 26))))))] : List UInt8)), (([UInt8.ofNat (Int.toNat (IntKind.wrap .u8 (97 + (IntKind.wrap .u8 (w64 (Int.tmod (IntKind.wrap .u64 v0) 26))))))] : List UInt8) ++ ([43, 63] : List UInt8)), (([UInt8.ofNat (Int.toNat (IntKind.wrap .u8 (97 + (IntKind.wrap .u8 (w64 (Int.tmod (IntKind.wrap .u64 v0) 26))))))] : List UInt8) ++ ([123] : List UInt8)), (([UInt8.ofNat (Int.toNat (IntKind.wrap .u8 (97 + (IntKind.wrap .u8 (w64 (Int.tmod (IntKind.wrap .u64 v0) 26))))))] : List UInt8) ++ ([123, 125] : List UInt8)), (([UInt8.ofNat (Int.toNat (IntKind.wrap .u8 (97 + (IntKind.wrap .u8 (w64 (Int.tmod (IntKind.wrap .u64 v0) 26))))))] : List UInt8) ++ ([123, 44, 50, 125] : List UInt8)), (([UInt8.ofNat (Int.toNat (IntKind.wrap .u8 (97 + (IntKind.wrap .u8 (w64 (Int.tmod (IntKind.wrap .u64 v0) 26))))))] : List UInt8) ++ ([123, 49] : List UInt8)), (([UInt8.ofNat (Int.toNat (IntKind.wrap .u8 (97 + (IntKind.wrap .u8 (w64 (Int.tmod (IntKind.wrap .u64 v0) 26))))))] : List UInt8) ++ ([123, 49, 44, 50] : List UInt8)), (([UInt8.ofNat (Int.toNat (IntKind.wrap .u8 (97 + (IntKind.wrap .u8 (w64 (Int.tmod (IntKind.wrap .u64 v0) 26))))))] : List UInt8) ++ ([123, 49, 50, 51, 52, 125] : List UInt8)), ([91, 93] : List UInt8), ([91, 94, 93] : List UInt8), ((([91] : List UInt8) ++ ([UInt8.ofNat (Int.toNat (IntKind.wrap .u8 (97 + (IntKind.wrap .u8 (w64 (Int.tmod (IntKind.wrap .u64 v0) 26))))))] : List UInt8)) ++ ([45, 93] : List UInt8)), ((([91, 45] : List UInt8) ++ ([UInt8.ofNat (Int.toNat (IntKind.wrap .u8 (97 + (IntKind.wrap .u8 (w64 (Int.tmod (IntKind.wrap .u64 v0) 26))))))] : List UInt8)) ++ ([93] : List UInt8)), ([91, 122, 45, 97, 93] : List UInt8), ([92, 119] : List UInt8), ([92] : List UInt8), (([94] : List UInt8) ++ ([UInt8.ofNat (Int.toNat (IntKind.wrap .u8 (97 + (IntKind.wrap .u8 (w64 (Int.tmod (IntKind.wrap .u64 v0) 26))))))] : List UInt8)), (([UInt8.ofNat (Int.toNat (IntKind.wrap .u8 (97 + (IntKind.wrap .u8 (w64 (Int.tmod (IntKind.wrap .u64 v0) 26))))))] : List UInt8) ++ ([36] : List UInt8)), ([123, 50, 125] : List UInt8), ([124, 42] : List UInt8), (([UInt8.ofNat (Int.toNat (IntKind.wrap .u8 (97 + (IntKind.wrap .u8 (w64 (Int.tmod (IntKind.wrap .u64 v0) 26))))))] : List UInt8) ++ ([125] : List UInt8)), ([91, 97, 45, 92, 100, 93] : List UInt8)] : List (List UInt8)).length : Int)) : Int) ≠ 0 then (idxL ([(([40] : List UInt8) ++ ([UInt8.ofNat (Int.toNat (IntKind.wrap .u8 (97 + (IntKind.wrap .u8 (w64 (Int.tmod (IntKind.wrap .u64 v0) 26))))))] : List UInt8)), (([UInt8.ofNat (Int.toNat (IntKind.wrap .u8 (97 + (IntKind.wrap .u8 (w64 (Int.tmod (IntKind.wrap .u64 v0) 26))))))] : List UInt8) ++ ([41] : List UInt8)), (([91] : List UInt8) ++ ([UInt8.ofNat (Int.toNat (IntKind.wrap .u8 (97 + (IntKind.wrap .u8 (w64 (Int.tmod (IntKind.wrap .u64 v0) 26))))))] : List UInt8)), (([UInt8.ofNat (Int.toNat (IntKind.wrap .u8 (97 + (IntKind.wrap .u8 (w64 (Int.tmod (IntKind.wrap .u64 v0) 26))))))] : List UInt8) ++ ([93] : List UInt8)), (([42] : List UInt8) ++ ([UInt8.ofNat (Int.toNat (IntKind.wrap .u8 (97 + (IntKind.wrap .u8 (w64 (Int.tmod (IntKind.wrap .u64 v0) 26))))))] : List UInt8)), (([UInt8.ofNat (Int.toNat (IntKind.wrap .u8 (97 + (IntKind.wrap .u8 (w64 (Int.tmod (IntKind.wrap .u64 v0) 26))))))] : List UInt8) ++ ([43, 63] : List UInt8)), (([UInt8.ofNat (Int.toNat (IntKind.wrap .u8 (97 + (IntKind.wrap .u8 (w64 (Int.tmod (IntKind.wrap .u64 v0) 26))))))] : List UInt8) ++ ([123] : List UInt8)), (([UInt8.ofNat (Int.toNat (IntKind.wrap .u8 (97 + (IntKind.wrap .u8 (w64 (Int.tmod (IntKind.wrap .u64 v0) 26))))))] : List UInt8) ++ ([123, 125] : List UInt8)), (([UInt8.ofNat (Int.toNat (IntKind.wrap .u8 (97 + (IntKind.wrap .u8 (w64 (Int.tmod (IntKind.wrap .u64 v0) 26))))))] : List UInt8) ++ ([123, 44, 50, 125] : List UInt8)), (([UInt8.ofNat (Int.toNat (IntKind.wrap .u8 (97 + (IntKind.wrap .u8 (w64 (Int.tmod (IntKind.wrap .u64 v0) 26))))))] : List UInt8) ++ ([123, 49] : List UInt8)), (([UInt8.ofNat (Int.toNat (IntKind.wrap .u8 (97 + (IntKind.wrap .u8 (w64 (Int.tmod (IntKind.wrap .u64 v0) 26))))))] : List UInt8) ++ ([123, 49, 44, 50] : List UInt8)), (([UInt8.ofNat (Int.toNat (IntKind.wrap .u8 (97 + (IntKind.wrap .u8 (w64 (Int.tmod (IntKind.wrap .u64 v0) 26))))))] : List UInt8) ++ ([123, 49, 50, 51, 52, 125] : List UInt8)), ([91, 93] : List UInt8), ([91, 94, 93] : List UInt8), ((([91] : List UInt8) ++ ([UInt8.ofNat (Int.toNat (IntKind.wrap .u8 (97 + (IntKind.wrap .u8 (w64 (Int.tmod (IntKind.wrap .u64 v0) 26))))))] : List UInt8)) ++ ([45, 93] : List UInt8)), ((([91, 45] : List UInt8) ++ ([UInt8.ofNat (Int.toNat (IntKind.wrap .u8 (97 + (IntKind.wrap .u8 (w64 (Int.tmod (IntKind.wrap .u64 v0) 26))))))] : List UInt8)) ++ ([93] : List UInt8)), ([91, 122, 45, 97, 93] : List UInt8), ([92, 119] : List UInt8), ([92] : List UInt8), (([94] : List UInt8) ++ ([UInt8.ofNat (Int.toNat (IntKind.wrap .u8 (97 + (IntKind.wrap .u8 (w64 (Int.tmod (IntKind.wrap .u64 v0) 26))))))] : List UInt8)), (([UInt8.ofNat (Int.toNat (IntKind.wrap .u8 (97 + (IntKind.wrap .u8 (w64 (Int.tmod (IntKind.wrap .u64 v0) 26))))))] : List UInt8) ++ ([36] : List UInt8)), ([123, 50, 125] : List UInt8), ([124, 42] : List UInt8), (([UInt8.ofNat (Int.toNat (IntKind.wrap .u8 (97 + (IntKind.wrap .u8 (w64 (Int.tmod (IntKind.wrap .u64 v0) 26))))))] : List UInt8) ++ ([125] : List UInt8)), ([91, 97, 45, 92, 100, 93] : List UInt8)] : List (List UInt8)) (w64 (Int.tmod (IntKind.wrap .u64 v1) (IntKind.wrap .u64 (([(([40] : List UInt8) ++ ([UInt8.ofNat (Int.toNat (IntKind.wrap .u8 (97 + (IntKind.wrap .u8 (w64 (Int.tmod (IntKind.wrap .u64 v0) 26))))))] : List UInt8)), (([UInt8.ofNat (Int.toNat (IntKind.wrap .u8 (97 + (IntKind.wrap .u8 (w64 (Int.tmod (IntKind.wrap .u64 v0) 26))))))] : List UInt8) ++ ([41] : List UInt8)), (([91] : List UInt8) ++ ([UInt8.ofNat (Int.toNat (IntKind.wrap .u8 (97 + (IntKind.wrap .u8 (w64 (Int.tmod (IntKind.wrap .u64 v0) 26))))))] : List UInt8)), (([UInt8.ofNat (Int.toNat (IntKind.wrap .u8 (97 + (IntKind.wrap .u8 (w64 (Int.tmod (IntKind.wrap .u64 v0) 26))))))] : List UInt8) ++ ([93] : List UInt8)), (([42] : List UInt8) ++ ([UInt8.ofNat (Int.toNat (IntKind.wrap .u8 (97 + (IntKind.wrap .u8 (w64 (Int.tmod (IntKind.wrap .u64 v0) 26))))))] : List UInt8)), (([UInt8.ofNat (Int.toNat (IntKind.wrap .u8 (97 + (IntKind.wrap .u8 (w64 (Int.tmod (IntKind.wrap .u64 v0) 26))))))] : List UInt8) ++ ([43, 63] : List UInt8)), (([UInt8.ofNat (Int.toNat (IntKind.wrap .u8 (97 + (IntKind.wrap .u8 (w64 (Int.tmod (IntKind.wrap .u64 v0) 26))))))] : List UInt8) ++ ([123] : List UInt8)), (([UInt8.ofNat (Int.toNat (IntKind.wrap .u8 (97 + (IntKind.wrap .u8 (w64 (Int.tmod (IntKind.wrap .u64 v0) 26))))))] : List UInt8) ++ ([123, 125] : List UInt8)), (([UInt8.ofNat (Int.toNat (IntKind.wrap .u8 (97 + (IntKind.wrap .u8 (w64 (Int.tmod (IntKind.wrap .u64 v0) 26))))))] : List UInt8) ++ ([123, 44, 50, 125] : List UInt8)), (([UInt8.ofNat (Int.toNat (IntKind.wrap .u8 (97 + (IntKind.wrap .u8 (w64 (Int.tmod (IntKind.wrap .u64 v0) 26))))))] : List UInt8) ++ ([123, 49] : List UInt8)), (([UInt8.ofNat (Int.toNat (IntKind.wrap .u8 (97 + (IntKind.wrap .u8 (w64 (Int.tmod (IntKind.wrap .u64 v0) 26))))))] : List UInt8) ++ ([123, 49, 44, 50] : List UInt8)), (([UInt8.ofNat (Int.toNat (IntKind.wrap .u8 (97 + (IntKind.wrap .u8 (w64 (Int.tmod (IntKind.wrap .u64 v0) 26))))))] : List UInt8) ++ ([123, 49, 50, 51, 52, 125] : List UInt8)), ([91, 93] : List UInt8), ([91, 94, 93] : List UInt8), ((([91] : List UInt8) ++ ([UInt8.ofNat (Int.toNat (IntKind.wrap .u8 (97 + (IntKind.wrap .u8 (w64 (Int.tmod (IntKind.wrap .u64 v0) 26))))))] : List UInt8)) ++ ([45, 93] : List UInt8)), ((([91, 45] : List UInt8) ++ ([UInt8.ofNat (Int.toNat (IntKind.wrap .u8 (97 + (IntKind.wrap .u8 (w64 (Int.tmod (IntKind.wrap .u64 v0) 26))))))] : List UInt8)) ++ ([93] : List UInt8)), ([91, 122, 45, 97, 93] : List UInt8), ([92, 119] : List UInt8), ([92] : List UInt8), (([94] : List UInt8) ++ ([UInt8.ofNat (Int.toNat (IntKind.wrap .u8 (97 + (IntKind.wrap .u8 (w64 (Int.tmod (IntKind.wrap .u64 v0) 26))))))] : List UInt8)), (([UInt8.ofNat (Int.toNat (IntKind.wrap .u8 (97 + (IntKind.wrap .u8 (w64 (Int.tmod (IntKind.wrap .u64 v0) 26))))))] : List UInt8) ++ ([36] : List UInt8)), ([123, 50, 125] : List UInt8), ([124, 42] : List UInt8), (([UInt8.ofNat (Int.toNat (IntKind.wrap .u8 (97 + (IntKind.wrap .u8 (w64 (Int.tmod (IntKind.wrap .u64 v0) 26))))))] : List UInt8) ++ ([125] : List UInt8)), ([91, 97, 45, 92, 100, 93] : List UInt8)] : List (List UInt8)).length : Int))))).bind fun y122 => (F27 k y122).bind fun y123 => (F27 k ([UInt8.ofNat (Int.toNat (IntKind.wrap .u8 (97 + (IntKind.wrap .u8 (w64 (Int.tmod (IntKind.wrap .u64 v0) 26))))))] : List UInt8)).bind fun y124 => (F26 k).bind fun y125 => cond y125 (cond (y123.2 == 3) ((F29 k y123.1 (⟨0, ([] : List api_Range), ([] : List api_Re), 0, 0⟩ : api_Re)).bind fun y128 => cond y128 (cond (y124.2 == 0) ((F31 k y124.1 ([UInt8.ofNat (Int.toNat (IntKind.wrap .u8 (97 + (IntKind.wrap .u8 (w64 (Int.tmod (IntKind.wrap .u64 v0) 26))))))] : List UInt8)).bind fun y131 => (F13_j0 y131)) ((F13_j0 false))) ((F13_j0 false))) ((F13_j0 false))) ((F13_j0 false)) else none) else none else none else none else none else none else none else none else none else none else none else none else none else none else none else none else none else none else none else none) else none)
theorem F13_ok (k : Nat) (v0 : Int) (v1 : Int) (r : Bool) (hF : F13 k v0 v1 = some r) : Sim Tryz.prog GL0 13 [one (.int .i64 v0), one (.int .i64 v1)] [] (one (.bool r)) [] := by
  refine sim_of [] Tryz.func13 rfl (by kernel_rfl) (by kernel_rfl) ?_
  show WA _ _ 94 _ _ _
  refine WA.seq ?_
  refine WA.reg [0, 1] [] [] (env' := [(0, one (.int .i64 v0)), (1, one (.int .i64 v1))]) (os' := []) (O := []) (by kernel_rfl) (sound _ _) trivial ?_
  refine WA.seq ?_
  obtain ⟨hc101, hF⟩ := if_some hF
  refine WA.reg [1, 5] [] [] (env' := [(1, one (.int .i64 v1)), (5, one (.str ([UInt8.ofNat (Int.toNat (IntKind.wrap .u8 (97 + (IntKind.wrap .u8 (w64 (Int.tmod (IntKind.wrap .u64 v0) 26))))))] : List UInt8)))]) (os' := []) (O := [(26 : Int) ≠ 0]) (by kernel_rfl) (sound _ _) ⟨hc101, trivial⟩ ?_
  refine WA.seq ?_
  obtain ⟨hc102, hF⟩ := if_some hF
  obtain ⟨hc103, hF⟩ := if_some hF
  obtain ⟨hc104, hF⟩ := if_some hF
  obtain ⟨hc105, hF⟩ := if_some hF
  obtain ⟨hc106, hF⟩ := if_some hF
  obtain ⟨hc107, hF⟩ := if_some hF
  obtain ⟨hc108, hF⟩ := if_some hF
  obtain ⟨hc109, hF⟩ := if_some hF
  obtain ⟨hc110, hF⟩ := if_some hF
  obtain ⟨hc111, hF⟩ := if_some hF
  obtain ⟨hc112, hF⟩ := if_some hF
  obtain ⟨hc113, hF⟩ := if_some hF
  obtain ⟨hc114, hF⟩ := if_some hF
  obtain ⟨hc115, hF⟩ := if_some hF
  obtain ⟨hc116, hF⟩ := if_some hF
  obtain ⟨hc117, hF⟩ := if_some hF
  obtain ⟨hc118, hF⟩ := if_some hF
  obtain ⟨hc119, hF⟩ := if_some hF
  obtain ⟨hc120, hF⟩ := if_some hF
  refine WA.reg [1, 5, 6] [] [] (env' := [(1, one (.int .i64 v1)), (5, one (.str ([UInt8.ofNat (Int.toNat (IntKind.wrap .u8 (97 + (IntKind.wrap .u8 (w64 (Int.tmod (IntKind.wrap .u64 v0) 26))))))] : List UInt8))), (6, one (.sl (([(([40] : List UInt8) ++ ([UInt8.ofNat (Int.toNat (IntKind.wrap .u8 (97 + (IntKind.wrap .u8 (w64 (Int.tmod (IntKind.wrap .u64 v0) 26))))))] : List UInt8)), (([UInt8.ofNat (Int.toNat (IntKind.wrap .u8 (97 + (IntKind.wrap .u8 (w64 (Int.tmod (IntKind.wrap .u64 v0) 26))))))] : List UInt8) ++ ([41] : List UInt8)), (([91] : List UInt8) ++ ([UInt8.ofNat (Int.toNat (IntKind.wrap .u8 (97 + (IntKind.wrap .u8 (w64 (Int.tmod (IntKind.wrap .u64 v0) 26))))))] : List UInt8)), (([UInt8.ofNat (Int.toNat (IntKind.wrap .u8 (97 + (IntKind.wrap .u8 (w64 (Int.tmod (IntKind.wrap .u64 v0) 26))))))] : List UInt8) ++ ([93] : List UInt8)), (([42] : List UInt8) ++ ([UInt8.ofNat (Int.toNat (IntKind.wrap .u8 (97 + (IntKind.wrap .u8 (w64 (Int.tmod (IntKind.wrap .u64 v0) 26))))))] : List UInt8)), (([UInt8.ofNat (Int.toNat (IntKind.wrap .u8 (97 + (IntKind.wrap .u8 (w64 (Int.tmod (IntKind.wrap .u64 v0) 26))))))] : List UInt8) ++ ([43, 63] : List UInt8)), (([UInt8.ofNat (Int.toNat (IntKind.wrap .u8 (97 + (IntKind.wrap .u8 (w64 (Int.tmod (IntKind.wrap .u64 v0) 26))))))] : List UInt8) ++ ([123] : List UInt8)), (([UInt8.ofNat (Int.toNat (IntKind.wrap .u8 (97 + (IntKind.wrap .u8 (w64 (Int.tmod (IntKind.wrap .u64 v0) 26))))))] : List UInt8) ++ ([123, 125] : List UInt8)), (([UInt8.ofNat (Int.toNat (IntKind.wrap .u8 (97 + (IntKind.wrap .u8 (w64 (Int.tmod (IntKind.wrap .u64 v0) 26))))))] : List UInt8) ++ ([123, 44, 50, 125] : List UInt8)), (([UInt8.ofNat (Int.toNat (IntKind.wrap .u8 (97 + (IntKind.wrap .u8 (w64 (Int.tmod (IntKind.wrap .u64 v0) 26))))))] : List UInt8) ++ ([123, 49] : List UInt8)), (([UInt8.ofNat (Int.toNat (IntKind.wrap .u8 (97 + (IntKind.wrap .u8 (w64 (Int.tmod (IntKind.wrap .u64 v0) 26))))))] : List UInt8) ++ ([123, 49, 44, 50] : List UInt8)), (([UInt8.ofNat (Int.toNat (IntKind.wrap .u8 (97 + (IntKind.wrap .u8 (w64 (Int.tmod (IntKind.wrap .u64 v0) 26))))))] : List UInt8) ++ ([123, 49, 50, 51, 52, 125] : List UInt8)), ([91, 93] : List UInt8), ([91, 94, 93] : List UInt8), ((([91] : List UInt8) ++ ([UInt8.ofNat (Int.toNat (IntKind.wrap .u8 (97 + (IntKind.wrap .u8 (w64 (Int.tmod (IntKind.wrap .u64 v0) 26))))))] : List UInt8)) ++ ([45, 93] : List UInt8)), ((([91, 45] : List UInt8) ++ ([UInt8.ofNat (Int.toNat (IntKind.wrap .u8 (97 + (IntKind.wrap .u8 (w64 (Int.tmod (IntKind.wrap .u64 v0) 26))))))] : List UInt8)) ++ ([93] : List UInt8)), ([91, 122, 45, 97, 93] : List UInt8), ([92, 119] : List UInt8), ([92] : List UInt8), (([94] : List UInt8) ++ ([UInt8.ofNat (Int.toNat (IntKind.wrap .u8 (97 + (IntKind.wrap .u8 (w64 (Int.tmod (IntKind.wrap .u64 v0) 26))))))] : List UInt8)), (([UInt8.ofNat (Int.toNat (IntKind.wrap .u8 (97 + (IntKind.wrap .u8 (w64 (Int.tmod (IntKind.wrap .u64 v0) 26))))))] : List UInt8) ++ ([36] : List UInt8)), ([123, 50, 125] : List UInt8), ([124, 42] : List UInt8), (([UInt8.ofNat (Int.toNat (IntKind.wrap .u8 (97 + (IntKind.wrap .u8 (w64 (Int.tmod (IntKind.wrap .u64 v0) 26))))))] : List UInt8) ++ ([125] : List UInt8)), ([91, 97, 45, 92, 100, 93] : List UInt8)] : List (List UInt8)).map eStr)))]) (os' := []) (O := [([40] : List UInt8).length + ([UInt8.ofNat (Int.toNat (IntKind.wrap .u8 (97 + (IntKind.wrap .u8 (w64 (Int.tmod (IntKind.wrap .u64 v0) 26))))))] : List UInt8).length ≤ 4611686018427387904, ([UInt8.ofNat (Int.toNat (IntKind.wrap .u8 (97 + (IntKind.wrap .u8 (w64 (Int.tmod (IntKind.wrap .u64 v0) 26))))))] : List UInt8).length + ([41] : List UInt8).length ≤ 4611686018427387904, ([91] : List UInt8).length + ([UInt8.ofNat (Int.toNat (IntKind.wrap .u8 (97 + (IntKind.wrap .u8 (w64 (Int.tmod (IntKind.wrap .u64 v0) 26))))))] : List UInt8).length ≤ 4611686018427387904, ([UInt8.ofNat (Int.toNat (IntKind.wrap .u8 (97 + (IntKind.wrap .u8 (w64 (Int.tmod (IntKind.wrap .u64 v0) 26))))))] : List UInt8).length + ([93] : List UInt8).length ≤ 4611686018427387904, ([42] : List UInt8).length + ([UInt8.ofNat (Int.toNat (IntKind.wrap .u8 (97 + (IntKind.wrap .u8 (w64 (Int.tmod (IntKind.wrap .u64 v0) 26))))))] : List UInt8).length ≤ 4611686018427387904, ([UInt8.ofNat (Int.toNat (IntKind.wrap .u8 (97 + (IntKind.wrap .u8 (w64 (Int.tmod (IntKind.wrap .u64 v0) 26))))))] : List UInt8).length + ([43, 63] : List UInt8).length ≤ 4611686018427387904, ([UInt8.ofNat (Int.toNat (IntKind.wrap .u8 (97 + (IntKind.wrap .u8 (w64 (Int.tmod (IntKind.wrap .u64 v0) 26))))))] : List UInt8).length + ([123] : List UInt8).length ≤ 4611686018427387904, ([UInt8.ofNat (Int.toNat (IntKind.wrap .u8 (97 + (IntKind.wrap .u8 (w64 (Int.tmod (IntKind.wrap .u64 v0) 26))))))] : List UInt8).length + ([123, 125] : List UInt8).length ≤ 4611686018427387904, ([UInt8.ofNat (Int.toNat (IntKind.wrap .u8 (97 + (IntKind.wrap .u8 (w64 (Int.tmod (IntKind.wrap .u64 v0) 26))))))] : List UInt8).length + ([123, 44, 50, 125] : List UInt8).length ≤ 4611686018427387904, ([UInt8.ofNat (Int.toNat (IntKind.wrap .u8 (97 + (IntKind.wrap .u8 (w64 (Int.tmod (IntKind.wrap .u64 v0) 26))))))] : List UInt8).length + ([123, 49] : List UInt8).length ≤ 4611686018427387904, ([UInt8.ofNat (Int.toNat (IntKind.wrap .u8 (97 + (IntKind.wrap .u8 (w64 (Int.tmod (IntKind.wrap .u64 v0) 26))))))] : List UInt8).length + ([123, 49, 44, 50] : List UInt8).length ≤ 4611686018427387904, ([UInt8.ofNat (Int.toNat (IntKind.wrap .u8 (97 + (IntKind.wrap .u8 (w64 (Int.tmod (IntKind.wrap .u64 v0) 26))))))] : List UInt8).length + ([123, 49, 50, 51, 52, 125] : List UInt8).length ≤ 4611686018427387904, ([91] : List UInt8).length + ([UInt8.ofNat (Int.toNat (IntKind.wrap .u8 (97 + (IntKind.wrap .u8 (w64 (Int.tmod (IntKind.wrap .u64 v0) 26))))))] : List UInt8).length ≤ 4611686018427387904, (([91] : List UInt8) ++ ([UInt8.ofNat (Int.toNat (IntKind.wrap .u8 (97 + (IntKind.wrap .u8 (w64 (Int.tmod (IntKind.wrap .u64 v0) 26))))))] : List UInt8)).length + ([45, 93] : List UInt8).length ≤ 4611686018427387904, ([91, 45] : List UInt8).length + ([UInt8.ofNat (Int.toNat (IntKind.wrap .u8 (97 + (IntKind.wrap .u8 (w64 (Int.tmod (IntKind.wrap .u64 v0) 26))))))] : List UInt8).length ≤ 4611686018427387904, (([91, 45] : List UInt8) ++ ([UInt8.ofNat (Int.toNat (IntKind.wrap .u8 (97 + (IntKind.wrap .u8 (w64 (Int.tmod (IntKind.wrap .u64 v0) 26))))))] : List UInt8)).length + ([93] : List UInt8).length ≤ 4611686018427387904, ([94] : List UInt8).length + ([UInt8.ofNat (Int.toNat (IntKind.wrap .u8 (97 + (IntKind.wrap .u8 (w64 (Int.tmod (IntKind.wrap .u64 v0) 26))))))] : List UInt8).length ≤ 4611686018427387904, ([UInt8.ofNat (Int.toNat (IntKind.wrap .u8 (97 + (IntKind.wrap .u8 (w64 (Int.tmod (IntKind.wrap .u64 v0) 26))))))] : List UInt8).length + ([36] : List UInt8).length ≤ 4611686018427387904, ([UInt8.ofNat (Int.toNat (IntKind.wrap .u8 (97 + (IntKind.wrap .u8 (w64 (Int.tmod (IntKind.wrap .u64 v0) 26))))))] : List UInt8).length + ([125] : List UInt8).length ≤ 4611686018427387904]) (by kernel_rfl) (sound _ _) ⟨hc102, hc103, hc104, hc105, hc106, hc107, hc108, hc109, hc110, hc111, hc112, hc113, hc114, hc115, hc116, hc117, hc118, hc119, hc120, trivial⟩ ?_
  refine WA.seq ?_
  obtain ⟨hc121, hF⟩ := if_some hF
  obtain ⟨y122, hy122, hF⟩ := bind_some hF
  obtain ⟨y123, hy123, hF⟩ := bind_some hF
  refine WA.regM (α := Int) (raw := ((([(([40] : List UInt8) ++ ([UInt8.ofNat (Int.toNat (IntKind.wrap .u8 (97 + (IntKind.wrap .u8 (w64 (Int.tmod (IntKind.wrap .u64 v0) 26))))))] : List UInt8)), (([UInt8.ofNat (Int.toNat (IntKind.wrap .u8 (97 + (IntKind.wrap .u8 (w64 (Int.tmod (IntKind.wrap .u64 v0) 26))))))] : List UInt8) ++ ([41] : List UInt8)), (([91] : List UInt8) ++ ([UInt8.ofNat (Int.toNat (IntKind.wrap .u8 (97 + (IntKind.wrap .u8 (w64 (Int.tmod (IntKind.wrap .u64 v0) 26))))))] : List UInt8)), (([UInt8.ofNat (Int.toNat (IntKind.wrap .u8 (97 + (IntKind.wrap .u8 (w64 (Int.tmod (IntKind.wrap .u64 v0) 26))))))] : List UInt8) ++ ([93] : List UInt8)), (([42] : List UInt8) ++ ([UInt8.ofNat (Int.toNat (IntKind.wrap .u8 (97 + (IntKind.wrap .u8 (w64 (Int.tmod (IntKind.wrap .u64 v0) 26))))))] : List UInt8)), (([UInt8.ofNat (Int.toNat (IntKind.wrap .u8 (97 + (IntKind.wrap .u8 (w64 (Int.tmod (IntKind.wrap .u64 v0) 26))))))] : List UInt8) ++ ([43, 63] : List UInt8)), (([UInt8.ofNat (Int.toNat (IntKind.wrap .u8 (97 + (IntKind.wrap .u8 (w64 (Int.tmod (IntKind.wrap .u64 v0) 26))))))] : List UInt8) ++ ([123] : List UInt8)), (([UInt8.ofNat (Int.toNat (IntKind.wrap .u8 (97 + (IntKind.wrap .u8 (w64 (Int.tmod (IntKind.wrap .u64 v0) 26))))))] : List UInt8) ++ ([123, 125] : List UInt8)), (([UInt8.ofNat (Int.toNat (IntKind.wrap .u8 (97 + (IntKind.wrap .u8 (w64 (Int.tmod (IntKind.wrap .u64 v0) 26))))))] : List UInt8) ++ ([123, 44, 50, 125] : List UInt8)), (([UInt8.ofNat (Int.toNat (IntKind.wrap .u8 (97 + (IntKind.wrap .u8 (w64 (Int.tmod (IntKind.wrap .u64 v0) 26))))))] : List UInt8) ++ ([123, 49] : List UInt8)), (([UInt8.ofNat (Int.toNat (IntKind.wrap .u8 (97 + (IntKind.wrap .u8 (w64 (Int.tmod (IntKind.wrap .u64 v0) 26))))))] : List UInt8) ++ ([123, 49, 44, 50] : List UInt8)), (([UInt8.ofNat (Int.toNat (IntKind.wrap .u8 (97 + (IntKind.wrap .u8 (w64 (Int.tmod (IntKind.wrap .u64 v0) 26))))))] : List UInt8) ++ ([123, 49, 50, 51, 52, 125] : List UInt8)), ([91, 93] : List UInt8), ([91, 94, 93] : List UInt8), ((([91] : List UInt8) ++ ([UInt8.ofNat (Int.toNat (IntKind.wrap .u8 (97 + (IntKind.wrap .u8 (w64 (Int.tmod (IntKind.wrap .u64 v0) 26))))))] : List UInt8)) ++ ([45, 93] : List UInt8)), ((([91, 45] : List UInt8) ++ ([UInt8.ofNat (Int.toNat (IntKind.wrap .u8 (97 + (IntKind.wrap .u8 (w64 (Int.tmod (IntKind.wrap .u64 v0) 26))))))] : List UInt8)) ++ ([93] : List UInt8)), ([91, 122, 45, 97, 93] : List UInt8), ([92, 119] : List UInt8), ([92] : List UInt8), (([94] : List UInt8) ++ ([UInt8.ofNat (Int.toNat (IntKind.wrap .u8 (97 + (IntKind.wrap .u8 (w64 (Int.tmod (IntKind.wrap .u64 v0) 26))))))] : List UInt8)), (([UInt8.ofNat (Int.toNat (IntKind.wrap .u8 (97 + (IntKind.wrap .u8 (w64 (Int.tmod (IntKind.wrap .u64 v0) 26))))))] : List UInt8) ++ ([36] : List UInt8)), ([123, 50, 125] : List UInt8), ([124, 42] : List UInt8), (([UInt8.ofNat (Int.toNat (IntKind.wrap .u8 (97 + (IntKind.wrap .u8 (w64 (Int.tmod (IntKind.wrap .u64 v0) 26))))))] : List UInt8) ++ ([125] : List UInt8)), ([91, 97, 45, 92, 100, 93] : List UInt8)] : List (List UInt8)).map eStr).length : Int)) (can := (([(([40] : List UInt8) ++ ([UInt8.ofNat (Int.toNat (IntKind.wrap .u8 (97 + (IntKind.wrap .u8 (w64 (Int.tmod (IntKind.wrap .u64 v0) 26))))))] : List UInt8)), (([UInt8.ofNat (Int.toNat (IntKind.wrap .u8 (97 + (IntKind.wrap .u8 (w64 (Int.tmod (IntKind.wrap .u64 v0) 26))))))] : List UInt8) ++ ([41] : List UInt8)), (([91] : List UInt8) ++ ([UInt8.ofNat (Int.toNat (IntKind.wrap .u8 (97 + (IntKind.wrap .u8 (w64 (Int.tmod (IntKind.wrap .u64 v0) 26))))))] : List UInt8)), (([UInt8.ofNat (Int.toNat (IntKind.wrap .u8 (97 + (IntKind.wrap .u8 (w64 (Int.tmod (IntKind.wrap .u64 v0) 26))))))] : List UInt8) ++ ([93] : List UInt8)), (([42] : List UInt8) ++ ([UInt8.ofNat (Int.toNat (IntKind.wrap .u8 (97 + (IntKind.wrap .u8 (w64 (Int.tmod (IntKind.wrap .u64 v0) 26))))))] : List UInt8)), (([UInt8.ofNat (Int.toNat (IntKind.wrap .u8 (97 + (IntKind.wrap .u8 (w64 (Int.tmod (IntKind.wrap .u64 v0) 26))))))] : List UInt8) ++ ([43, 63] : List UInt8)), (([UInt8.ofNat (Int.toNat (IntKind.wrap .u8 (97 + (IntKind.wrap .u8 (w64 (Int.tmod (IntKind.wrap .u64 v0) 26))))))] : List UInt8) ++ ([123] : List UInt8)), (([UInt8.ofNat (Int.toNat (IntKind.wrap .u8 (97 + (IntKind.wrap .u8 (w64 (Int.tmod (IntKind.wrap .u64 v0) 26))))))] : List UInt8) ++ ([123, 125] : List UInt8)), (([UInt8.ofNat (Int.toNat (IntKind.wrap .u8 (97 + (IntKind.wrap .u8 (w64 (Int.tmod (IntKind.wrap .u64 v0) 26))))))] : List UInt8) ++ ([123, 44, 50, 125] : List UInt8)), (([UInt8.ofNat (Int.toNat (IntKind.wrap .u8 (97 + (IntKind.wrap .u8 (w64 (Int.tmod (IntKind.wrap .u64 v0) 26))))))] : List UInt8) ++ ([123, 49] : List UInt8)), (([UInt8.ofNat (Int.toNat (IntKind.wrap .u8 (97 + (IntKind.wrap .u8 (w64 (Int.tmod (IntKind.wrap .u64 v0) 26))))))] : List UInt8) ++ ([123, 49, 44, 50] : List UInt8)), (([UInt8.ofNat (Int.toNat (IntKind.wrap .u8 (97 + (IntKind.wrap .u8 (w64 (Int.tmod (IntKind.wrap .u64 v0) 26))))))] : List UInt8) ++ ([123, 49, 50, 51, 52, 125] : List UInt8)), ([91, 93] : List UInt8), ([91, 94, 93] : List UInt8), ((([91] : List UInt8) ++ ([UInt8.ofNat (Int.toNat (IntKind.wrap .u8 (97 + (IntKind.wrap .u8 (w64 (Int.tmod (IntKind.wrap .u64 v0) 26))))))] : List UInt8)) ++ ([45, 93] : List UInt8)), ((([91, 45] : List UInt8) ++ ([UInt8.ofNat (Int.toNat (IntKind.wrap .u8 (97 + (IntKind.wrap .u8 (w64 (Int.tmod (IntKind.wrap .u64 v0) 26))))))] : List UInt8)) ++ ([93] : List UInt8)), ([91, 122, 45, 97, 93] : List UInt8), ([92, 119] : List UInt8), ([92] : List UInt8), (([94] : List UInt8) ++ ([UInt8.ofNat (Int.toNat (IntKind.wrap .u8 (97 + (IntKind.wrap .u8 (w64 (Int.tmod (IntKind.wrap .u64 v0) 26))))))] : List UInt8)), (([UInt8.ofNat (Int.toNat (IntKind.wrap .u8 (97 + (IntKind.wrap .u8 (w64 (Int.tmod (IntKind.wrap .u64 v0) 26))))))] : List UInt8) ++ ([36] : List UInt8)), ([123, 50, 125] : List UInt8), ([124, 42] : List UInt8), (([UInt8.ofNat (Int.toNat (IntKind.wrap .u8 (97 + (IntKind.wrap .u8 (w64 (Int.tmod (IntKind.wrap .u64 v0) 26))))))] : List UInt8) ++ ([125] : List UInt8)), ([91, 97, 45, 92, 100, 93] : List UInt8)] : List (List UInt8)).length : Int)) (fun m_ => ([(5, one (.str ([UInt8.ofNat (Int.toNat (IntKind.wrap .u8 (97 + (IntKind.wrap .u8 (w64 (Int.tmod (IntKind.wrap .u64 v0) 26))))))] : List UInt8))), (7, .val false [.ptr 107 1 0 0]), (8, one (.int .i64 y123.2))], [(107, .box (pvL (e_api_Re y123.1)))], [((IntKind.wrap .u64 m_) : Int) ≠ 0, idxL (([(([40] : List UInt8) ++ ([UInt8.ofNat (Int.toNat (IntKind.wrap .u8 (97 + (IntKind.wrap .u8 (w64 (Int.tmod (IntKind.wrap .u64 v0) 26))))))] : List UInt8)), (([UInt8.ofNat (Int.toNat (IntKind.wrap .u8 (97 + (IntKind.wrap .u8 (w64 (Int.tmod (IntKind.wrap .u64 v0) 26))))))] : List UInt8) ++ ([41] : List UInt8)), (([91] : List UInt8) ++ ([UInt8.ofNat (Int.toNat (IntKind.wrap .u8 (97 + (IntKind.wrap .u8 (w64 (Int.tmod (IntKind.wrap .u64 v0) 26))))))] : List UInt8)), (([UInt8.ofNat (Int.toNat (IntKind.wrap .u8 (97 + (IntKind.wrap .u8 (w64 (Int.tmod (IntKind.wrap .u64 v0) 26))))))] : List UInt8) ++ ([93] : List UInt8)), (([42] : List UInt8) ++ ([UInt8.ofNat (Int.toNat (IntKind.wrap .u8 (97 + (IntKind.wrap .u8 (w64 (Int.tmod (IntKind.wrap .u64 v0) 26))))))] : List UInt8)), (([UInt8.ofNat (Int.toNat (IntKind.wrap .u8 (97 + (IntKind.wrap .u8 (w64 (Int.tmod (IntKind.wrap .u64 v0) 26))))))] : List UInt8) ++ ([43, 63] : List UInt8)), (([UInt8.ofNat (Int.toNat (IntKind.wrap .u8 (97 + (IntKind.wrap .u8 (w64 (Int.tmod (IntKind.wrap .u64 v0) 26))))))] : List UInt8) ++ ([123] : List UInt8)), (([UInt8.ofNat (Int.toNat (IntKind.wrap .u8 (97 + (IntKind.wrap .u8 (w64 (Int.tmod (IntKind.wrap .u64 v0) 26))))))] : List UInt8) ++ ([123, 125] : List UInt8)), (([UInt8.ofNat (Int.toNat (IntKind.wrap .u8 (97 + (IntKind.wrap .u8 (w64 (Int.tmod (IntKind.wrap .u64 v0) 26))))))] : List UInt8) ++ ([123, 44, 50, 125] : List UInt8)), (([UInt8.ofNat (Int.toNat (IntKind.wrap .u8 (97 + (IntKind.wrap .u8 (w64 (Int.tmod (IntKind.wrap .u64 v0) 26))))))] : List UInt8) ++ ([123, 49] : List UInt8)), (([UInt8.ofNat (Int.toNat (IntKind.wrap .u8 (97 + (IntKind.wrap .u8 (w64 (Int.tmod (IntKind.wrap .u64 v0) 26))))))] : List UInt8) ++ ([123, 49, 44, 50] : List UInt8)), (([UInt8.ofNat (Int.toNat (IntKind.wrap .u8 (97 + (IntKind.wrap .u8 (w64 (Int.tmod (IntKind.wrap .u64 v0) 26))))))] : List UInt8) ++ ([123, 49, 50, 51, 52, 125] : List UInt8)), ([91, 93] : List UInt8), ([91, 94, 93] : List UInt8), ((([91] : List UInt8) ++ ([UInt8.ofNat (Int.toNat (IntKind.wrap .u8 (97 + (IntKind.wrap .u8 (w64 (Int.tmod (IntKind.wrap .u64 v0) 26))))))] : List UInt8)) ++ ([45, 93] : List UInt8)), ((([91, 45] : List UInt8) ++ ([UInt8.ofNat (Int.toNat (IntKind.wrap .u8 (97 + (IntKind.wrap .u8 (w64 (Int.tmod (IntKind.wrap .u64 v0) 26))))))] : List UInt8)) ++ ([93] : List UInt8)), ([91, 122, 45, 97, 93] : List UInt8), ([92, 119] : List UInt8), ([92] : List UInt8), (([94] : List UInt8) ++ ([UInt8.ofNat (Int.toNat (IntKind.wrap .u8 (97 + (IntKind.wrap .u8 (w64 (Int.tmod (IntKind.wrap .u64 v0) 26))))))] : List UInt8)), (([UInt8.ofNat (Int.toNat (IntKind.wrap .u8 (97 + (IntKind.wrap .u8 (w64 (Int.tmod (IntKind.wrap .u64 v0) 26))))))] : List UInt8) ++ ([36] : List UInt8)), ([123, 50, 125] : List UInt8), ([124, 42] : List UInt8), (([UInt8.ofNat (Int.toNat (IntKind.wrap .u8 (97 + (IntKind.wrap .u8 (w64 (Int.tmod (IntKind.wrap .u64 v0) 26))))))] : List UInt8) ++ ([125] : List UInt8)), ([91, 97, 45, 92, 100, 93] : List UInt8)] : List (List UInt8)).map eStr) (w64 (Int.tmod (IntKind.wrap .u64 v1) (IntKind.wrap .u64 m_))) = some [.str y122], Sim Tryz.prog GL0 27 [one (.str y122)] [] (.tup [(true, pvL (e_api_Re y123.1)), (false, [.pv (.int .i64 y123.2)])]) [], ([] : List Nat).Nodup])) ((by first | (simp only [zlm, zla, zlc, zln, zls, zlr, zlt, zld, lens_api_Re]; done) | (simp only [zlm, zla, zlc, zln, zls, zlr, zlt, zld, lens_api_Re]; omega) | omega)) [5, 7, 8] [107] [(8, .cells [.str y122]), (10, .callR [] (.tup [(true, pvL (e_api_Re y123.1)), (false, [.pv (.int .i64 y123.2)])])), (14, .obj 107)] (env' := [(5, one (.str ([UInt8.ofNat (Int.toNat (IntKind.wrap .u8 (97 + (IntKind.wrap .u8 (w64 (Int.tmod (IntKind.wrap .u64 v0) 26))))))] : List UInt8))), (7, .val false [.ptr 107 1 0 0]), (8, one (.int .i64 y123.2))]) (os' := [(107, .box (pvL (e_api_Re y123.1)))]) (O := [((IntKind.wrap .u64 (([(([40] : List UInt8) ++ ([UInt8.ofNat (Int.toNat (IntKind.wrap .u8 (97 + (IntKind.wrap .u8 (w64 (Int.tmod (IntKind.wrap .u64 v0) 26))))))] : List UInt8)), (([UInt8.ofNat (Int.toNat (IntKind.wrap .u8 (97 + (IntKind.wrap .u8 (w64 (Int.tmod (IntKind.wrap .u64 v0) 26))))))] : List UInt8) ++ ([41] : List UInt8)), (([91] : List UInt8) ++ ([UInt8.ofNat (Int.toNat (IntKind.wrap .u8 (97 + (IntKind.wrap .u8 (w64 (Int.tmod (IntKind.wrap .u64 v0) 26))))))] : List UInt8)), (([UInt8.ofNat (Int.toNat (IntKind.wrap .u8 (97 + (IntKind.wrap .u8 (w64 (Int.tmod (IntKind.wrap .u64 v0) 26))))))] : List UInt8) ++ ([93] : List UInt8)), (([42] : List UInt8) ++ ([UInt8.ofNat (Int.toNat (IntKind.wrap .u8 (97 + (IntKind.wrap .u8 (w64 (Int.tmod (IntKind.wrap .u64 v0) 26))))))] : List UInt8)), (([UInt8.ofNat (Int.toNat (IntKind.wrap .u8 (97 + (IntKind.wrap .u8 (w64 (Int.tmod (IntKind.wrap .u64 v0) 26))))))] : List UInt8) ++ ([43, 63] : List UInt8)), (([UInt8.ofNat (Int.toNat (IntKind.wrap .u8 (97 + (IntKind.wrap .u8 (w64 (Int.tmod (IntKind.wrap .u64 v0) 26))))))] : List UInt8) ++ ([123] : List UInt8)), (([UInt8.ofNat (Int.toNat (IntKind.wrap .u8 (97 + (IntKind.wrap .u8 (w64 (Int.tmod (IntKind.wrap .u64 v0) 26))))))] : List UInt8) ++ ([123, 125] : List UInt8)), (([UInt8.ofNat (Int.toNat (IntKind.wrap .u8 (97 + (IntKind.wrap .u8 (w64 (Int.tmod (IntKind.wrap .u64 v0) 26))))))] : List UInt8) ++ ([123, 44, 50, 125] : List UInt8)), (([UInt8.ofNat (Int.toNat (IntKind.wrap .u8 (97 + (IntKind.wrap .u8 (w64 (Int.tmod (IntKind.wrap .u64 v0) 26))))))] : List UInt8) ++ ([123, 49] : List UInt8)), (([UInt8.ofNat (Int.toNat (IntKind.wrap .u8 (97 + (IntKind.wrap .u8 (w64 (Int.tmod (IntKind.wrap .u64 v0) 26))))))] : List UInt8) ++ ([123, 49, 44, 50] : List UInt8)), (([UInt8.ofNat (Int.toNat (IntKind.wrap .u8 (97 + (IntKind.wrap .u8 (w64 (Int.tmod (IntKind.wrap .u64 v0) 26))))))] : List UInt8) ++ ([123, 49, 50, 51, 52, 125] : List UInt8)), ([91, 93] : List UInt8), ([91, 94, 93] : List UInt8), ((([91] : List UInt8) ++ ([UInt8.ofNat (Int.toNat (IntKind.wrap .u8 (97 + (IntKind.wrap .u8 (w64 (Int.tmod (IntKind.wrap .u64 v0) 26))))))] : List UInt8)) ++ ([45, 93] : List UInt8)), ((([91, 45] : List UInt8) ++ ([UInt8.ofNat (Int.toNat (IntKind.wrap .u8 (97 + (IntKind.wrap .u8 (w64 (Int.tmod (IntKind.wrap .u64 v0) 26))))))] : List UInt8)) ++ ([93] : List UInt8)), ([91, 122, 45, 97, 93] : List UInt8), ([92, 119] : List UInt8), ([92] : List UInt8), (([94] : List UInt8) ++ ([UInt8.ofNat (Int.toNat (IntKind.wrap .u8 (97 + (IntKind.wrap .u8 (w64 (Int.tmod (IntKind.wrap .u64 v0) 26))))))] : List UInt8)), (([UInt8.ofNat (Int.toNat (IntKind.wrap .u8 (97 + (IntKind.wrap .u8 (w64 (Int.tmod (IntKind.wrap .u64 v0) 26))))))] : List UInt8) ++ ([36] : List UInt8)), ([123, 50, 125] : List UInt8), ([124, 42] : List UInt8), (([UInt8.ofNat (Int.toNat (IntKind.wrap .u8 (97 + (IntKind.wrap .u8 (w64 (Int.tmod (IntKind.wrap .u64 v0) 26))))))] : List UInt8) ++ ([125] : List UInt8)), ([91, 97, 45, 92, 100, 93] : List UInt8)] : List (List UInt8)).length : Int)) : Int) ≠ 0, idxL (([(([40] : List UInt8) ++ ([UInt8.ofNat (Int.toNat (IntKind.wrap .u8 (97 + (IntKind.wrap .u8 (w64 (Int.tmod (IntKind.wrap .u64 v0) 26))))))] : List UInt8)), (([UInt8.ofNat (Int.toNat (IntKind.wrap .u8 (97 + (IntKind.wrap .u8 (w64 (Int.tmod (IntKind.wrap .u64 v0) 26))))))] : List UInt8) ++ ([41] : List UInt8)), (([91] : List UInt8) ++ ([UInt8.ofNat (Int.toNat (IntKind.wrap .u8 (97 + (IntKind.wrap .u8 (w64 (Int.tmod (IntKind.wrap .u64 v0) 26))))))] : List UInt8)), (([UInt8.ofNat (Int.toNat (IntKind.wrap .u8 (97 + (IntKind.wrap .u8 (w64 (Int.tmod (IntKind.wrap .u64 v0) 26))))))] : List UInt8) ++ ([93] : List UInt8)), (([42] : List UInt8) ++ ([UInt8.ofNat (Int.toNat (IntKind.wrap .u8 (97 + (IntKind.wrap .u8 (w64 (Int.tmod (IntKind.wrap .u64 v0) 26))))))] : List UInt8)), (([UInt8.ofNat (Int.toNat (IntKind.wrap .u8 (97 + (IntKind.wrap .u8 (w64 (Int.tmod (IntKind.wrap .u64 v0) 26))))))] : List UInt8) ++ ([43, 63] : List UInt8)), (([UInt8.ofNat (Int.toNat (IntKind.wrap .u8 (97 + (IntKind.wrap .u8 (w64 (Int.tmod (IntKind.wrap .u64 v0) 26))))))] : List UInt8) ++ ([123] : List UInt8)), (([UInt8.ofNat (Int.toNat (IntKind.wrap .u8 (97 + (IntKind.wrap .u8 (w64 (Int.tmod (IntKind.wrap .u64 v0) 26))))))] : List UInt8) ++ ([123, 125] : List UInt8)), (([UInt8.ofNat (Int.toNat (IntKind.wrap .u8 (97 + (IntKind.wrap .u8 (w64 (Int.tmod (IntKind.wrap .u64 v0) 26))))))] : List UInt8) ++ ([123, 44, 50, 125] : List UInt8)), (([UInt8.ofNat (Int.toNat (IntKind.wrap .u8 (97 + (IntKind.wrap .u8 (w64 (Int.tmod (IntKind.wrap .u64 v0) 26))))))] : List UInt8) ++ ([123, 49] : List UInt8)), (([UInt8.ofNat (Int.toNat (IntKind.wrap .u8 (97 + (IntKind.wrap .u8 (w64 (Int.tmod (IntKind.wrap .u64 v0) 26))))))] : List UInt8) ++ ([123, 49, 44, 50] : List UInt8)), (([UInt8.ofNat (Int.toNat (IntKind.wrap .u8 (97 + (IntKind.wrap .u8 (w64 (Int.tmod (IntKind.wrap .u64 v0) 26))))))] : List UInt8) ++ ([123, 49, 50, 51, 52, 125] : List UInt8)), ([91, 93] : List UInt8), ([91, 94, 93] : List UInt8), ((([91] : List UInt8) ++ ([UInt8.ofNat (Int.toNat (IntKind.wrap .u8 (97 + (IntKind.wrap .u8 (w64 (Int.tmod (IntKind.wrap .u64 v0) 26))))))] : List UInt8)) ++ ([45, 93] : List UInt8)), ((([91, 45] : List UInt8) ++ ([UInt8.ofNat (Int.toNat (IntKind.wrap .u8 (97 + (IntKind.wrap .u8 (w64 (Int.tmod (IntKind.wrap .u64 v0) 26))))))] : List UInt8)) ++ ([93] : List UInt8)), ([91, 122, 45, 97, 93] : List UInt8), ([92, 119] : List UInt8), ([92] : List UInt8), (([94] : List UInt8) ++ ([UInt8.ofNat (Int.toNat (IntKind.wrap .u8 (97 + (IntKind.wrap .u8 (w64 (Int.tmod (IntKind.wrap .u64 v0) 26))))))] : List UInt8)), (([UInt8.ofNat (Int.toNat (IntKind.wrap .u8 (97 + (IntKind.wrap .u8 (w64 (Int.tmod (IntKind.wrap .u64 v0) 26))))))] : List UInt8) ++ ([36] : List UInt8)), ([123, 50, 125] : List UInt8), ([124, 42] : List UInt8), (([UInt8.ofNat (Int.toNat (IntKind.wrap .u8 (97 + (IntKind.wrap .u8 (w64 (Int.tmod (IntKind.wrap .u64 v0) 26))))))] : List UInt8) ++ ([125] : List UInt8)), ([91, 97, 45, 92, 100, 93] : List UInt8)] : List (List UInt8)).map eStr) (w64 (Int.tmod (IntKind.wrap .u64 v1) (IntKind.wrap .u64 (([(([40] : List UInt8) ++ ([UInt8.ofNat (Int.toNat (IntKind.wrap .u8 (97 + (IntKind.wrap .u8 (w64 (Int.tmod (IntKind.wrap .u64 v0) 26))))))] : List UInt8)), (([UInt8.ofNat (Int.toNat (IntKind.wrap .u8 (97 + (IntKind.wrap .u8 (w64 (Int.tmod (IntKind.wrap .u64 v0) 26))))))] : List UInt8) ++ ([41] : List UInt8)), (([91] : List UInt8) ++ ([UInt8.ofNat (Int.toNat (IntKind.wrap .u8 (97 + (IntKind.wrap .u8 (w64 (Int.tmod (IntKind.wrap .u64 v0) 26))))))] : List UInt8)), (([UInt8.ofNat (Int.toNat (IntKind.wrap .u8 (97 + (IntKind.wrap .u8 (w64 (Int.tmod (IntKind.wrap .u64 v0) 26))))))] : List UInt8) ++ ([93] : List UInt8)), (([42] : List UInt8) ++ ([UInt8.ofNat (Int.toNat (IntKind.wrap .u8 (97 + (IntKind.wrap .u8 (w64 (Int.tmod (IntKind.wrap .u64 v0) 26))))))] : List UInt8)), (([UInt8.ofNat (Int.toNat (IntKind.wrap .u8 (97 + (IntKind.wrap .u8 (w64 (Int.tmod (IntKind.wrap .u64 v0) 26))))))] : List UInt8) ++ ([43, 63] : List UInt8)), (([UInt8.ofNat (Int.toNat (IntKind.wrap .u8 (97 + (IntKind.wrap .u8 (w64 (Int.tmod (IntKind.wrap .u64 v0) 26))))))] : List UInt8) ++ ([123] : List UInt8)), (([UInt8.ofNat (Int.toNat (IntKind.wrap .u8 (97 + (IntKind.wrap .u8 (w64 (Int.tmod (IntKind.wrap .u64 v0) 26))))))] : List UInt8) ++ ([123, 125] : List UInt8)), (([UInt8.ofNat (Int.toNat (IntKind.wrap .u8 (97 + (IntKind.wrap .u8 (w64 (Int.tmod (IntKind.wrap .u64 v0) 26))))))] : List UInt8) ++ ([123, 44, 50, 125] : List UInt8)), (([UInt8.ofNat (Int.toNat (IntKind.wrap .u8 (97 + (IntKind.wrap .u8 (w64 (Int.tmod (IntKind.wrap .u64 v0) 26))))))] : List UInt8) ++ ([123, 49] : List UInt8)), (([UInt8.ofNat (Int.toNat (IntKind.wrap .u8 (97 + (IntKind.wrap .u8 (w64 (Int.tmod (IntKind.wrap .u64 v0) 26))))))] : List UInt8) ++ ([123, 49, 44, 50] : List UInt8)), (([UInt8.ofNat (Int.toNat (IntKind.wrap .u8 (97 + (IntKind.wrap .u8 (w64 (Int.tmod (IntKind.wrap .u64 v0) 26))))))] : List UInt8) ++ ([123, 49, 50, 51, 52, 125] : List UInt8)), ([91, 93] : List UInt8), ([91, 94, 93] : List UInt8), ((([91] : List UInt8) ++ ([UInt8.ofNat (Int.toNat (IntKind.wrap .u8 (97 + (IntKind.wrap .u8 (w64 (Int.tmod (IntKind.wrap .u64 v0) 26))))))] : List UInt8)) ++ ([45, 93] : List UInt8)), ((([91, 45] : List UInt8) ++ ([UInt8.ofNat (Int.toNat (IntKind.wrap .u8 (97 + (IntKind.wrap .u8 (w64 (Int.tmod (IntKind.wrap .u64 v0) 26))))))] : List UInt8)) ++ ([93] : List UInt8)), ([91, 122, 45, 97, 93] : List UInt8), ([92, 119] : List UInt8), ([92] : List UInt8), (([94] : List UInt8) ++ ([UInt8.ofNat (Int.toNat (IntKind.wrap .u8 (97 + (IntKind.wrap .u8 (w64 (Int.tmod (IntKind.wrap .u64 v0) 26))))))] : List UInt8)), (([UInt8.ofNat (Int.toNat (IntKind.wrap .u8 (97 + (IntKind.wrap .u8 (w64 (Int.tmod (IntKind.wrap .u64 v0) 26))))))] : List UInt8) ++ ([36] : List UInt8)), ([123, 50, 125] : List UInt8), ([124, 42] : List UInt8), (([UInt8.ofNat (Int.toNat (IntKind.wrap .u8 (97 + (IntKind.wrap .u8 (w64 (Int.tmod (IntKind.wrap .u64 v0) 26))))))] : List UInt8) ++ ([125] : List UInt8)), ([91, 97, 45, 92, 100, 93] : List UInt8)] : List (List UInt8)).length : Int)))) = some [.str y122], Sim Tryz.prog GL0 27 [one (.str y122)] [] (.tup [(true, pvL (e_api_Re y123.1)), (false, [.pv (.int .i64 y123.2)])]) [], ([] : List Nat).Nodup]) (by kernel_rfl) (by kernel_rfl) (sound _ _) ⟨hc121, (idx_map _ hy122), (F27_ok k _ _ hy123), (by decide), trivial⟩ ?_
  refine WA.seq ?_
  obtain ⟨y124, hy124, hF⟩ := bind_some hF
  refine WA.reg [5, 7, 8, 9, 10] [107, 109] [(1, .callR [] (.tup [(true, pvL (e_api_Re y124.1)), (false, [.pv (.int .i64 y124.2)])])), (5, .obj 109)] (env' := [(5, one (.str ([UInt8.ofNat (Int.toNat (IntKind.wrap .u8 (97 + (IntKind.wrap .u8 (w64 (Int.tmod (IntKind.wrap .u64 v0) 26))))))] : List UInt8))), (7, .val false [.ptr 107 1 0 0]), (8, one (.int .i64 y123.2)), (9, .val false [.ptr 109 1 0 0]), (10, one (.int .i64 y124.2))]) (os' := [(107, .box (pvL (e_api_Re y123.1))), (109, .box (pvL (e_api_Re y124.1)))]) (O := [Sim Tryz.prog GL0 27 [one (.str ([UInt8.ofNat (Int.toNat (IntKind.wrap .u8 (97 + (IntKind.wrap .u8 (w64 (Int.tmod (IntKind.wrap .u64 v0) 26))))))] : List UInt8))] [] (.tup [(true, pvL (e_api_Re y124.1)), (false, [.pv (.int .i64 y124.2)])]) [], ([] : List Nat).Nodup]) (by kernel_rfl) (sound _ _) ⟨(F27_ok k _ _ hy124), (by decide), trivial⟩ ?_
  refine WA.join (fun s_ => ∃ (v132 : Bool), pickE s_.env [4] = [(4, one (.bool v132))] ∧ pickE s_.os [] = [] ∧ F13_j0 v132 = some r) ?_ ?_
  · rintro s_ ⟨v132, he, ho, hF⟩
    refine WA.keep _ _ he ho ?_
    clear he ho
    refine WA.ret ?_
    obtain rfl := Option.some.inj hF
    exact out_ret (one (.bool v132)) [] (by kernel_rfl) (by kernel_rfl) (by kernel_rfl) (by kernel_rfl) (by decide) rfl rfl
  · obtain ⟨y125, hy125, hF⟩ := bind_some hF
    rcases Bool.eq_false_or_eq_true y125 with hb126 | hb126
    · have hF := cond_t hF hb126
      rcases Bool.eq_false_or_eq_true (y123.2 == 3) with hb127 | hb127
      · have hF := cond_t hF hb127
        obtain ⟨y128, hy128, hF⟩ := bind_some hF
        rcases Bool.eq_false_or_eq_true y128 with hb129 | hb129
        · have hF := cond_t hF hb129
          rcases Bool.eq_false_or_eq_true (y124.2 == 0) with hb130 | hb130
          · have hF := cond_t hF hb130
            obtain ⟨y131, hy131, hF⟩ := bind_some hF
            refine WA.reg [4] [] [(0, .callR [] (one (.bool y125))), (1, .bool true), (5, .bool true), (8, .callR [] (one (.bool y128))), (10, .bool true), (14, .bool true), (17, .callR [] (one (.bool y131)))] (env' := [(4, one (.bool y131))]) (os' := []) (O := [Sim Tryz.prog GL0 26 [] [] (one (.bool y125)) [], ([] : List Nat).Nodup, y125 = true, (y123.2 == 3) = true, Sim Tryz.prog GL0 29 [.val true (pvL (e_api_Re y123.1)), .val true (pvL (e_api_Re (⟨0, ([] : List api_Range), ([] : List api_Re), 0, 0⟩ : api_Re)))] [] (one (.bool y128)) [], ([] : List Nat).Nodup, y128 = true, (y124.2 == 0) = true, Sim Tryz.prog GL0 31 [.val true (pvL (e_api_Re y124.1)), one (.str ([UInt8.ofNat (Int.toNat (IntKind.wrap .u8 (97 + (IntKind.wrap .u8 (w64 (Int.tmod (IntKind.wrap .u64 v0) 26))))))] : List UInt8))] [] (one (.bool y131)) [], ([] : List Nat).Nodup]) (by kernel_rfl) (sound _ _) ⟨(F26_ok k _ hy125), (by decide), hb126, hb127, (F29_ok k _ _ _ hy128), (by decide), hb129, hb130, (F31_ok k _ _ _ hy131), (by decide), trivial⟩ ?_
            exact ⟨y131, by kernel_rfl, by kernel_rfl, hF⟩
          · have hF := cond_f hF hb130
            refine WA.reg [4] [] [(0, .callR [] (one (.bool y125))), (1, .bool true), (5, .bool true), (8, .callR [] (one (.bool y128))), (10, .bool true), (14, .bool false)] (env' := [(4, one (.bool false))]) (os' := []) (O := [Sim Tryz.prog GL0 26 [] [] (one (.bool y125)) [], ([] : List Nat).Nodup, y125 = true, (y123.2 == 3) = true, Sim Tryz.prog GL0 29 [.val true (pvL (e_api_Re y123.1)), .val true (pvL (e_api_Re (⟨0, ([] : List api_Range), ([] : List api_Re), 0, 0⟩ : api_Re)))] [] (one (.bool y128)) [], ([] : List Nat).Nodup, y128 = true, (y124.2 == 0) = false]) (by kernel_rfl) (sound _ _) ⟨(F26_ok k _ hy125), (by decide), hb126, hb127, (F29_ok k _ _ _ hy128), (by decide), hb129, hb130, trivial⟩ ?_
            exact ⟨false, by kernel_rfl, by kernel_rfl, hF⟩
        · have hF := cond_f hF hb129
          refine WA.reg [4] [] [(0, .callR [] (one (.bool y125))), (1, .bool true), (5, .bool true), (8, .callR [] (one (.bool y128))), (10, .bool false)] (env' := [(4, one (.bool false))]) (os' := []) (O := [Sim Tryz.prog GL0 26 [] [] (one (.bool y125)) [], ([] : List Nat).Nodup, y125 = true, (y123.2 == 3) = true, Sim Tryz.prog GL0 29 [.val true (pvL (e_api_Re y123.1)), .val true (pvL (e_api_Re (⟨0, ([] : List api_Range), ([] : List api_Re), 0, 0⟩ : api_Re)))] [] (one (.bool y128)) [], ([] : List Nat).Nodup, y128 = false]) (by kernel_rfl) (sound _ _) ⟨(F26_ok k _ hy125), (by decide), hb126, hb127, (F29_ok k _ _ _ hy128), (by decide), hb129, trivial⟩ ?_
          exact ⟨false, by kernel_rfl, by kernel_rfl, hF⟩
      · have hF := cond_f hF hb127
        refine WA.reg [4] [] [(0, .callR [] (one (.bool y125))), (1, .bool true), (5, .bool false)] (env' := [(4, one (.bool false))]) (os' := []) (O := [Sim Tryz.prog GL0 26 [] [] (one (.bool y125)) [], ([] : List Nat).Nodup, y125 = true, (y123.2 == 3) = false]) (by kernel_rfl) (sound _ _) ⟨(F26_ok k _ hy125), (by decide), hb126, hb127, trivial⟩ ?_
        exact ⟨false, by kernel_rfl, by kernel_rfl, hF⟩
    · have hF := cond_f hF hb126
      refine WA.reg [4] [] [(0, .callR [] (one (.bool y125))), (1, .bool false)] (env' := [(4, one (.bool false))]) (os' := []) (O := [Sim Tryz.prog GL0 26 [] [] (one (.bool y125)) [], ([] : List Nat).Nodup, y125 = false]) (by kernel_rfl) (sound _ _) ⟨(F26_ok k _ hy125), (by decide), hb126, trivial⟩ ?_
      exact ⟨false, by kernel_rfl, by kernel_rfl, hF⟩
/-! entrepot entrepotlaw10.RexTimes -/
def F12_j1 (v123 : Bool) : Option Bool :=
  some v123
def F12_j4 (v157 : Bool) : Option Bool :=
  some v157
def F12_b3 (k : Nat) (self3 : (List UInt8) → Int → Option Bool) (v0 : Int) (v1 : Int) (v2 : Int) (v106 : List UInt8) (y125 : api_Re × Int) (v132 : List UInt8) (v133 : Int) : Option Bool :=
  (cond (decide (v133 < (w64 (Int.tmod (IntKind.wrap .u64 v2) 51)))) ((if v132.length + v106.length ≤ 4611686018427387904 then (self3 (v132 ++ v106) (w64 (v133 + 1))) else none)) ((F26 k).bind fun y136 => cond y136 (cond (y125.2 == 0) ((F31 k y125.1 v132).bind fun y139 => cond (decide ((w64 (Int.tmod (IntKind.wrap .u64 v2) 51)) ≥ (w64 (Int.tmod (IntKind.wrap .u64 v0) 21)))) (cond ((w64 (Int.tmod (IntKind.wrap .u64 v1) 22)) == 21) (cond (y139 == true) (if v132.length + ([98] : List UInt8).length ≤ 4611686018427387904 then if (v132 ++ ([98] : List UInt8)).length + v132.length ≤ 4611686018427387904 then if ((v132 ++ ([98] : List UInt8)) ++ v132).length + ([99] : List UInt8).length ≤ 4611686018427387904 then (F31 k y125.1 (((v132 ++ ([98] : List UInt8)) ++ v132) ++ ([99] : List UInt8))).bind fun y146 => (F12_j4 (!y146)) else none else none else none) ((F12_j4 false))) (cond (y139 == (decide ((w64 (Int.tmod (IntKind.wrap .u64 v2) 51)) ≤ (w64 (Int.tmod (IntKind.wrap .u64 v1) 22))))) (if v132.length + ([98] : List UInt8).length ≤ 4611686018427387904 then if (v132 ++ ([98] : List UInt8)).length + v132.length ≤ 4611686018427387904 then if ((v132 ++ ([98] : List UInt8)) ++ v132).length + ([99] : List UInt8).length ≤ 4611686018427387904 then (F31 k y125.1 (((v132 ++ ([98] : List UInt8)) ++ v132) ++ ([99] : List UInt8))).bind fun y151 => (F12_j4 (!y151)) else none else none else none) ((F12_j4 false)))) (cond (y139 == false) (if v132.length + ([98] : List UInt8).length ≤ 4611686018427387904 then if (v132 ++ ([98] : List UInt8)).length + v132.length ≤ 4611686018427387904 then if ((v132 ++ ([98] : List UInt8)) ++ v132).length + ([99] : List UInt8).length ≤ 4611686018427387904 then (F31 k y125.1 (((v132 ++ ([98] : List UInt8)) ++ v132) ++ ([99] : List UInt8))).bind fun y156 => (F12_j4 (!y156)) else none else none else none) ((F12_j4 false)))) ((F12_j4 false))) ((F12_j4 false))))
def F12_l3 (k : Nat) (v0 : Int) (v1 : Int) (v2 : Int) (v106 : List UInt8) (y125 : api_Re × Int) : Nat → (List UInt8) → Int → Option Bool
  | 0, _, _ => none
  | m_ + 1, v132, v133 => F12_b3 k (F12_l3 k v0 v1 v2 v106 y125 m_) v0 v1 v2 v106 y125 v132 v133
def F12_j2 (k : Nat) (v0 : Int) (v1 : Int) (v2 : Int) (v106 : List UInt8) (v124 : List UInt8) : Option Bool :=
  (F27 k v124).bind fun y125 => (((F12_l3 k v0 v1 v2 v106 y125 k ([] : List UInt8) 0)))
def F12_j0 (k : Nat) (v0 : Int) (v1 : Int) (v2 : Int) (v105 : List UInt8) (v106 : List UInt8) : Option Bool :=
  if v105.length + ([123] : List UInt8).length ≤ 4611686018427387904 then (F35 k (w64 (Int.tmod (IntKind.wrap .u64 v0) 21))).bind fun y108 => if (v105 ++ ([123] : List UInt8)).length + y108.length ≤ 4611686018427387904 then if ((v105 ++ ([123] : List UInt8)) ++ y108).length + ([44] : List UInt8).length ≤ 4611686018427387904 then (F35 k (w64 (Int.tmod (IntKind.wrap .u64 v1) 22))).bind fun y111 => if (((v105 ++ ([123] : List UInt8)) ++ y108) ++ ([44] : List UInt8)).length + y111.length ≤ 4611686018427387904 then if ((((v105 ++ ([123] : List UInt8)) ++ y108) ++ ([44] : List UInt8)) ++ y111).length + ([125] : List UInt8).length ≤ 4611686018427387904 then ((cond ((w64 (Int.tmod (IntKind.wrap .u64 v1) 22)) == 21) (if v105.length + ([123] : List UInt8).length ≤ 4611686018427387904 then (F35 k (w64 (Int.tmod (IntKind.wrap .u64 v0) 21))).bind fun y116 => if (v105 ++ ([123] : List UInt8)).length + y116.length ≤ 4611686018427387904 then if ((v105 ++ ([123] : List UInt8)) ++ y116).length + ([44, 125] : List UInt8).length ≤ 4611686018427387904 then (F12_j2 k v0 v1 v2 v106 (((v105 ++ ([123] : List UInt8)) ++ y116) ++ ([44, 125] : List UInt8))) else none else none else none) ((cond (decide ((w64 (Int.tmod (IntKind.wrap .u64 v1) 22)) < (w64 (Int.tmod (IntKind.wrap .u64 v0) 21)))) ((F27 k (((((v105 ++ ([123] : List UInt8)) ++ y108) ++ ([44] : List UInt8)) ++ y111) ++ ([125] : List UInt8))).bind fun y120 => (F26 k).bind fun y121 => cond y121 ((F12_j1 (y120.2 == 8))) ((F12_j1 false))) ((F12_j2 k v0 v1 v2 v106 (((((v105 ++ ([123] : List UInt8)) ++ y108) ++ ([44] : List UInt8)) ++ y111) ++ ([125] : List UInt8)))))))) else none else none else none else none else none
def F12 (k : Nat) (v0 : Int) (v1 : Int) (v2 : Int) (v3 : Bool) : Option Bool :=
  (if (21 : Int) ≠ 0 then if (22 : Int) ≠ 0 then if (51 : Int) ≠ 0 then (((cond v3 ((F12_j0 k v0 v1 v2 ([40, 97, 98, 41] : List UInt8) ([97, 98] : List UInt8))) ((F12_j0 k v0 v1 v2 ([97] : List UInt8) ([97] : List UInt8)))))) else none else none else none)
theorem F12_ok (k : Nat) (v0 : Int) (v1 : Int) (v2 : Int) (v3 : Bool) (r : Bool) (hF : F12 k v0 v1 v2 v3 = some r) : Sim Tryz.prog GL0 12 [one (.int .i64 v0), one (.int .i64 v1), one (.int .i64 v2), one (.bool v3)] [] (one (.bool r)) [] := by
  refine sim_of [] Tryz.func12 rfl (by kernel_rfl) (by kernel_rfl) ?_
  show WA _ _ 113 _ _ _
  refine WA.seq ?_
  refine WA.reg [0, 1, 2, 3] [] [] (env' := [(0, one (.int .i64 v0)), (1, one (.int .i64 v1)), (2, one (.int .i64 v2)), (3, one (.bool v3))]) (os' := []) (O := []) (by kernel_rfl) (sound _ _) trivial ?_
  refine WA.seq ?_
  obtain ⟨hc101, hF⟩ := if_some hF
  obtain ⟨hc102, hF⟩ := if_some hF
  obtain ⟨hc103, hF⟩ := if_some hF
  refine WA.reg [3, 9, 10, 11] [] [] (env' := [(3, one (.bool v3)), (9, one (.int .i64 (w64 (Int.tmod (IntKind.wrap .u64 v0) 21)))), (10, one (.int .i64 (w64 (Int.tmod (IntKind.wrap .u64 v1) 22)))), (11, one (.int .i64 (w64 (Int.tmod (IntKind.wrap .u64 v2) 51))))]) (os' := []) (O := [(21 : Int) ≠ 0, (22 : Int) ≠ 0, (51 : Int) ≠ 0]) (by kernel_rfl) (sound _ _) ⟨hc101, hc102, hc103, trivial⟩ ?_
  refine WA.seq ?_
  refine WA.reg [3, 9, 10, 11, 12, 13] [] [] (env' := [(3, one (.bool v3)), (9, one (.int .i64 (w64 (Int.tmod (IntKind.wrap .u64 v0) 21)))), (10, one (.int .i64 (w64 (Int.tmod (IntKind.wrap .u64 v1) 22)))), (11, one (.int .i64 (w64 (Int.tmod (IntKind.wrap .u64 v2) 51)))), (12, one (.str ([97] : List UInt8))), (13, one (.str ([97] : List UInt8)))]) (os' := []) (O := []) (by kernel_rfl) (sound _ _) trivial ?_
  refine WA.join (fun s_ => ∃ (v105 : List UInt8) (v106 : List UInt8), pickE s_.env [9, 10, 11, 12, 13] = [(9, one (.int .i64 (w64 (Int.tmod (IntKind.wrap .u64 v0) 21)))), (10, one (.int .i64 (w64 (Int.tmod (IntKind.wrap .u64 v1) 22)))), (11, one (.int .i64 (w64 (Int.tmod (IntKind.wrap .u64 v2) 51)))), (12, one (.str v105)), (13, one (.str v106))] ∧ pickE s_.os [] = [] ∧ F12_j0 k v0 v1 v2 v105 v106 = some r) ?_ ?_
  · rintro s_ ⟨v105, v106, he, ho, hF⟩
    refine WA.keep _ _ he ho ?_
    clear he ho
    refine WA.seq ?_
    obtain ⟨hc107, hF⟩ := if_some hF
    obtain ⟨y108, hy108, hF⟩ := bind_some hF
    obtain ⟨hc109, hF⟩ := if_some hF
    obtain ⟨hc110, hF⟩ := if_some hF
    obtain ⟨y111, hy111, hF⟩ := bind_some hF
    obtain ⟨hc112, hF⟩ := if_some hF
    obtain ⟨hc113, hF⟩ := if_some hF
    refine WA.reg [9, 10, 11, 12, 13, 14] [] [(3, .callR [] (one (.str y108))), (7, .callR [] (one (.str y111)))] (env' := [(9, one (.int .i64 (w64 (Int.tmod (IntKind.wrap .u64 v0) 21)))), (10, one (.int .i64 (w64 (Int.tmod (IntKind.wrap .u64 v1) 22)))), (11, one (.int .i64 (w64 (Int.tmod (IntKind.wrap .u64 v2) 51)))), (12, one (.str v105)), (13, one (.str v106)), (14, one (.str (((((v105 ++ ([123] : List UInt8)) ++ y108) ++ ([44] : List UInt8)) ++ y111) ++ ([125] : List UInt8))))]) (os' := []) (O := [v105.length + ([123] : List UInt8).length ≤ 4611686018427387904, Sim Tryz.prog GL0 35 [one (.int .i64 (w64 (Int.tmod (IntKind.wrap .u64 v0) 21)))] [] (one (.str y108)) [], ([] : List Nat).Nodup, (v105 ++ ([123] : List UInt8)).length + y108.length ≤ 4611686018427387904, ((v105 ++ ([123] : List UInt8)) ++ y108).length + ([44] : List UInt8).length ≤ 4611686018427387904, Sim Tryz.prog GL0 35 [one (.int .i64 (w64 (Int.tmod (IntKind.wrap .u64 v1) 22)))] [] (one (.str y111)) [], ([] : List Nat).Nodup, (((v105 ++ ([123] : List UInt8)) ++ y108) ++ ([44] : List UInt8)).length + y111.length ≤ 4611686018427387904, ((((v105 ++ ([123] : List UInt8)) ++ y108) ++ ([44] : List UInt8)) ++ y111).length + ([125] : List UInt8).length ≤ 4611686018427387904]) (by kernel_rfl) (sound _ _) ⟨hc107, (F35_ok k _ _ hy108), (by decide), hc109, hc110, (F35_ok k _ _ hy111), (by decide), hc112, hc113, trivial⟩ ?_
    refine WA.join (fun s_ => ∃ (v124 : List UInt8), pickE s_.env [9, 10, 11, 13, 14] = [(9, one (.int .i64 (w64 (Int.tmod (IntKind.wrap .u64 v0) 21)))), (10, one (.int .i64 (w64 (Int.tmod (IntKind.wrap .u64 v1) 22)))), (11, one (.int .i64 (w64 (Int.tmod (IntKind.wrap .u64 v2) 51)))), (13, one (.str v106)), (14, one (.str v124))] ∧ pickE s_.os [] = [] ∧ F12_j2 k v0 v1 v2 v106 v124 = some r) ?_ ?_
    · rintro s_ ⟨v124, he, ho, hF⟩
      refine WA.keep _ _ he ho ?_
      clear he ho
      refine WA.seq ?_
      obtain ⟨y125, hy125, hF⟩ := bind_some hF
      refine WA.reg [9, 10, 11, 13, 17, 18] [117] [(1, .callR [] (.tup [(true, pvL (e_api_Re y125.1)), (false, [.pv (.int .i64 y125.2)])])), (5, .obj 117)] (env' := [(9, one (.int .i64 (w64 (Int.tmod (IntKind.wrap .u64 v0) 21)))), (10, one (.int .i64 (w64 (Int.tmod (IntKind.wrap .u64 v1) 22)))), (11, one (.int .i64 (w64 (Int.tmod (IntKind.wrap .u64 v2) 51)))), (13, one (.str v106)), (17, .val false [.ptr 117 1 0 0]), (18, one (.int .i64 y125.2))]) (os' := [(117, .box (pvL (e_api_Re y125.1)))]) (O := [Sim Tryz.prog GL0 27 [one (.str v124)] [] (.tup [(true, pvL (e_api_Re y125.1)), (false, [.pv (.int .i64 y125.2)])]) [], ([] : List Nat).Nodup]) (by kernel_rfl) (sound _ _) ⟨(F27_ok k _ _ hy125), (by decide), trivial⟩ ?_
      refine WA.seq ?_
      refine WA.reg [9, 10, 11, 13, 17, 18, 19] [117] [] (env' := [(9, one (.int .i64 (w64 (Int.tmod (IntKind.wrap .u64 v0) 21)))), (10, one (.int .i64 (w64 (Int.tmod (IntKind.wrap .u64 v1) 22)))), (11, one (.int .i64 (w64 (Int.tmod (IntKind.wrap .u64 v2) 51)))), (13, one (.str v106)), (17, .val false [.ptr 117 1 0 0]), (18, one (.int .i64 y125.2)), (19, one (.str ([] : List UInt8)))]) (os' := [(117, .box (pvL (e_api_Re y125.1)))]) (O := []) (by kernel_rfl) (sound _ _) trivial ?_
      refine WA.seq ?_
      refine WA.seq ?_
      refine WA.reg [9, 10, 11, 13, 17, 18, 19, 20] [117] [] (env' := [(9, one (.int .i64 (w64 (Int.tmod (IntKind.wrap .u64 v0) 21)))), (10, one (.int .i64 (w64 (Int.tmod (IntKind.wrap .u64 v1) 22)))), (11, one (.int .i64 (w64 (Int.tmod (IntKind.wrap .u64 v2) 51)))), (13, one (.str v106)), (17, .val false [.ptr 117 1 0 0]), (18, one (.int .i64 y125.2)), (19, one (.str ([] : List UInt8))), (20, one (.int .i64 0))]) (os' := [(117, .box (pvL (e_api_Re y125.1)))]) (O := []) (by kernel_rfl) (sound _ _) trivial ?_
      refine WA.block ?_
      refine WA.loop (fun m s_ => ∃ (v132 : List UInt8) (v133 : Int), pickE s_.env [9, 10, 11, 13, 17, 18, 19, 20] = [(9, one (.int .i64 (w64 (Int.tmod (IntKind.wrap .u64 v0) 21)))), (10, one (.int .i64 (w64 (Int.tmod (IntKind.wrap .u64 v1) 22)))), (11, one (.int .i64 (w64 (Int.tmod (IntKind.wrap .u64 v2) 51)))), (13, one (.str v106)), (17, .val false [.ptr 117 1 0 0]), (18, one (.int .i64 y125.2)), (19, one (.str v132)), (20, one (.int .i64 v133))] ∧ pickE s_.os [117] = [(117, .box (pvL (e_api_Re y125.1)))] ∧ F12_l3 k v0 v1 v2 v106 y125 m v132 v133 = some r) k ⟨([] : List UInt8), 0, by kernel_rfl, by kernel_rfl, hF⟩ ?_
      clear hF
      rintro m3 s_ ⟨v132, v133, he, ho, hF⟩
      refine WA.keep _ _ he ho ?_
      clear he ho
      cases m3 with
      | zero => cases hF
      | succ m3 =>
        obtain ⟨self3, hself3⟩ : ∃ g, g = F12_l3 k v0 v1 v2 v106 y125 m3 := ⟨_, rfl⟩
        have hF : F12_b3 k self3 v0 v1 v2 v106 y125 v132 v133 = some r := by first | (rw [hself3]; exact hF) | exact hF
        refine WA.seq ?_
        refine WA.seq ?_
        refine WA.reg [9, 10, 11, 13, 17, 18, 19, 20, 74] [117] [] (env' := [(9, one (.int .i64 (w64 (Int.tmod (IntKind.wrap .u64 v0) 21)))), (10, one (.int .i64 (w64 (Int.tmod (IntKind.wrap .u64 v1) 22)))), (11, one (.int .i64 (w64 (Int.tmod (IntKind.wrap .u64 v2) 51)))), (13, one (.str v106)), (17, .val false [.ptr 117 1 0 0]), (18, one (.int .i64 y125.2)), (19, one (.str v132)), (20, one (.int .i64 v133)), (74, one (.bool (decide (v133 < (w64 (Int.tmod (IntKind.wrap .u64 v2) 51))))))]) (os' := [(117, .box (pvL (e_api_Re y125.1)))]) (O := []) (by kernel_rfl) (sound _ _) trivial ?_
        refine WA.cond (b := (decide (v133 < (w64 (Int.tmod (IntKind.wrap .u64 v2) 51))))) rfl (fun hb134 => ?_) (fun hb134 => ?_)
        · have hF := cond_t hF hb134
          refine WA.skip ?_
          refine WA.seq ?_
          refine WA.block ?_
          obtain ⟨hc135, hF⟩ := if_some hF
          refine WA.reg [9, 10, 11, 13, 17, 18, 19, 20] [117] [] (env' := [(9, one (.int .i64 (w64 (Int.tmod (IntKind.wrap .u64 v0) 21)))), (10, one (.int .i64 (w64 (Int.tmod (IntKind.wrap .u64 v1) 22)))), (11, one (.int .i64 (w64 (Int.tmod (IntKind.wrap .u64 v2) 51)))), (13, one (.str v106)), (17, .val false [.ptr 117 1 0 0]), (18, one (.int .i64 y125.2)), (19, one (.str (v132 ++ v106))), (20, one (.int .i64 v133))]) (os' := [(117, .box (pvL (e_api_Re y125.1)))]) (O := [v132.length + v106.length ≤ 4611686018427387904]) (by kernel_rfl) (sound _ _) ⟨hc135, trivial⟩ ?_
          refine WA.reg [9, 10, 11, 13, 17, 18, 19, 20] [117] [] (env' := [(9, one (.int .i64 (w64 (Int.tmod (IntKind.wrap .u64 v0) 21)))), (10, one (.int .i64 (w64 (Int.tmod (IntKind.wrap .u64 v1) 22)))), (11, one (.int .i64 (w64 (Int.tmod (IntKind.wrap .u64 v2) 51)))), (13, one (.str v106)), (17, .val false [.ptr 117 1 0 0]), (18, one (.int .i64 y125.2)), (19, one (.str (v132 ++ v106))), (20, one (.int .i64 (w64 (v133 + 1))))]) (os' := [(117, .box (pvL (e_api_Re y125.1)))]) (O := []) (by kernel_rfl) (sound _ _) trivial ?_
          exact ⟨m3, Nat.lt_succ_self _, (v132 ++ v106), (w64 (v133 + 1)), by kernel_rfl, by kernel_rfl, by rw [hself3] at hF; exact hF⟩
        · have hF := cond_f hF hb134
          refine WA.exit ?_
          refine WA.join (fun s_ => ∃ (v157 : Bool), pickE s_.env [8] = [(8, one (.bool v157))] ∧ pickE s_.os [] = [] ∧ F12_j4 v157 = some r) ?_ ?_
          · rintro s_ ⟨v157, he, ho, hF⟩
            refine WA.keep _ _ he ho ?_
            clear he ho
            refine WA.ret ?_
            obtain rfl := Option.some.inj hF
            exact out_ret (one (.bool v157)) [] (by kernel_rfl) (by kernel_rfl) (by kernel_rfl) (by kernel_rfl) (by decide) rfl rfl
          · obtain ⟨y136, hy136, hF⟩ := bind_some hF
            rcases Bool.eq_false_or_eq_true y136 with hb137 | hb137
            · have hF := cond_t hF hb137
              rcases Bool.eq_false_or_eq_true (y125.2 == 0) with hb138 | hb138
              · have hF := cond_t hF hb138
                obtain ⟨y139, hy139, hF⟩ := bind_some hF
                rcases Bool.eq_false_or_eq_true (decide ((w64 (Int.tmod (IntKind.wrap .u64 v2) 51)) ≥ (w64 (Int.tmod (IntKind.wrap .u64 v0) 21)))) with hb140 | hb140
                · have hF := cond_t hF hb140
                  rcases Bool.eq_false_or_eq_true ((w64 (Int.tmod (IntKind.wrap .u64 v1) 22)) == 21) with hb141 | hb141
                  · have hF := cond_t hF hb141
                    rcases Bool.eq_false_or_eq_true (y139 == true) with hb142 | hb142
                    · have hF := cond_t hF hb142
                      obtain ⟨hc143, hF⟩ := if_some hF
                      obtain ⟨hc144, hF⟩ := if_some hF
                      obtain ⟨hc145, hF⟩ := if_some hF
                      obtain ⟨y146, hy146, hF⟩ := bind_some hF
                      refine WA.reg [8] [] [(0, .callR [] (one (.bool y136))), (1, .bool true), (5, .bool true), (8, .callR [] (one (.bool y139))), (12, .bool true), (15, .bool true), (23, .bool true), (30, .callR [] (one (.bool y146)))] (env' := [(8, one (.bool (!y146)))]) (os' := []) (O := [Sim Tryz.prog GL0 26 [] [] (one (.bool y136)) [], ([] : List Nat).Nodup, y136 = true, (y125.2 == 0) = true, Sim Tryz.prog GL0 31 [.val true (pvL (e_api_Re y125.1)), one (.str v132)] [] (one (.bool y139)) [], ([] : List Nat).Nodup, (decide ((w64 (Int.tmod (IntKind.wrap .u64 v2) 51)) ≥ (w64 (Int.tmod (IntKind.wrap .u64 v0) 21)))) = true, ((w64 (Int.tmod (IntKind.wrap .u64 v1) 22)) == 21) = true, (y139 == true) = true, v132.length + ([98] : List UInt8).length ≤ 4611686018427387904, (v132 ++ ([98] : List UInt8)).length + v132.length ≤ 4611686018427387904, ((v132 ++ ([98] : List UInt8)) ++ v132).length + ([99] : List UInt8).length ≤ 4611686018427387904, Sim Tryz.prog GL0 31 [.val true (pvL (e_api_Re y125.1)), one (.str (((v132 ++ ([98] : List UInt8)) ++ v132) ++ ([99] : List UInt8)))] [] (one (.bool y146)) [], ([] : List Nat).Nodup]) (by kernel_rfl) (sound _ _) ⟨(F26_ok k _ hy136), (by decide), hb137, hb138, (F31_ok k _ _ _ hy139), (by decide), hb140, hb141, hb142, hc143, hc144, hc145, (F31_ok k _ _ _ hy146), (by decide), trivial⟩ ?_
                      exact ⟨(!y146), by kernel_rfl, by kernel_rfl, hF⟩
                    · have hF := cond_f hF hb142
                      refine WA.reg [8] [] [(0, .callR [] (one (.bool y136))), (1, .bool true), (5, .bool true), (8, .callR [] (one (.bool y139))), (12, .bool true), (15, .bool true), (23, .bool false)] (env' := [(8, one (.bool false))]) (os' := []) (O := [Sim Tryz.prog GL0 26 [] [] (one (.bool y136)) [], ([] : List Nat).Nodup, y136 = true, (y125.2 == 0) = true, Sim Tryz.prog GL0 31 [.val true (pvL (e_api_Re y125.1)), one (.str v132)] [] (one (.bool y139)) [], ([] : List Nat).Nodup, (decide ((w64 (Int.tmod (IntKind.wrap .u64 v2) 51)) ≥ (w64 (Int.tmod (IntKind.wrap .u64 v0) 21)))) = true, ((w64 (Int.tmod (IntKind.wrap .u64 v1) 22)) == 21) = true, (y139 == true) = false]) (by kernel_rfl) (sound _ _) ⟨(F26_ok k _ hy136), (by decide), hb137, hb138, (F31_ok k _ _ _ hy139), (by decide), hb140, hb141, hb142, trivial⟩ ?_
                      exact ⟨false, by kernel_rfl, by kernel_rfl, hF⟩
                  · have hF := cond_f hF hb141
                    rcases Bool.eq_false_or_eq_true (y139 == (decide ((w64 (Int.tmod (IntKind.wrap .u64 v2) 51)) ≤ (w64 (Int.tmod (IntKind.wrap .u64 v1) 22))))) with hb147 | hb147
                    · have hF := cond_t hF hb147
                      obtain ⟨hc148, hF⟩ := if_some hF
                      obtain ⟨hc149, hF⟩ := if_some hF
                      obtain ⟨hc150, hF⟩ := if_some hF
                      obtain ⟨y151, hy151, hF⟩ := bind_some hF
                      refine WA.reg [8] [] [(0, .callR [] (one (.bool y136))), (1, .bool true), (5, .bool true), (8, .callR [] (one (.bool y139))), (12, .bool true), (15, .bool false), (23, .bool true), (30, .callR [] (one (.bool y151)))] (env' := [(8, one (.bool (!y151)))]) (os' := []) (O := [Sim Tryz.prog GL0 26 [] [] (one (.bool y136)) [], ([] : List Nat).Nodup, y136 = true, (y125.2 == 0) = true, Sim Tryz.prog GL0 31 [.val true (pvL (e_api_Re y125.1)), one (.str v132)] [] (one (.bool y139)) [], ([] : List Nat).Nodup, (decide ((w64 (Int.tmod (IntKind.wrap .u64 v2) 51)) ≥ (w64 (Int.tmod (IntKind.wrap .u64 v0) 21)))) = true, ((w64 (Int.tmod (IntKind.wrap .u64 v1) 22)) == 21) = false, (y139 == (decide ((w64 (Int.tmod (IntKind.wrap .u64 v2) 51)) ≤ (w64 (Int.tmod (IntKind.wrap .u64 v1) 22))))) = true, v132.length + ([98] : List UInt8).length ≤ 4611686018427387904, (v132 ++ ([98] : List UInt8)).length + v132.length ≤ 4611686018427387904, ((v132 ++ ([98] : List UInt8)) ++ v132).length + ([99] : List UInt8).length ≤ 4611686018427387904, Sim Tryz.prog GL0 31 [.val true (pvL (e_api_Re y125.1)), one (.str (((v132 ++ ([98] : List UInt8)) ++ v132) ++ ([99] : List UInt8)))] [] (one (.bool y151)) [], ([] : List Nat).Nodup]) (by kernel_rfl) (sound _ _) ⟨(F26_ok k _ hy136), (by decide), hb137, hb138, (F31_ok k _ _ _ hy139), (by decide), hb140, hb141, hb147, hc148, hc149, hc150, (F31_ok k _ _ _ hy151), (by decide), trivial⟩ ?_
                      exact ⟨(!y151), by kernel_rfl, by kernel_rfl, hF⟩
                    · have hF := cond_f hF hb147
                      refine WA.reg [8] [] [(0, .callR [] (one (.bool y136))), (1, .bool true), (5, .bool true), (8, .callR [] (one (.bool y139))), (12, .bool true), (15, .bool false), (23, .bool false)] (env' := [(8, one (.bool false))]) (os' := []) (O := [Sim Tryz.prog GL0 26 [] [] (one (.bool y136)) [], ([] : List Nat).Nodup, y136 = true, (y125.2 == 0) = true, Sim Tryz.prog GL0 31 [.val true (pvL (e_api_Re y125.1)), one (.str v132)] [] (one (.bool y139)) [], ([] : List Nat).Nodup, (decide ((w64 (Int.tmod (IntKind.wrap .u64 v2) 51)) ≥ (w64 (Int.tmod (IntKind.wrap .u64 v0) 21)))) = true, ((w64 (Int.tmod (IntKind.wrap .u64 v1) 22)) == 21) = false, (y139 == (decide ((w64 (Int.tmod (IntKind.wrap .u64 v2) 51)) ≤ (w64 (Int.tmod (IntKind.wrap .u64 v1) 22))))) = false]) (by kernel_rfl) (sound _ _) ⟨(F26_ok k _ hy136), (by decide), hb137, hb138, (F31_ok k _ _ _ hy139), (by decide), hb140, hb141, hb147, trivial⟩ ?_
                      exact ⟨false, by kernel_rfl, by kernel_rfl, hF⟩
                · have hF := cond_f hF hb140
                  rcases Bool.eq_false_or_eq_true (y139 == false) with hb152 | hb152
                  · have hF := cond_t hF hb152
                    obtain ⟨hc153, hF⟩ := if_some hF
                    obtain ⟨hc154, hF⟩ := if_some hF
                    obtain ⟨hc155, hF⟩ := if_some hF
                    obtain ⟨y156, hy156, hF⟩ := bind_some hF
                    refine WA.reg [8] [] [(0, .callR [] (one (.bool y136))), (1, .bool true), (5, .bool true), (8, .callR [] (one (.bool y139))), (12, .bool false), (23, .bool true), (30, .callR [] (one (.bool y156)))] (env' := [(8, one (.bool (!y156)))]) (os' := []) (O := [Sim Tryz.prog GL0 26 [] [] (one (.bool y136)) [], ([] : List Nat).Nodup, y136 = true, (y125.2 == 0) = true, Sim Tryz.prog GL0 31 [.val true (pvL (e_api_Re y125.1)), one (.str v132)] [] (one (.bool y139)) [], ([] : List Nat).Nodup, (decide ((w64 (Int.tmod (IntKind.wrap .u64 v2) 51)) ≥ (w64 (Int.tmod (IntKind.wrap .u64 v0) 21)))) = false, (y139 == false) = true, v132.length + ([98] : List UInt8).length ≤ 4611686018427387904, (v132 ++ ([98] : List UInt8)).length + v132.length ≤ 4611686018427387904, ((v132 ++ ([98] : List UInt8)) ++ v132).length + ([99] : List UInt8).length ≤ 4611686018427387904, Sim Tryz.prog GL0 31 [.val true (pvL (e_api_Re y125.1)), one (.str (((v132 ++ ([98] : List UInt8)) ++ v132) ++ ([99] : List UInt8)))] [] (one (.bool y156)) [], ([] : List Nat).Nodup]) (by kernel_rfl) (sound _ _) ⟨(F26_ok k _ hy136), (by decide), hb137, hb138, (F31_ok k _ _ _ hy139), (by decide), hb140, hb152, hc153, hc154, hc155, (F31_ok k _ _ _ hy156), (by decide), trivial⟩ ?_
                    exact ⟨(!y156), by kernel_rfl, by kernel_rfl, hF⟩
                  · have hF := cond_f hF hb152
                    refine WA.reg [8] [] [(0, .callR [] (one (.bool y136))), (1, .bool true), (5, .bool true), (8, .callR [] (one (.bool y139))), (12, .bool false), (23, .bool false)] (env' := [(8, one (.bool false))]) (os' := []) (O := [Sim Tryz.prog GL0 26 [] [] (one (.bool y136)) [], ([] : List Nat).Nodup, y136 = true, (y125.2 == 0) = true, Sim Tryz.prog GL0 31 [.val true (pvL (e_api_Re y125.1)), one (.str v132)] [] (one (.bool y139)) [], ([] : List Nat).Nodup, (decide ((w64 (Int.tmod (IntKind.wrap .u64 v2) 51)) ≥ (w64 (Int.tmod (IntKind.wrap .u64 v0) 21)))) = false, (y139 == false) = false]) (by kernel_rfl) (sound _ _) ⟨(F26_ok k _ hy136), (by decide), hb137, hb138, (F31_ok k _ _ _ hy139), (by decide), hb140, hb152, trivial⟩ ?_
                    exact ⟨false, by kernel_rfl, by kernel_rfl, hF⟩
              · have hF := cond_f hF hb138
                refine WA.reg [8] [] [(0, .callR [] (one (.bool y136))), (1, .bool true), (5, .bool false)] (env' := [(8, one (.bool false))]) (os' := []) (O := [Sim Tryz.prog GL0 26 [] [] (one (.bool y136)) [], ([] : List Nat).Nodup, y136 = true, (y125.2 == 0) = false]) (by kernel_rfl) (sound _ _) ⟨(F26_ok k _ hy136), (by decide), hb137, hb138, trivial⟩ ?_
                exact ⟨false, by kernel_rfl, by kernel_rfl, hF⟩
            · have hF := cond_f hF hb137
              refine WA.reg [8] [] [(0, .callR [] (one (.bool y136))), (1, .bool false)] (env' := [(8, one (.bool false))]) (os' := []) (O := [Sim Tryz.prog GL0 26 [] [] (one (.bool y136)) [], ([] : List Nat).Nodup, y136 = false]) (by kernel_rfl) (sound _ _) ⟨(F26_ok k _ hy136), (by decide), hb137, trivial⟩ ?_
              exact ⟨false, by kernel_rfl, by kernel_rfl, hF⟩
    · refine WA.block ?_
      refine WA.seq ?_
      refine WA.reg [9, 10, 11, 12, 13, 14, 44] [] [] (env' := [(9, one (.int .i64 (w64 (Int.tmod (IntKind.wrap .u64 v0) 21)))), (10, one (.int .i64 (w64 (Int.tmod (IntKind.wrap .u64 v1) 22)))), (11, one (.int .i64 (w64 (Int.tmod (IntKind.wrap .u64 v2) 51)))), (12, one (.str v105)), (13, one (.str v106)), (14, one (.str (((((v105 ++ ([123] : List UInt8)) ++ y108) ++ ([44] : List UInt8)) ++ y111) ++ ([125] : List UInt8)))), (44, one (.bool ((w64 (Int.tmod (IntKind.wrap .u64 v1) 22)) == 21)))]) (os' := []) (O := []) (by kernel_rfl) (sound _ _) trivial ?_
      refine WA.cond (b := ((w64 (Int.tmod (IntKind.wrap .u64 v1) 22)) == 21)) rfl (fun hb114 => ?_) (fun hb114 => ?_)
      · have hF := cond_t hF hb114
        obtain ⟨hc115, hF⟩ := if_some hF
        obtain ⟨y116, hy116, hF⟩ := bind_some hF
        obtain ⟨hc117, hF⟩ := if_some hF
        obtain ⟨hc118, hF⟩ := if_some hF
        refine WA.reg [9, 10, 11, 13, 14] [] [(3, .callR [] (one (.str y116)))] (env' := [(9, one (.int .i64 (w64 (Int.tmod (IntKind.wrap .u64 v0) 21)))), (10, one (.int .i64 (w64 (Int.tmod (IntKind.wrap .u64 v1) 22)))), (11, one (.int .i64 (w64 (Int.tmod (IntKind.wrap .u64 v2) 51)))), (13, one (.str v106)), (14, one (.str (((v105 ++ ([123] : List UInt8)) ++ y116) ++ ([44, 125] : List UInt8))))]) (os' := []) (O := [v105.length + ([123] : List UInt8).length ≤ 4611686018427387904, Sim Tryz.prog GL0 35 [one (.int .i64 (w64 (Int.tmod (IntKind.wrap .u64 v0) 21)))] [] (one (.str y116)) [], ([] : List Nat).Nodup, (v105 ++ ([123] : List UInt8)).length + y116.length ≤ 4611686018427387904, ((v105 ++ ([123] : List UInt8)) ++ y116).length + ([44, 125] : List UInt8).length ≤ 4611686018427387904]) (by kernel_rfl) (sound _ _) ⟨hc115, (F35_ok k _ _ hy116), (by decide), hc117, hc118, trivial⟩ ?_
        exact ⟨(((v105 ++ ([123] : List UInt8)) ++ y116) ++ ([44, 125] : List UInt8)), by kernel_rfl, by kernel_rfl, hF⟩
      · have hF := cond_f hF hb114
        refine WA.seq ?_
        refine WA.reg [9, 10, 11, 13, 14, 53] [] [] (env' := [(9, one (.int .i64 (w64 (Int.tmod (IntKind.wrap .u64 v0) 21)))), (10, one (.int .i64 (w64 (Int.tmod (IntKind.wrap .u64 v1) 22)))), (11, one (.int .i64 (w64 (Int.tmod (IntKind.wrap .u64 v2) 51)))), (13, one (.str v106)), (14, one (.str (((((v105 ++ ([123] : List UInt8)) ++ y108) ++ ([44] : List UInt8)) ++ y111) ++ ([125] : List UInt8)))), (53, one (.bool (decide ((w64 (Int.tmod (IntKind.wrap .u64 v1) 22)) < (w64 (Int.tmod (IntKind.wrap .u64 v0) 21))))))]) (os' := []) (O := []) (by kernel_rfl) (sound _ _) trivial ?_
        refine WA.cond (b := (decide ((w64 (Int.tmod (IntKind.wrap .u64 v1) 22)) < (w64 (Int.tmod (IntKind.wrap .u64 v0) 21))))) rfl (fun hb119 => ?_) (fun hb119 => ?_)
        · have hF := cond_t hF hb119
          refine WA.seq ?_
          obtain ⟨y120, hy120, hF⟩ := bind_some hF
          refine WA.reg [16] [] [(1, .callR [] (.tup [(true, pvL (e_api_Re y120.1)), (false, [.pv (.int .i64 y120.2)])])), (5, .obj 115)] (env' := [(16, one (.int .i64 y120.2))]) (os' := []) (O := [Sim Tryz.prog GL0 27 [one (.str (((((v105 ++ ([123] : List UInt8)) ++ y108) ++ ([44] : List UInt8)) ++ y111) ++ ([125] : List UInt8)))] [] (.tup [(true, pvL (e_api_Re y120.1)), (false, [.pv (.int .i64 y120.2)])]) [], ([] : List Nat).Nodup]) (by kernel_rfl) (sound _ _) ⟨(F27_ok k _ _ hy120), (by decide), trivial⟩ ?_
          refine WA.join (fun s_ => ∃ (v123 : Bool), pickE s_.env [8] = [(8, one (.bool v123))] ∧ pickE s_.os [] = [] ∧ F12_j1 v123 = some r) ?_ ?_
          · rintro s_ ⟨v123, he, ho, hF⟩
            refine WA.keep _ _ he ho ?_
            clear he ho
            refine WA.ret ?_
            obtain rfl := Option.some.inj hF
            exact out_ret (one (.bool v123)) [] (by kernel_rfl) (by kernel_rfl) (by kernel_rfl) (by kernel_rfl) (by decide) rfl rfl
          · obtain ⟨y121, hy121, hF⟩ := bind_some hF
            rcases Bool.eq_false_or_eq_true y121 with hb122 | hb122
            · have hF := cond_t hF hb122
              refine WA.reg [8] [] [(0, .callR [] (one (.bool y121))), (1, .bool true)] (env' := [(8, one (.bool (y120.2 == 8)))]) (os' := []) (O := [Sim Tryz.prog GL0 26 [] [] (one (.bool y121)) [], ([] : List Nat).Nodup, y121 = true]) (by kernel_rfl) (sound _ _) ⟨(F26_ok k _ hy121), (by decide), hb122, trivial⟩ ?_
              exact ⟨(y120.2 == 8), by kernel_rfl, by kernel_rfl, hF⟩
            · have hF := cond_f hF hb122
              refine WA.reg [8] [] [(0, .callR [] (one (.bool y121))), (1, .bool false)] (env' := [(8, one (.bool false))]) (os' := []) (O := [Sim Tryz.prog GL0 26 [] [] (one (.bool y121)) [], ([] : List Nat).Nodup, y121 = false]) (by kernel_rfl) (sound _ _) ⟨(F26_ok k _ hy121), (by decide), hb122, trivial⟩ ?_
              exact ⟨false, by kernel_rfl, by kernel_rfl, hF⟩
        · have hF := cond_f hF hb119
          refine WA.skip ?_
          exact ⟨(((((v105 ++ ([123] : List UInt8)) ++ y108) ++ ([44] : List UInt8)) ++ y111) ++ ([125] : List UInt8)), by kernel_rfl, by kernel_rfl, hF⟩
  · refine WA.seq ?_
    refine WA.reg [9, 10, 11, 12, 13, 33] [] [] (env' := [(9, one (.int .i64 (w64 (Int.tmod (IntKind.wrap .u64 v0) 21)))), (10, one (.int .i64 (w64 (Int.tmod (IntKind.wrap .u64 v1) 22)))), (11, one (.int .i64 (w64 (Int.tmod (IntKind.wrap .u64 v2) 51)))), (12, one (.str ([97] : List UInt8))), (13, one (.str ([97] : List UInt8))), (33, one (.bool v3))]) (os' := []) (O := []) (by kernel_rfl) (sound _ _) trivial ?_
    refine WA.cond (b := v3) rfl (fun hb104 => ?_) (fun hb104 => ?_)
    · have hF := cond_t hF hb104
      refine WA.reg [9, 10, 11, 12, 13] [] [] (env' := [(9, one (.int .i64 (w64 (Int.tmod (IntKind.wrap .u64 v0) 21)))), (10, one (.int .i64 (w64 (Int.tmod (IntKind.wrap .u64 v1) 22)))), (11, one (.int .i64 (w64 (Int.tmod (IntKind.wrap .u64 v2) 51)))), (12, one (.str ([40, 97, 98, 41] : List UInt8))), (13, one (.str ([97, 98] : List UInt8)))]) (os' := []) (O := []) (by kernel_rfl) (sound _ _) trivial ?_
      exact ⟨([40, 97, 98, 41] : List UInt8), ([97, 98] : List UInt8), by kernel_rfl, by kernel_rfl, hF⟩
    · have hF := cond_f hF hb104
      refine WA.skip ?_
      exact ⟨([97] : List UInt8), ([97] : List UInt8), by kernel_rfl, by kernel_rfl, hF⟩
end Go.Proofs.YthilboheomikjaaGreatDoor
end

section
namespace Go.Proofs.YthilboheomikjaaGreatDoor
open Go.AL Go.Lib
set_option linter.unusedVariables false
set_option linter.unusedSimpArgs false
set_option maxRecDepth 100000

def tw (ab : Bool) : List UInt8 := cond ab [97, 98] [97]
def tb (ab : Bool) : List UInt8 := cond ab [40, 97, 98, 41] [97]
def tu (ab : Bool) : List Int := cond ab [97, 98] [97]
def rep8 (ab : Bool) : Nat → List UInt8
  | 0 => []
  | n + 1 => rep8 ab n ++ tw ab
def repU (ab : Bool) : Nat → List Int
  | 0 => []
  | n + 1 => tu ab ++ repU ab n
def dg (i : Nat) : List UInt8 := (F35 0 (i : Int)).getD []
def pat (i j : Nat) (ab : Bool) : List UInt8 := if j = 21 then ((tb ab ++ [123]) ++ dg i) ++ [44, 125] else ((((tb ab ++ [123]) ++ dg i) ++ [44]) ++ dg j) ++ [125]
def tX (ab : Bool) : api_Re := cond ab ⟨2, [], [sg 97, sg 98], 0, 0⟩ (sg 97)
def tre (i j : Nat) (ab : Bool) : api_Re := ⟨4, [], [tX ab], (i : Int), if j = 21 then -1 else (j : Int)⟩

def isSg (c : Int) : api_Re → Bool
  | ⟨k, [⟨a, b⟩], [], m, x⟩ => k == 1 && a == c && b == c && m == 0 && x == 0
  | _ => false
theorem isSg_eq {c : Int} {r : api_Re} (h : isSg c r = true) : r = sg c := by
  unfold isSg at h
  split at h
  · simp only [Bool.and_eq_true, beq_iff_eq] at h
    obtain ⟨⟨⟨⟨rfl, rfl⟩, rfl⟩, rfl⟩, rfl⟩ := h; rfl
  · cases h
def isX (ab : Bool) (r : api_Re) : Bool := match ab, r with
  | false, r => isSg 97 r
  | true, ⟨k, [], [x, y], m, z⟩ => k == 2 && isSg 97 x && isSg 98 y && m == 0 && z == 0
  | true, _ => false
theorem isX_eq {ab : Bool} {r : api_Re} (h : isX ab r = true) : r = tX ab := by
  unfold isX at h
  split at h
  · exact isSg_eq h
  · simp only [Bool.and_eq_true, beq_iff_eq] at h
    obtain ⟨⟨⟨⟨rfl, h1⟩, h2⟩, rfl⟩, rfl⟩ := h
    rw [isSg_eq h1, isSg_eq h2]; rfl
  · cases h
def isT (i j : Nat) (ab : Bool) : api_Re → Bool
  | ⟨k, [], [x], m, z⟩ => k == 4 && isX ab x && m == (i : Int) && z == (if j = 21 then (-1 : Int) else (j : Int))
  | _ => false
theorem isT_eq {i j : Nat} {ab : Bool} {r : api_Re} (h : isT i j ab r = true) : r = tre i j ab := by
  unfold isT at h
  split at h
  · simp only [Bool.and_eq_true, beq_iff_eq] at h
    obtain ⟨⟨⟨rfl, h1⟩, rfl⟩, rfl⟩ := h
    rw [isX_eq h1]; rfl
  · cases h

theorem parse_all : ((List.range 21).all fun i => (List.range 22).all fun j => [true, false].all fun ab => match F27 3000 (pat i j ab) with
    | some y => if j < i then y.2 == 8 else y.2 == 0 && isT i j ab y.1 && (F30 3000 y.1 == some true)
    | none => false) = true := by kernel_rfl
theorem digits_all : ((List.range 22).all fun i => (F35 0 (i : Int) == some (dg i)) && decide ((dg i).length ≤ 2)) = true := by kernel_rfl
theorem texts_all : ((List.range 51).all fun z => [true, false].all fun ab => validD (rep8 ab z) && (pts (rep8 ab z) == repU ab z) && validD (((rep8 ab z ++ [98]) ++ rep8 ab z) ++ [99]) &&
    ((pts (((rep8 ab z ++ [98]) ++ rep8 ab z) ++ [99])).getLast? == some 99)) = true := by kernel_rfl

theorem ab_mem (ab : Bool) : ab ∈ [true, false] := by cases ab <;> simp
theorem parse_at {i j : Nat} (hi : i < 21) (hj : j < 22) (ab : Bool) : ∃ y, F27 3000 (pat i j ab) = some y ∧ (j < i → y.2 = 8) ∧ (¬ j < i → y.2 = 0 ∧ y.1 = tre i j ab ∧ F30 3000 (tre i j ab) = some true) := by
  have h := List.all_eq_true.1 (List.all_eq_true.1 (List.all_eq_true.1 parse_all i (List.mem_range.2 hi)) j (List.mem_range.2 hj)) ab (ab_mem ab)
  split at h
  · rename_i y hy
    refine ⟨y, hy, fun hji => ?_, fun hji => ?_⟩
    · rw [if_pos hji] at h; simpa using h
    · rw [if_neg hji] at h
      simp only [Bool.and_eq_true, beq_iff_eq] at h
      have := isT_eq h.1.2
      exact ⟨h.1.1, this, by rw [← this]; exact h.2⟩
  · cases h
theorem digits_at {i : Nat} (hi : i < 22) (k : Nat) : F35 k (i : Int) = some (dg i) ∧ (dg i).length ≤ 2 := by
  have h := List.all_eq_true.1 digits_all i (List.mem_range.2 hi)
  simp only [Bool.and_eq_true, beq_iff_eq, decide_eq_true_eq] at h
  exact ⟨h.1, h.2⟩
theorem texts_at {z : Nat} (hz : z < 51) (ab : Bool) : validD (rep8 ab z) = true ∧ pts (rep8 ab z) = repU ab z ∧ validD (((rep8 ab z ++ [98]) ++ rep8 ab z) ++ [99]) = true ∧
    (pts (((rep8 ab z ++ [98]) ++ rep8 ab z) ++ [99])).getLast? = some 99 := by
  have h := List.all_eq_true.1 (List.all_eq_true.1 texts_all z (List.mem_range.2 hz)) ab (ab_mem ab)
  simp only [Bool.and_eq_true, beq_iff_eq] at h
  exact ⟨h.1.1.1, h.1.1.2, h.1.2, h.2⟩

theorem tX_lang (ab : Bool) (w : List Int) : Lang (tX ab) w ↔ w = tu ab := by
  cases ab
  · exact sg_lang 97 w
  · show Lang ⟨2, [], [97, 98].map sg, 0, 0⟩ w ↔ _
    have := mkQ_lang [97, 98] w
    unfold mkQ at this
    rw [dif_neg (by decide)] at this
    exact this
theorem pow_rep (ab : Bool) : ∀ (n : Nat) (w : List Int), Pow (Lang (tX ab)) n w ↔ w = repU ab n
  | 0, w => Iff.rfl
  | n + 1, w => by
    constructor
    · rintro ⟨u, v, rfl, h1, h2⟩
      rw [(tX_lang ab u).1 h1, (pow_rep ab n v).1 h2]; rfl
    · rintro rfl
      exact ⟨tu ab, repU ab n, rfl, (tX_lang _ _).2 rfl, (pow_rep _ _ _).2 rfl⟩
theorem repU_len (ab : Bool) (n : Nat) : (repU ab n).length = n * (tu ab).length := by
  induction n with
  | zero => simp [repU]
  | succ n ih => simp only [repU, List.length_append, ih, Nat.succ_mul]; omega
theorem repU_inj {ab : Bool} {m n : Nat} (h : repU ab m = repU ab n) : m = n := by
  have := congrArg List.length h
  rw [repU_len, repU_len] at this
  cases ab
  · simpa [tu] using this
  · simp [tu] at this; omega
theorem repU_mem {ab : Bool} : ∀ {n : Nat} {c : Int}, c ∈ repU ab n → c = 97 ∨ c = 98
  | 0, c, h => by cases h
  | n + 1, c, h => by
    rcases List.mem_append.1 h with h | h
    · cases ab
      · simp [tu] at h; exact .inl h
      · simp [tu] at h; exact h
    · exact repU_mem h
theorem tre_lang {i j : Nat} {ab : Bool} (w : List Int) : Lang (tre i j ab) w ↔ ∃ n : Nat, i ≤ n ∧ (j = 21 ∨ n ≤ j) ∧ w = repU ab n := by
  unfold tre
  rw [rep_lang]
  constructor
  · rintro ⟨n, h1, h2, h3⟩
    refine ⟨n, by omega, ?_, (pow_rep _ _ _).1 h3⟩
    by_cases e : j = 21
    · exact .inl e
    · rw [if_neg e] at h2; exact .inr (by omega)
  · rintro ⟨n, h1, h2, h3⟩
    refine ⟨n, by omega, ?_, (pow_rep _ _ _).2 h3⟩
    by_cases e : j = 21
    · rw [if_pos e]; exact .inl (by omega)
    · rw [if_neg e]; exact .inr (by omega)

theorem tX_wf (ab : Bool) : WF (tX ab) := by
  cases ab
  · exact sg_wf 97
  · exact ⟨⟨.inr (.inl rfl), fun h' => absurd (show (2 : Int) = 4 from h') (by decide), by simp, by simp⟩, sgs_wf [97, 98]⟩
theorem tre_wf {i j : Nat} (hi : i < 21) (hj : j < 22) (h : ¬ j < i) (ab : Bool) : WF (tre i j ab) := by
  refine ⟨⟨.inr (.inr (.inr rfl)), fun _ => ⟨rfl, ?_, ?_, ?_, ?_⟩, by simp, by simp⟩, tX_wf ab, trivial⟩
  · show (0 : Int) ≤ i; omega
  · show (i : Int) ≤ 20; omega
  · show (if j = 21 then (-1 : Int) else j) ≤ 20; split <;> omega
  · show (if j = 21 then (-1 : Int) else j) = -1 ∨ (i : Int) ≤ (if j = 21 then (-1 : Int) else j); split
    · exact .inl rfl
    · exact .inr (by omega)
theorem tX_fu (ab : Bool) : fu (tX ab) ≤ 100 ∧ cnt (tX ab) ≤ 2 := by cases ab <;> exact ⟨by decide, by decide⟩
theorem tre_fu (i j : Nat) (ab : Bool) : fu (tre i j ab) ≤ 200 := by
  unfold tre
  simp only [fu, fuL, List.length_cons, List.length_nil]
  have := (tX_fu ab).1; omega
theorem tre_cnt {i j : Nat} (hi : i < 21) (hj : j < 22) (ab : Bool) : cnt (tre i j ab) ≤ 100 := by
  unfold tre
  simp only [cnt, cntL]
  have hc := (tX_fu ab).2
  generalize cnt (tX ab) = c at hc
  rw [if_neg (by decide), if_neg (by decide), if_neg (by decide)]
  have h1 : (Int.toNat (i : Int) + 1) * (c + 0) ≤ 21 * 2 := Nat.mul_le_mul (by omega) (by omega)
  have hq : -1 ≤ (if j = 21 then (-1 : Int) else (j : Int)) ∧ (if j = 21 then (-1 : Int) else (j : Int)) ≤ 21 := by split <;> omega
  generalize (if j = 21 then (-1 : Int) else (j : Int)) = q at hq
  have h2 : (Int.toNat q) * (c + 0) ≤ 21 * 2 := Nat.mul_le_mul (by omega) (by omega)
  have h3 : (Int.toNat (q - i)) ≤ 21 := by omega
  split <;> omega

theorem rep8_len (ab : Bool) (n : Nat) : (rep8 ab n).length ≤ 2 * n := by
  induction n with
  | zero => simp [rep8]
  | succ n ih =>
    simp only [rep8, List.length_append]
    have : (tw ab).length ≤ 2 := by cases ab <;> decide
    omega

theorem match1 {i j z : Nat} (hi : i < 21) (hj : j < 22) (hz : z < 51) (h : ¬ j < i) (ab : Bool) : F31 3000 (tre i j ab) (rep8 ab z) = some (decide (i ≤ z ∧ (j = 21 ∨ z ≤ j))) := by
  obtain ⟨v1, p1, _, _⟩ := texts_at hz ab
  obtain ⟨y, _, _, hy⟩ := parse_at hi hj ab
  obtain ⟨b, e, hb⟩ := match_ok (k := 3000) (r := tre i j ab) (s := rep8 ab z) (by omega) (tre_wf hi hj h ab) (by have := tre_fu i j ab; omega) (by have := tre_cnt hi hj ab; omega) (by have := rep8_len ab z; omega) (hy h).2.2 v1
  rw [e]; congr 1
  rw [p1, tre_lang] at hb
  by_cases q : i ≤ z ∧ (j = 21 ∨ z ≤ j)
  · rw [dt q]; exact hb.2 ⟨z, q.1, q.2, rfl⟩
  · rw [df q]
    cases b
    · rfl
    · obtain ⟨n, h1, h2, h3⟩ := hb.1 rfl
      obtain rfl := repU_inj h3
      exact absurd ⟨h1, h2⟩ q
theorem match2 {i j z : Nat} (hi : i < 21) (hj : j < 22) (hz : z < 51) (h : ¬ j < i) (ab : Bool) : F31 3000 (tre i j ab) (((rep8 ab z ++ [98]) ++ rep8 ab z) ++ [99]) = some false := by
  obtain ⟨_, _, v2, p2⟩ := texts_at hz ab
  obtain ⟨y, _, _, hy⟩ := parse_at hi hj ab
  have hl := rep8_len ab z
  obtain ⟨b, e, hb⟩ := match_ok (k := 3000) (r := tre i j ab) (s := ((rep8 ab z ++ [98]) ++ rep8 ab z) ++ [99]) (by omega) (tre_wf hi hj h ab) (by have := tre_fu i j ab; omega) (by have := tre_cnt hi hj ab; omega) (by simp; omega) (hy h).2.2 v2
  rw [e]; congr 1
  cases b
  · rfl
  · exfalso
    rw [tre_lang] at hb
    obtain ⟨n, _, _, h3⟩ := hb.1 rfl
    rw [h3] at p2
    have := repU_mem (List.mem_of_getLast? p2)
    omega

theorem told3 : F26 3000 = some true := by kernel_rfl

theorem tmod_at {m : Int} {i : Nat} (hi : (i : Int) < m) (hm : m ≤ 1000) : w64 (Int.tmod (IntKind.wrap .u64 (i : Int)) m) = (i : Int) := by
  have e : IntKind.wrap .u64 (i : Int) = i := by simp [IntKind.wrap, IntKind.bits, IntKind.signed]; omega
  rw [e, Int.tmod_eq_of_lt (by omega) hi, w64_id (by omega) (by omega)]

theorem times_loop {i j z : Nat} (hi : i < 21) (hj : j < 22) (hz : z < 51) (h : ¬ j < i) (ab : Bool) : ∀ (d t m : Nat), t + d = z → d < m →
    F12_l3 3000 (i : Int) (j : Int) (z : Int) (tw ab) (tre i j ab, 0) m (rep8 ab t) (t : Int) = some true
  | 0, t, m + 1, ht, hm => by
    obtain rfl : t = z := by omega
    show F12_b3 _ _ _ _ _ _ _ _ _ = _
    unfold F12_b3
    have hl := rep8_len ab t
    rw [tmod_at (m := 51) (by omega) (by omega), tmod_at (m := 21) (by omega) (by omega), tmod_at (m := 22) (by omega) (by omega), df (by omega)]
    simp only [cond, told3, Option.bind_some, beq_self_eq_true, match1 hi hj hz h ab]
    have e1 : (rep8 ab t).length + ([98] : List UInt8).length ≤ 4611686018427387904 := by simp; omega
    have e2 : (rep8 ab t ++ ([98] : List UInt8)).length + (rep8 ab t).length ≤ 4611686018427387904 := by simp; omega
    have e3 : ((rep8 ab t ++ ([98] : List UInt8)) ++ rep8 ab t).length + ([99] : List UInt8).length ≤ 4611686018427387904 := by simp; omega
    simp only [if_pos e1, if_pos e2, if_pos e3, match2 hi hj hz h ab, Option.bind_some, Bool.not_false, F12_j4]
    by_cases hti : i ≤ t
    · rw [dt (show (t : Int) ≥ i by omega)]
      simp only
      by_cases h21 : j = 21
      · subst h21
        rw [beq_t (show ((21 : Nat) : Int) = 21 from rfl), dt ⟨hti, .inl rfl⟩]
        rfl
      · rw [beq_f (show ¬ (j : Int) = 21 by omega)]
        simp only
        by_cases hjt : t ≤ j
        · rw [dt ⟨hti, .inr hjt⟩, dt (show (t : Int) ≤ j by omega)]; rfl
        · rw [df (show ¬ (i ≤ t ∧ (j = 21 ∨ t ≤ j)) by omega), df (show ¬ (t : Int) ≤ j by omega)]; rfl
    · rw [df (show ¬ (t : Int) ≥ i by omega), df (show ¬ (i ≤ t ∧ (j = 21 ∨ t ≤ j)) by omega)]; rfl
  | d + 1, t, m + 1, ht, hm => by
    show F12_b3 _ _ _ _ _ _ _ _ _ = _
    unfold F12_b3
    have hl := rep8_len ab t
    have hl2 : (tw ab).length ≤ 2 := by cases ab <;> decide
    rw [tmod_at (m := 51) (by omega) (by omega), dt (by omega)]
    simp only [cond]
    rw [if_pos (by omega), w64_id (by omega) (by omega)]
    exact times_loop hi hj hz h ab d (t + 1) m (by omega) (by omega)

theorem times_j2 {i j z : Nat} (hi : i < 21) (hj : j < 22) (hz : z < 51) (h : ¬ j < i) (ab : Bool) : F12_j2 3000 (i : Int) (j : Int) (z : Int) (tw ab) (pat i j ab) = some true := by
  obtain ⟨⟨y1, y2⟩, hy, _, hy2⟩ := parse_at hi hj ab
  obtain ⟨e1, e2, _⟩ := hy2 h
  simp only at e1 e2
  subst e1; subst e2
  unfold F12_j2
  rw [hy]
  exact times_loop hi hj hz h ab z 0 3000 (by omega) (by omega)

theorem times_j0 {i j z : Nat} (hi : i < 21) (hj : j < 22) (hz : z < 51) (ab : Bool) : F12_j0 3000 (i : Int) (j : Int) (z : Int) (tb ab) (tw ab) = some true := by
  unfold F12_j0
  obtain ⟨di, li⟩ := digits_at (i := i) (by omega) 3000
  obtain ⟨dj, lj⟩ := digits_at hj 3000
  have hb : (tb ab).length ≤ 4 := by cases ab <;> decide
  rw [tmod_at (m := 21) (by omega) (by omega), tmod_at (m := 22) (by omega) (by omega), di, dj]
  simp only [Option.bind_some]
  rw [if_pos (by simp; omega), if_pos (by simp; omega), if_pos (by simp; omega), if_pos (by simp; omega), if_pos (by simp; omega)]
  by_cases h21 : j = 21
  · rw [beq_t (show (j : Int) = 21 by omega)]
    simp only [cond]
    rw [if_pos (by simp; omega), if_pos (by simp; omega), if_pos (by simp; omega)]
    have := times_j2 hi hj hz (by omega) ab
    unfold pat at this
    rw [if_pos h21] at this
    exact this
  · rw [beq_f (show ¬ (j : Int) = 21 by omega)]
    simp only [cond]
    have hp : pat i j ab = ((((tb ab ++ [123]) ++ dg i) ++ [44]) ++ dg j) ++ [125] := by unfold pat; rw [if_neg h21]
    rw [← hp]
    by_cases hji : j < i
    · rw [dt (by omega)]
      simp only
      obtain ⟨y, hy, hy8, _⟩ := parse_at hi hj ab
      rw [hy]
      simp only [Option.bind_some, told3, hy8 hji, F12_j1]
      rfl
    · rw [df (by omega)]
      exact times_j2 hi hj hz hji ab

theorem rest_nat (a : Int) (m : Int) (hm : 0 < m) (hm2 : m ≤ 1000) : ∃ i : Nat, (i : Int) < m ∧ Int.tmod (IntKind.wrap .u64 a) m = (i : Int) ∧ Int.tmod (IntKind.wrap .u64 (i : Int)) m = (i : Int) := by
  have h0 : 0 ≤ IntKind.wrap .u64 a := by simp [IntKind.wrap, IntKind.bits, IntKind.signed]; omega
  have h1 : 0 ≤ Int.tmod (IntKind.wrap .u64 a) m := Int.tmod_nonneg _ h0
  have h2 : Int.tmod (IntKind.wrap .u64 a) m < m := Int.tmod_lt_of_pos _ hm
  obtain ⟨i, hi⟩ := Int.eq_ofNat_of_zero_le h1
  rw [hi] at h2
  refine ⟨i, h2, hi, ?_⟩
  have e : IntKind.wrap .u64 (i : Int) = i := by simp [IntKind.wrap, IntKind.bits, IntKind.signed]; omega
  rw [e]; exact Int.tmod_eq_of_lt (by omega) h2

theorem l3_congr {k : Nat} {a b c a' b' c' : Int} {w : List UInt8} {y : api_Re × Int} (ha : Int.tmod (IntKind.wrap .u64 a) 21 = Int.tmod (IntKind.wrap .u64 a') 21)
    (hb : Int.tmod (IntKind.wrap .u64 b) 22 = Int.tmod (IntKind.wrap .u64 b') 22) (hc : Int.tmod (IntKind.wrap .u64 c) 51 = Int.tmod (IntKind.wrap .u64 c') 51) : ∀ m, F12_l3 k a b c w y m = F12_l3 k a' b' c' w y m
  | 0 => rfl
  | m + 1 => by
    have ih := l3_congr (k := k) (w := w) (y := y) ha hb hc m
    funext v t
    show F12_b3 _ _ _ _ _ _ _ _ _ = F12_b3 _ _ _ _ _ _ _ _ _
    unfold F12_b3
    rw [ha, hb, hc, ih]
end Go.Proofs.YthilboheomikjaaGreatDoor
namespace Go.Proofs.YthilboheomikjaaGreatDoor.Pure
open Go.AL
theorem RexTimes (a b c : Int) (ab : Bool) (_ : -9223372036854775808 ≤ a ∧ a ≤ 9223372036854775807) (_ : -9223372036854775808 ≤ b ∧ b ≤ 9223372036854775807) (_ : -9223372036854775808 ≤ c ∧ c ≤ 9223372036854775807) :
    ∃ k, F12 k a b c ab = some true := by
  obtain ⟨i, hi, ei, ei'⟩ := rest_nat a 21 (by omega) (by omega)
  obtain ⟨j, hj, ej, ej'⟩ := rest_nat b 22 (by omega) (by omega)
  obtain ⟨z, hz, ez, ez'⟩ := rest_nat c 51 (by omega) (by omega)
  refine ⟨3000, ?_⟩
  have key : ∀ (p w : List UInt8), F12_j0 3000 a b c p w = F12_j0 3000 i j z p w := fun p w => by
    have h2 : ∀ q, F12_j2 3000 a b c w q = F12_j2 3000 i j z w q := fun q => by
      unfold F12_j2
      simp only [l3_congr (ei.trans ei'.symm) (ej.trans ej'.symm) (ez.trans ez'.symm)]
    unfold F12_j0
    simp only [h2, ei, ej, ei', ej']
  unfold F12
  rw [if_pos (by decide), if_pos (by decide), if_pos (by decide), key, key]
  cases ab
  · exact times_j0 (by omega) (by omega) (by omega) false
  · exact times_j0 (by omega) (by omega) (by omega) true
end Go.Proofs.YthilboheomikjaaGreatDoor.Pure
end
