import Derived.Test.YthilboheomikjaaGreatDoorG1
namespace Go.Proofs.YthilboheomikjaaGreatDoor
open Go.AL
set_option linter.unusedVariables false
set_option linter.unusedSimpArgs false
set_option maxRecDepth 100000

/-! entrepot utf.Next -/
def F55_j1 (y105 : Int × Int) (v107 : Bool) : Option (Int × Int) :=
  cond v107 ((some ((-1), 1))) (((some ((w64 y105.1), y105.2))))
def F55_j0 (k : Nat) (v0 : List UInt8) (v1 : Int) (v102 : Bool) : Option (Int × Int) :=
  cond v102 ((some (0, 0))) ((if (0 : Int) ≤ v1 ∧ (v1 : Int) ≤ (v0.length : Int) ∧ (v0.length : Int) ≤ (v0.length : Int) then (F80 k ((v0.take (Int.toNat (v0.length : Int))).drop (Int.toNat v1))).bind fun y105 => (cond (y105.1 == 65533) ((F55_j1 y105 (y105.2 == 1))) ((F55_j1 y105 false))) else none))
def F55 (k : Nat) (v0 : List UInt8) (v1 : Int) : Option (Int × Int) :=
  (cond (decide (v1 < 0)) ((F55_j0 k v0 v1 true)) ((F55_j0 k v0 v1 (decide (v1 ≥ (v0.length : Int))))))
theorem F55_ok (k : Nat) (v0 : List UInt8) (v1 : Int) (r : Int × Int) (hF : F55 k v0 v1 = some r) : Sim Tryz.prog GL0 55 [one (.str v0), one (.int .i64 v1)] [] (.tup [(false, [.pv (.int .i64 r.1)]), (false, [.pv (.int .i64 r.2)])]) [] := by
  refine sim_of [] Tryz.func55 rfl (by kernel_rfl) (by kernel_rfl) ?_
  show WA _ _ 32 _ _ _
  refine WA.seq ?_
  refine WA.reg [0, 1] [] [] (env' := [(0, one (.str v0)), (1, one (.int .i64 v1))]) (os' := []) (O := []) (by kernel_rfl) (sound _ _) trivial ?_
  refine WA.seq ?_
  refine WA.join (fun s_ => ∃ (v102 : Bool), pickE s_.env [0, 1, 15] = [(0, one (.str v0)), (1, one (.int .i64 v1)), (15, one (.bool v102))] ∧ pickE s_.os [] = [] ∧ F55_j0 k v0 v1 v102 = some r) ?_ ?_
  · rintro s_ ⟨v102, he, ho, hF⟩
    refine WA.keep _ _ he ho ?_
    clear he ho
    refine WA.cond (b := v102) rfl (fun hb103 => ?_) (fun hb103 => ?_)
    · have hF := cond_t hF hb103
      refine WA.seq ?_
      refine WA.reg [4, 5] [] [] (env' := [(4, one (.int .i64 0)), (5, one (.int .i64 0))]) (os' := []) (O := []) (by kernel_rfl) (sound _ _) trivial ?_
      refine WA.ret ?_
      obtain rfl := Option.some.inj hF
      exact out_ret (.tup [(false, [.pv (.int .i64 0)]), (false, [.pv (.int .i64 0)])]) [] (by kernel_rfl) (by kernel_rfl) (by kernel_rfl) (by kernel_rfl) (by decide) rfl rfl
    · have hF := cond_f hF hb103
      refine WA.skip ?_
      refine WA.seq ?_
      obtain ⟨hc104, hF⟩ := if_some hF
      obtain ⟨y105, hy105, hF⟩ := bind_some hF
      refine WA.reg [6, 7] [] [(3, .callR [] (.tup [(false, [.pv (.int .i32 y105.1)]), (false, [.pv (.int .i64 y105.2)])]))] (env' := [(6, one (.int .i32 y105.1)), (7, one (.int .i64 y105.2))]) (os' := []) (O := [(0 : Int) ≤ v1, (v1 : Int) ≤ (v0.length : Int), (v0.length : Int) ≤ (v0.length : Int), Sim Tryz.prog GL0 80 [one (.str ((v0.take (Int.toNat (v0.length : Int))).drop (Int.toNat v1)))] [] (.tup [(false, [.pv (.int .i32 y105.1)]), (false, [.pv (.int .i64 y105.2)])]) [], ([] : List Nat).Nodup]) (by kernel_rfl) (sound _ _) ⟨hc104.1, hc104.2.1, hc104.2.2, (F80_ok k _ _ hy105), (by decide), trivial⟩ ?_
      refine WA.seq ?_
      refine WA.join (fun s_ => ∃ (v107 : Bool), pickE s_.env [6, 7, 28] = [(6, one (.int .i32 y105.1)), (7, one (.int .i64 y105.2)), (28, one (.bool v107))] ∧ pickE s_.os [] = [] ∧ F55_j1 y105 v107 = some r) ?_ ?_
      · rintro s_ ⟨v107, he, ho, hF⟩
        refine WA.keep _ _ he ho ?_
        clear he ho
        refine WA.cond (b := v107) rfl (fun hb108 => ?_) (fun hb108 => ?_)
        · have hF := cond_t hF hb108
          refine WA.seq ?_
          refine WA.reg [4, 5] [] [] (env' := [(4, one (.int .i64 (-1))), (5, one (.int .i64 1))]) (os' := []) (O := []) (by kernel_rfl) (sound _ _) trivial ?_
          refine WA.ret ?_
          obtain rfl := Option.some.inj hF
          exact out_ret (.tup [(false, [.pv (.int .i64 (-1))]), (false, [.pv (.int .i64 1)])]) [] (by kernel_rfl) (by kernel_rfl) (by kernel_rfl) (by kernel_rfl) (by decide) rfl rfl
        · have hF := cond_f hF hb108
          refine WA.skip ?_
          refine WA.seq ?_
          refine WA.reg [4, 5] [] [] (env' := [(4, one (.int .i64 (w64 y105.1))), (5, one (.int .i64 y105.2))]) (os' := []) (O := []) (by kernel_rfl) (sound _ _) trivial ?_
          refine WA.ret ?_
          obtain rfl := Option.some.inj hF
          exact out_ret (.tup [(false, [.pv (.int .i64 (w64 y105.1))]), (false, [.pv (.int .i64 y105.2)])]) [] (by kernel_rfl) (by kernel_rfl) (by kernel_rfl) (by kernel_rfl) (by decide) rfl rfl
      · rcases Bool.eq_false_or_eq_true (y105.1 == 65533) with hb106 | hb106
        · have hF := cond_t hF hb106
          refine WA.reg [6, 7, 28] [] [(2, .bool true)] (env' := [(6, one (.int .i32 y105.1)), (7, one (.int .i64 y105.2)), (28, one (.bool (y105.2 == 1)))]) (os' := []) (O := [(y105.1 == 65533) = true]) (by kernel_rfl) (sound _ _) ⟨hb106, trivial⟩ ?_
          exact ⟨(y105.2 == 1), by kernel_rfl, by kernel_rfl, hF⟩
        · have hF := cond_f hF hb106
          refine WA.reg [6, 7, 28] [] [(2, .bool false)] (env' := [(6, one (.int .i32 y105.1)), (7, one (.int .i64 y105.2)), (28, one (.bool false))]) (os' := []) (O := [(y105.1 == 65533) = false]) (by kernel_rfl) (sound _ _) ⟨hb106, trivial⟩ ?_
          exact ⟨false, by kernel_rfl, by kernel_rfl, hF⟩
  · rcases Bool.eq_false_or_eq_true (decide (v1 < 0)) with hb101 | hb101
    · have hF := cond_t hF hb101
      refine WA.reg [0, 1, 15] [] [(2, .bool true)] (env' := [(0, one (.str v0)), (1, one (.int .i64 v1)), (15, one (.bool true))]) (os' := []) (O := [(decide (v1 < 0)) = true]) (by kernel_rfl) (sound _ _) ⟨hb101, trivial⟩ ?_
      exact ⟨true, by kernel_rfl, by kernel_rfl, hF⟩
    · have hF := cond_f hF hb101
      refine WA.reg [0, 1, 15] [] [(2, .bool false)] (env' := [(0, one (.str v0)), (1, one (.int .i64 v1)), (15, one (.bool (decide (v1 ≥ (v0.length : Int)))))]) (os' := []) (O := [(decide (v1 < 0)) = false]) (by kernel_rfl) (sound _ _) ⟨hb101, trivial⟩ ?_
      exact ⟨(decide (v1 ≥ (v0.length : Int))), by kernel_rfl, by kernel_rfl, hF⟩
/-! entrepot utf.Valid -/
def F49 (k : Nat) (v0 : List UInt8) : Option Bool :=
  (F72 k v0).bind fun y101 => (some y101)
theorem F49_ok (k : Nat) (v0 : List UInt8) (r : Bool) (hF : F49 k v0 = some r) : Sim Tryz.prog GL0 49 [one (.str v0)] [] (one (.bool r)) [] := by
  refine sim_of [] Tryz.func49 rfl (by kernel_rfl) (by kernel_rfl) ?_
  show WA _ _ 5 _ _ _
  refine WA.seq ?_
  refine WA.reg [0] [] [] (env' := [(0, one (.str v0))]) (os' := []) (O := []) (by kernel_rfl) (sound _ _) trivial ?_
  refine WA.seq ?_
  obtain ⟨y101, hy101, hF⟩ := bind_some hF
  refine WA.reg [2] [] [(1, .callR [] (one (.bool y101)))] (env' := [(2, one (.bool y101))]) (os' := []) (O := [Sim Tryz.prog GL0 72 [one (.str v0)] [] (one (.bool y101)) [], ([] : List Nat).Nodup]) (by kernel_rfl) (sound _ _) ⟨(F72_ok k _ _ hy101), (by decide), trivial⟩ ?_
  refine WA.ret ?_
  obtain rfl := Option.some.inj hF
  exact out_ret (one (.bool y101)) [] (by kernel_rfl) (by kernel_rfl) (by kernel_rfl) (by kernel_rfl) (by decide) rfl rfl
/-! entrepot rex.all -/
def F59 (k : Nat) : Option (List api_Range) :=
  ((some ([(⟨0, 55295⟩ : api_Range), (⟨57344, 1114111⟩ : api_Range)] : List api_Range)))
theorem F59_ok (k : Nat) (r : List api_Range) (hF : F59 k = some r) : Sim Tryz.prog GL0 59 [] [] (one (.sl (r.map e_api_Range))) [] := by
  refine sim_of [] Tryz.func59 rfl (by kernel_rfl) (by kernel_rfl) ?_
  show WA _ _ 4 _ _ _
  refine WA.seq ?_
  refine WA.reg [] [] [] (env' := []) (os' := []) (O := []) (by kernel_rfl) (sound _ _) trivial ?_
  refine WA.seq ?_
  refine WA.reg [0] [] [] (env' := [(0, one (.sl (([(⟨0, 55295⟩ : api_Range), (⟨57344, 1114111⟩ : api_Range)] : List api_Range).map e_api_Range)))]) (os' := []) (O := []) (by kernel_rfl) (sound _ _) trivial ?_
  refine WA.ret ?_
  obtain rfl := Option.some.inj hF
  exact out_ret (one (.sl (([(⟨0, 55295⟩ : api_Range), (⟨57344, 1114111⟩ : api_Range)] : List api_Range).map e_api_Range))) [] (by kernel_rfl) (by kernel_rfl) (by kernel_rfl) (by kernel_rfl) (by decide) rfl rfl
/-! entrepot rex.set -/
def F58 (k : Nat) (v0 : List api_Range) : Option api_Re :=
  ((some (⟨1, v0, ([] : List api_Re), 0, 0⟩ : api_Re)))
theorem F58_ok (k : Nat) (v0 : List api_Range) (r : api_Re) (hF : F58 k v0 = some r) : Sim Tryz.prog GL0 58 [one (.sl (v0.map e_api_Range))] [] (.val true (pvL (e_api_Re r))) [] := by
  refine sim_of [] Tryz.func58 rfl (by kernel_rfl) (by kernel_rfl) ?_
  show WA _ _ 5 _ _ _
  refine WA.seq ?_
  refine WA.reg [0, 2] [102] [(0, .obj 102)] (env' := [(0, one (.sl (v0.map e_api_Range))), (2, .val false [.ptr 102 1 0 0])]) (os' := [(102, .box (pvL (e_api_Re (⟨0, ([] : List api_Range), ([] : List api_Re), 0, 0⟩ : api_Re))))]) (O := []) (by kernel_rfl) (sound _ _) trivial ?_
  refine WA.seq ?_
  refine WA.reg [2] [102] [] (env' := [(2, .val false [.ptr 102 1 0 0])]) (os' := [(102, .box (pvL (e_api_Re (⟨1, v0, ([] : List api_Re), 0, 0⟩ : api_Re))))]) (O := []) (by kernel_rfl) (sound _ _) trivial ?_
  refine WA.ret ?_
  obtain rfl := Option.some.inj hF
  exact out_ret (.val true (pvL (e_api_Re (⟨1, v0, ([] : List api_Re), 0, 0⟩ : api_Re)))) [] (by kernel_rfl) (by kernel_rfl) (by kernel_rfl) (by kernel_rfl) (by decide) rfl rfl
/-! entrepot rex.Size -/
def F32_j6 (self4 : Int → Int → Option Int) (v122 : Int) (v131 : Int) : Option Int :=
  self4 v131 (w64 (v122 + 1))
def F32_j5 (R32 : api_Re → Option Int) (self4 : Int → Int → Option Int) (v121 : Int) (v122 : Int) (y124 : api_Re) (v128 : Bool) : Option Int :=
  cond v128 ((R32 y124).bind fun y130 => (F32_j6 self4 v122 (mn (w64 (v121 + y130)) 1000))) ((F32_j6 self4 v122 v121))
def F32_j7 (v121 : Int) (v135 : Int) : Option Int :=
  (some (mn (w64 ((w64 (v121 * (mn (mx v135 1) 1000))) + 1)) 1000))
def F32_b4 (R32 : api_Re → Option Int) (self4 : Int → Int → Option Int) (v0 : api_Re) (v121 : Int) (v122 : Int) : Option Int :=
  (cond (decide (v122 < (v0.f_L.length : Int))) ((idxL v0.f_L v122).bind fun y124 => (cond (v0.f_Kind == 2) ((F32_j5 R32 self4 v121 v122 y124 true)) (cond (v0.f_Kind == 3) ((F32_j5 R32 self4 v121 v122 y124 true)) (cond (v0.f_Kind == 4) ((F32_j5 R32 self4 v121 v122 y124 (v122 == 0))) ((F32_j5 R32 self4 v121 v122 y124 false)))))) ((((cond (v0.f_Kind == 1) ((some 1)) ((cond (v0.f_Kind == 4) (((cond (decide (v0.f_Max < 0)) ((F32_j7 v121 (w64 (v0.f_Min + 1)))) ((F32_j7 v121 v0.f_Max))))) (((some (mn (w64 (v121 + 1)) 1000)))))))))))
def F32_l4 (R32 : api_Re → Option Int) (v0 : api_Re) : Nat → Int → Int → Option Int
  | 0, _, _ => none
  | m_ + 1, v121, v122 => F32_b4 R32 (F32_l4 R32 v0 m_) v0 v121 v122
def F32_b (R32 : api_Re → Option Int) (k : Nat) (v0 : api_Re) : Option Int :=
  (((F32_l4 R32 v0 k 0 0)))
theorem F32_b_ok (R32 : api_Re → Option Int) (IH32 : ∀ (v0 : api_Re) (r : Int), R32 v0 = some r → Sim Tryz.prog GL0 32 [.val true (pvL (e_api_Re v0))] [] (one (.int .i64 r)) []) (k : Nat) (v0 : api_Re) (r : Int) (hF : F32_b R32 k v0 = some r) : Sim Tryz.prog GL0 32 [.val true (pvL (e_api_Re v0))] [] (one (.int .i64 r)) [] := by
  refine sim_of [] Tryz.func32 rfl (by kernel_rfl) (by kernel_rfl) ?_
  show WA _ _ 61 _ _ _
  refine WA.seq ?_
  refine WA.reg [1] [101] [(0, .obj 101)] (env' := [(1, .val false [.ptr 101 1 0 0])]) (os' := [(101, .box (pvL (e_api_Re v0)))]) (O := []) (by kernel_rfl) (sound _ _) trivial ?_
  refine WA.seq ?_
  refine WA.reg [1, 3] [101] [] (env' := [(1, .val false [.ptr 101 1 0 0]), (3, one (.int .i64 0))]) (os' := [(101, .box (pvL (e_api_Re v0)))]) (O := []) (by kernel_rfl) (sound _ _) trivial ?_
  refine WA.seq ?_
  refine WA.seq ?_
  refine WA.regM (α := Int) (raw := ((es_api_Re v0.f_L).length : Int)) (can := (v0.f_L.length : Int)) (fun m_ => ([(1, .val false [.ptr 101 1 0 0]), (3, one (.int .i64 0)), (8, one (.sl (es_api_Re v0.f_L))), (9, one (.int .i64 m_)), (10, one (.int .i64 0))], [(101, .box (pvL (e_api_Re v0)))], [])) ((by first | (simp only [List.length_map, List.length_append, List.length_cons, List.length_nil, List.length_set, List.length_replicate, List.length_take, List.length_drop, lens_api_Re]; done) | (simp only [List.length_map, List.length_append, List.length_cons, List.length_nil, List.length_set, List.length_replicate, List.length_take, List.length_drop, lens_api_Re]; omega) | omega)) [1, 3, 8, 9, 10] [101] [] (env' := [(1, .val false [.ptr 101 1 0 0]), (3, one (.int .i64 0)), (8, one (.sl (es_api_Re v0.f_L))), (9, one (.int .i64 (v0.f_L.length : Int))), (10, one (.int .i64 0))]) (os' := [(101, .box (pvL (e_api_Re v0)))]) (O := []) (by kernel_rfl) (by kernel_rfl) (sound _ _) trivial ?_
  refine WA.block ?_
  refine WA.loop (fun m s_ => ∃ (v121 : Int) (v122 : Int), pickE s_.env [1, 3, 8, 9, 10] = [(1, .val false [.ptr 101 1 0 0]), (3, one (.int .i64 v121)), (8, one (.sl (es_api_Re v0.f_L))), (9, one (.int .i64 (v0.f_L.length : Int))), (10, one (.int .i64 v122))] ∧ pickE s_.os [101] = [(101, .box (pvL (e_api_Re v0)))] ∧ F32_l4 R32 v0 m v121 v122 = some r) k ⟨0, 0, by kernel_rfl, by kernel_rfl, hF⟩ ?_
  clear hF
  rintro m4 s_ ⟨v121, v122, he, ho, hF⟩
  refine WA.keep _ _ he ho ?_
  clear he ho
  cases m4 with
  | zero => cases hF
  | succ m4 =>
    obtain ⟨self4, hself4⟩ : ∃ g, g = F32_l4 R32 v0 m4 := ⟨_, rfl⟩
    have hF : F32_b4 R32 self4 v0 v121 v122 = some r := by rw [hself4]; exact hF
    refine WA.seq ?_
    refine WA.reg [1, 3, 8, 9, 10, 11] [101] [] (env' := [(1, .val false [.ptr 101 1 0 0]), (3, one (.int .i64 v121)), (8, one (.sl (es_api_Re v0.f_L))), (9, one (.int .i64 (v0.f_L.length : Int))), (10, one (.int .i64 v122)), (11, one (.bool (decide (v122 < (v0.f_L.length : Int)))))]) (os' := [(101, .box (pvL (e_api_Re v0)))]) (O := []) (by kernel_rfl) (sound _ _) trivial ?_
    refine WA.seq ?_
    refine WA.cond (b := (decide (v122 < (v0.f_L.length : Int)))) rfl (fun hb123 => ?_) (fun hb123 => ?_)
    · have hF := cond_t hF hb123
      refine WA.skip ?_
      refine WA.join (fun s_ => ∃ (v131 : Int), pickE s_.env [1, 3, 8, 9, 10] = [(1, .val false [.ptr 101 1 0 0]), (3, one (.int .i64 v131)), (8, one (.sl (es_api_Re v0.f_L))), (9, one (.int .i64 (v0.f_L.length : Int))), (10, one (.int .i64 v122))] ∧ pickE s_.os [101] = [(101, .box (pvL (e_api_Re v0)))] ∧ F32_j6 self4 v122 v131 = some r) ?_ ?_
      · rintro s_ ⟨v131, he, ho, hF⟩
        refine WA.keep _ _ he ho ?_
        clear he ho
        refine WA.reg [1, 3, 8, 9, 10] [101] [] (env' := [(1, .val false [.ptr 101 1 0 0]), (3, one (.int .i64 v131)), (8, one (.sl (es_api_Re v0.f_L))), (9, one (.int .i64 (v0.f_L.length : Int))), (10, one (.int .i64 (w64 (v122 + 1))))]) (os' := [(101, .box (pvL (e_api_Re v0)))]) (O := []) (by kernel_rfl) (sound _ _) trivial ?_
        exact ⟨m4, Nat.lt_succ_self _, v131, (w64 (v122 + 1)), by kernel_rfl, by kernel_rfl, by rw [hself4] at hF; exact hF⟩
      · refine WA.block ?_
        refine WA.seq ?_
        obtain ⟨y124, hy124, hF⟩ := bind_some hF
        refine WA.reg [1, 3, 4, 5, 8, 9, 10] [101, 105] [(1, .cells (e_api_Re y124)), (3, .obj 105)] (env' := [(1, .val false [.ptr 101 1 0 0]), (3, one (.int .i64 v121)), (4, one (.int .i64 v122)), (5, .val false [.ptr 105 1 0 0]), (8, one (.sl (es_api_Re v0.f_L))), (9, one (.int .i64 (v0.f_L.length : Int))), (10, one (.int .i64 v122))]) (os' := [(101, .box (pvL (e_api_Re v0))), (105, .box (pvL (e_api_Re y124)))]) (O := [idxL (es_api_Re v0.f_L) v122 = some (e_api_Re y124)]) (by kernel_rfl) (sound _ _) ⟨(idx_api_Re hy124), trivial⟩ ?_
        refine WA.join (fun s_ => ∃ (v128 : Bool), pickE s_.env [1, 3, 5, 8, 9, 10, 31] = [(1, .val false [.ptr 101 1 0 0]), (3, one (.int .i64 v121)), (5, .val false [.ptr 105 1 0 0]), (8, one (.sl (es_api_Re v0.f_L))), (9, one (.int .i64 (v0.f_L.length : Int))), (10, one (.int .i64 v122)), (31, one (.bool v128))] ∧ pickE s_.os [101, 105] = [(101, .box (pvL (e_api_Re v0))), (105, .box (pvL (e_api_Re y124)))] ∧ F32_j5 R32 self4 v121 v122 y124 v128 = some r) ?_ ?_
        · rintro s_ ⟨v128, he, ho, hF⟩
          refine WA.keep _ _ he ho ?_
          clear he ho
          refine WA.cond (b := v128) rfl (fun hb129 => ?_) (fun hb129 => ?_)
          · have hF := cond_t hF hb129
            obtain ⟨y130, hy130, hF⟩ := bind_some hF
            refine WA.reg [1, 3, 8, 9, 10] [101] [(2, .callR [] (one (.int .i64 y130)))] (env' := [(1, .val false [.ptr 101 1 0 0]), (3, one (.int .i64 (mn (w64 (v121 + y130)) 1000))), (8, one (.sl (es_api_Re v0.f_L))), (9, one (.int .i64 (v0.f_L.length : Int))), (10, one (.int .i64 v122))]) (os' := [(101, .box (pvL (e_api_Re v0)))]) (O := [Sim Tryz.prog GL0 32 [.val true (pvL (e_api_Re y124))] [] (one (.int .i64 y130)) [], ([] : List Nat).Nodup]) (by kernel_rfl) (sound _ _) ⟨(IH32 _ _ hy130), (by decide), trivial⟩ ?_
            exact ⟨(mn (w64 (v121 + y130)) 1000), by kernel_rfl, by kernel_rfl, hF⟩
          · have hF := cond_f hF hb129
            refine WA.skip ?_
            exact ⟨v121, by kernel_rfl, by kernel_rfl, hF⟩
        · rcases Bool.eq_false_or_eq_true (v0.f_Kind == 2) with hb125 | hb125
          · have hF := cond_t hF hb125
            refine WA.reg [1, 3, 5, 8, 9, 10, 31] [101, 105] [(3, .bool true)] (env' := [(1, .val false [.ptr 101 1 0 0]), (3, one (.int .i64 v121)), (5, .val false [.ptr 105 1 0 0]), (8, one (.sl (es_api_Re v0.f_L))), (9, one (.int .i64 (v0.f_L.length : Int))), (10, one (.int .i64 v122)), (31, one (.bool true))]) (os' := [(101, .box (pvL (e_api_Re v0))), (105, .box (pvL (e_api_Re y124)))]) (O := [(v0.f_Kind == 2) = true]) (by kernel_rfl) (sound _ _) ⟨hb125, trivial⟩ ?_
            exact ⟨true, by kernel_rfl, by kernel_rfl, hF⟩
          · have hF := cond_f hF hb125
            rcases Bool.eq_false_or_eq_true (v0.f_Kind == 3) with hb126 | hb126
            · have hF := cond_t hF hb126
              refine WA.reg [1, 3, 5, 8, 9, 10, 31] [101, 105] [(3, .bool false), (8, .bool true)] (env' := [(1, .val false [.ptr 101 1 0 0]), (3, one (.int .i64 v121)), (5, .val false [.ptr 105 1 0 0]), (8, one (.sl (es_api_Re v0.f_L))), (9, one (.int .i64 (v0.f_L.length : Int))), (10, one (.int .i64 v122)), (31, one (.bool true))]) (os' := [(101, .box (pvL (e_api_Re v0))), (105, .box (pvL (e_api_Re y124)))]) (O := [(v0.f_Kind == 2) = false, (v0.f_Kind == 3) = true]) (by kernel_rfl) (sound _ _) ⟨hb125, hb126, trivial⟩ ?_
              exact ⟨true, by kernel_rfl, by kernel_rfl, hF⟩
            · have hF := cond_f hF hb126
              rcases Bool.eq_false_or_eq_true (v0.f_Kind == 4) with hb127 | hb127
              · have hF := cond_t hF hb127
                refine WA.reg [1, 3, 5, 8, 9, 10, 31] [101, 105] [(3, .bool false), (8, .bool false), (12, .bool true)] (env' := [(1, .val false [.ptr 101 1 0 0]), (3, one (.int .i64 v121)), (5, .val false [.ptr 105 1 0 0]), (8, one (.sl (es_api_Re v0.f_L))), (9, one (.int .i64 (v0.f_L.length : Int))), (10, one (.int .i64 v122)), (31, one (.bool (v122 == 0)))]) (os' := [(101, .box (pvL (e_api_Re v0))), (105, .box (pvL (e_api_Re y124)))]) (O := [(v0.f_Kind == 2) = false, (v0.f_Kind == 3) = false, (v0.f_Kind == 4) = true]) (by kernel_rfl) (sound _ _) ⟨hb125, hb126, hb127, trivial⟩ ?_
                exact ⟨(v122 == 0), by kernel_rfl, by kernel_rfl, hF⟩
              · have hF := cond_f hF hb127
                refine WA.reg [1, 3, 5, 8, 9, 10, 31] [101, 105] [(3, .bool false), (8, .bool false), (12, .bool false)] (env' := [(1, .val false [.ptr 101 1 0 0]), (3, one (.int .i64 v121)), (5, .val false [.ptr 105 1 0 0]), (8, one (.sl (es_api_Re v0.f_L))), (9, one (.int .i64 (v0.f_L.length : Int))), (10, one (.int .i64 v122)), (31, one (.bool false))]) (os' := [(101, .box (pvL (e_api_Re v0))), (105, .box (pvL (e_api_Re y124)))]) (O := [(v0.f_Kind == 2) = false, (v0.f_Kind == 3) = false, (v0.f_Kind == 4) = false]) (by kernel_rfl) (sound _ _) ⟨hb125, hb126, hb127, trivial⟩ ?_
                exact ⟨false, by kernel_rfl, by kernel_rfl, hF⟩
    · have hF := cond_f hF hb123
      refine WA.exit ?_
      refine WA.seq ?_
      refine WA.seq ?_
      refine WA.reg [1, 3, 39] [101] [] (env' := [(1, .val false [.ptr 101 1 0 0]), (3, one (.int .i64 v121)), (39, one (.int .i64 v0.f_Kind))]) (os' := [(101, .box (pvL (e_api_Re v0)))]) (O := []) (by kernel_rfl) (sound _ _) trivial ?_
      refine WA.block ?_
      refine WA.seq ?_
      refine WA.reg [1, 3, 39, 40] [101] [] (env' := [(1, .val false [.ptr 101 1 0 0]), (3, one (.int .i64 v121)), (39, one (.int .i64 v0.f_Kind)), (40, one (.bool (v0.f_Kind == 1)))]) (os' := [(101, .box (pvL (e_api_Re v0)))]) (O := []) (by kernel_rfl) (sound _ _) trivial ?_
      refine WA.cond (b := (v0.f_Kind == 1)) rfl (fun hb132 => ?_) (fun hb132 => ?_)
      · have hF := cond_t hF hb132
        refine WA.seq ?_
        refine WA.reg [2] [] [] (env' := [(2, one (.int .i64 1))]) (os' := []) (O := []) (by kernel_rfl) (sound _ _) trivial ?_
        refine WA.ret ?_
        obtain rfl := Option.some.inj hF
        exact out_ret (one (.int .i64 1)) [] (by kernel_rfl) (by kernel_rfl) (by kernel_rfl) (by kernel_rfl) (by decide) rfl rfl
      · have hF := cond_f hF hb132
        refine WA.seq ?_
        refine WA.reg [1, 3, 42] [101] [] (env' := [(1, .val false [.ptr 101 1 0 0]), (3, one (.int .i64 v121)), (42, one (.bool (v0.f_Kind == 4)))]) (os' := [(101, .box (pvL (e_api_Re v0)))]) (O := []) (by kernel_rfl) (sound _ _) trivial ?_
        refine WA.cond (b := (v0.f_Kind == 4)) rfl (fun hb133 => ?_) (fun hb133 => ?_)
        · have hF := cond_t hF hb133
          refine WA.seq ?_
          refine WA.reg [1, 3, 6] [101] [] (env' := [(1, .val false [.ptr 101 1 0 0]), (3, one (.int .i64 v121)), (6, one (.int .i64 v0.f_Max))]) (os' := [(101, .box (pvL (e_api_Re v0)))]) (O := []) (by kernel_rfl) (sound _ _) trivial ?_
          refine WA.join (fun s_ => ∃ (v135 : Int), pickE s_.env [3, 6] = [(3, one (.int .i64 v121)), (6, one (.int .i64 v135))] ∧ pickE s_.os [] = [] ∧ F32_j7 v121 v135 = some r) ?_ ?_
          · rintro s_ ⟨v135, he, ho, hF⟩
            refine WA.keep _ _ he ho ?_
            clear he ho
            refine WA.seq ?_
            refine WA.reg [2] [] [] (env' := [(2, one (.int .i64 (mn (w64 ((w64 (v121 * (mn (mx v135 1) 1000))) + 1)) 1000)))]) (os' := []) (O := []) (by kernel_rfl) (sound _ _) trivial ?_
            refine WA.ret ?_
            obtain rfl := Option.some.inj hF
            exact out_ret (one (.int .i64 (mn (w64 ((w64 (v121 * (mn (mx v135 1) 1000))) + 1)) 1000))) [] (by kernel_rfl) (by kernel_rfl) (by kernel_rfl) (by kernel_rfl) (by decide) rfl rfl
          · refine WA.seq ?_
            refine WA.reg [1, 3, 6, 47] [101] [] (env' := [(1, .val false [.ptr 101 1 0 0]), (3, one (.int .i64 v121)), (6, one (.int .i64 v0.f_Max)), (47, one (.bool (decide (v0.f_Max < 0))))]) (os' := [(101, .box (pvL (e_api_Re v0)))]) (O := []) (by kernel_rfl) (sound _ _) trivial ?_
            refine WA.cond (b := (decide (v0.f_Max < 0))) rfl (fun hb134 => ?_) (fun hb134 => ?_)
            · have hF := cond_t hF hb134
              refine WA.reg [3, 6] [] [] (env' := [(3, one (.int .i64 v121)), (6, one (.int .i64 (w64 (v0.f_Min + 1))))]) (os' := []) (O := []) (by kernel_rfl) (sound _ _) trivial ?_
              exact ⟨(w64 (v0.f_Min + 1)), by kernel_rfl, by kernel_rfl, hF⟩
            · have hF := cond_f hF hb134
              refine WA.skip ?_
              exact ⟨v0.f_Max, by kernel_rfl, by kernel_rfl, hF⟩
        · have hF := cond_f hF hb133
          refine WA.skip ?_
          refine WA.seq ?_
          refine WA.reg [2] [] [] (env' := [(2, one (.int .i64 (mn (w64 (v121 + 1)) 1000)))]) (os' := []) (O := []) (by kernel_rfl) (sound _ _) trivial ?_
          refine WA.ret ?_
          obtain rfl := Option.some.inj hF
          exact out_ret (one (.int .i64 (mn (w64 (v121 + 1)) 1000))) [] (by kernel_rfl) (by kernel_rfl) (by kernel_rfl) (by kernel_rfl) (by decide) rfl rfl
def F32 : Nat → api_Re → Option Int
  | 0, _ => none
  | k + 1, v0 => F32_b (F32 k) k v0
theorem F32_ok : ∀ (k : Nat), ∀ (v0 : api_Re) (r : Int), F32 k v0 = some r → Sim Tryz.prog GL0 32 [.val true (pvL (e_api_Re v0))] [] (one (.int .i64 r)) []
  | 0 => fun _ _ hF => by cases hF
  | k + 1 => fun v0 r hF => F32_b_ok (F32 k) (F32_ok k) k v0 r hF
/-! slices.Equal   entrepot api.Range entrepot api.Range  -/
def F75_b0 (self0 : Int → Option Bool) (v0 : List api_Range) (v1 : List api_Range) (v111 : Int) : Option Bool :=
  (cond (decide (v111 < (v0.length : Int))) (((idxL v0 v111).bind fun y113 => (idxL v1 v111).bind fun y114 => (cond (!((y113.f_Lo == y114.f_Lo) && ((y113.f_Hi == y114.f_Hi) && true))) ((some false)) ((self0 (w64 (v111 + 1))))))) (((some true))))
def F75_l0 (v0 : List api_Range) (v1 : List api_Range) : Nat → Int → Option Bool
  | 0, _ => none
  | m_ + 1, v111 => F75_b0 (F75_l0 v0 v1 m_) v0 v1 v111
def F75 (k : Nat) (v0 : List api_Range) (v1 : List api_Range) : Option Bool :=
  ((cond ((v0.length : Int) != (v1.length : Int)) ((some false)) (((F75_l0 v0 v1 k 0)))))
theorem F75_ok (k : Nat) (v0 : List api_Range) (v1 : List api_Range) (r : Bool) (hF : F75 k v0 v1 = some r) : Sim Tryz.prog GL0 75 [one (.sl (v0.map e_api_Range)), one (.sl (v1.map e_api_Range))] [] (one (.bool r)) [] := by
  refine sim_of [] Tryz.func75 rfl (by kernel_rfl) (by kernel_rfl) ?_
  show WA _ _ 26 _ _ _
  refine WA.seq ?_
  refine WA.reg [0, 1] [] [] (env' := [(0, one (.sl (v0.map e_api_Range))), (1, one (.sl (v1.map e_api_Range)))]) (os' := []) (O := []) (by kernel_rfl) (sound _ _) trivial ?_
  refine WA.seq ?_
  refine WA.seq ?_
  refine WA.regM (α := Int × Int) (raw := (((v0.map e_api_Range).length : Int), ((v1.map e_api_Range).length : Int))) (can := ((v0.length : Int), (v1.length : Int))) (fun m_ => ([(0, one (.sl (v0.map e_api_Range))), (1, one (.sl (v1.map e_api_Range))), (10, one (.bool (m_.1 != m_.2)))], [], [])) (pair_eq (by first | (simp only [List.length_map, List.length_append, List.length_cons, List.length_nil, List.length_set, List.length_replicate, List.length_take, List.length_drop, lens_api_Re]; done) | (simp only [List.length_map, List.length_append, List.length_cons, List.length_nil, List.length_set, List.length_replicate, List.length_take, List.length_drop, lens_api_Re]; omega) | omega) (by first | (simp only [List.length_map, List.length_append, List.length_cons, List.length_nil, List.length_set, List.length_replicate, List.length_take, List.length_drop, lens_api_Re]; done) | (simp only [List.length_map, List.length_append, List.length_cons, List.length_nil, List.length_set, List.length_replicate, List.length_take, List.length_drop, lens_api_Re]; omega) | omega)) [0, 1, 10] [] [] (env' := [(0, one (.sl (v0.map e_api_Range))), (1, one (.sl (v1.map e_api_Range))), (10, one (.bool ((v0.length : Int) != (v1.length : Int))))]) (os' := []) (O := []) (by kernel_rfl) (by kernel_rfl) (sound _ _) trivial ?_
  refine WA.cond (b := ((v0.length : Int) != (v1.length : Int))) rfl (fun hb101 => ?_) (fun hb101 => ?_)
  · have hF := cond_t hF hb101
    refine WA.seq ?_
    refine WA.reg [4] [] [] (env' := [(4, one (.bool false))]) (os' := []) (O := []) (by kernel_rfl) (sound _ _) trivial ?_
    refine WA.ret ?_
    obtain rfl := Option.some.inj hF
    exact out_ret (one (.bool false)) [] (by kernel_rfl) (by kernel_rfl) (by kernel_rfl) (by kernel_rfl) (by decide) rfl rfl
  · have hF := cond_f hF hb101
    refine WA.skip ?_
    refine WA.seq ?_
    refine WA.seq ?_
    refine WA.regM (α := Int) (raw := ((v0.map e_api_Range).length : Int)) (can := (v0.length : Int)) (fun m_ => ([(0, one (.sl (v0.map e_api_Range))), (1, one (.sl (v1.map e_api_Range))), (12, one (.int .i64 m_)), (13, one (.int .i64 0))], [], [])) ((by first | (simp only [List.length_map, List.length_append, List.length_cons, List.length_nil, List.length_set, List.length_replicate, List.length_take, List.length_drop, lens_api_Re]; done) | (simp only [List.length_map, List.length_append, List.length_cons, List.length_nil, List.length_set, List.length_replicate, List.length_take, List.length_drop, lens_api_Re]; omega) | omega)) [0, 1, 12, 13] [] [] (env' := [(0, one (.sl (v0.map e_api_Range))), (1, one (.sl (v1.map e_api_Range))), (12, one (.int .i64 (v0.length : Int))), (13, one (.int .i64 0))]) (os' := []) (O := []) (by kernel_rfl) (by kernel_rfl) (sound _ _) trivial ?_
    refine WA.block ?_
    refine WA.loop (fun m s_ => ∃ (v111 : Int), pickE s_.env [0, 1, 12, 13] = [(0, one (.sl (v0.map e_api_Range))), (1, one (.sl (v1.map e_api_Range))), (12, one (.int .i64 (v0.length : Int))), (13, one (.int .i64 v111))] ∧ pickE s_.os [] = [] ∧ F75_l0 v0 v1 m v111 = some r) k ⟨0, by kernel_rfl, by kernel_rfl, hF⟩ ?_
    clear hF
    rintro m0 s_ ⟨v111, he, ho, hF⟩
    refine WA.keep _ _ he ho ?_
    clear he ho
    cases m0 with
    | zero => cases hF
    | succ m0 =>
      obtain ⟨self0, hself0⟩ : ∃ g, g = F75_l0 v0 v1 m0 := ⟨_, rfl⟩
      have hF : F75_b0 self0 v0 v1 v111 = some r := by rw [hself0]; exact hF
      refine WA.seq ?_
      refine WA.reg [0, 1, 12, 13, 14] [] [] (env' := [(0, one (.sl (v0.map e_api_Range))), (1, one (.sl (v1.map e_api_Range))), (12, one (.int .i64 (v0.length : Int))), (13, one (.int .i64 v111)), (14, one (.bool (decide (v111 < (v0.length : Int)))))]) (os' := []) (O := []) (by kernel_rfl) (sound _ _) trivial ?_
      refine WA.seq ?_
      refine WA.cond (b := (decide (v111 < (v0.length : Int)))) rfl (fun hb112 => ?_) (fun hb112 => ?_)
      · have hF := cond_t hF hb112
        refine WA.skip ?_
        refine WA.seq ?_
        refine WA.block ?_
        refine WA.seq ?_
        refine WA.reg [0, 1, 5, 12, 13] [] [] (env' := [(0, one (.sl (v0.map e_api_Range))), (1, one (.sl (v1.map e_api_Range))), (5, one (.int .i64 v111)), (12, one (.int .i64 (v0.length : Int))), (13, one (.int .i64 v111))]) (os' := []) (O := []) (by kernel_rfl) (sound _ _) trivial ?_
        refine WA.seq ?_
        obtain ⟨y113, hy113, hF⟩ := bind_some hF
        obtain ⟨y114, hy114, hF⟩ := bind_some hF
        refine WA.regD (by kernel_rfl) [0, 1, 12, 13, 24] [] [(2, .cells (e_api_Range y113)), (6, .cells (e_api_Range y114))] (env' := [(0, one (.sl (v0.map e_api_Range))), (1, one (.sl (v1.map e_api_Range))), (12, one (.int .i64 (v0.length : Int))), (13, one (.int .i64 v111)), (24, one (.bool (!((y113.f_Lo == y114.f_Lo) && ((y113.f_Hi == y114.f_Hi) && true)))))]) (os' := []) (O := [idxL (v0.map e_api_Range) v111 = some (e_api_Range y113), idxL (v1.map e_api_Range) v111 = some (e_api_Range y114)]) (by kernel_rfl) (by kernel_rfl) (sound _ _) ⟨(idx_map _ hy113), (idx_map _ hy114), trivial⟩ ?_
        refine WA.cond (b := (!((y113.f_Lo == y114.f_Lo) && ((y113.f_Hi == y114.f_Hi) && true)))) rfl (fun hb115 => ?_) (fun hb115 => ?_)
        · have hF := cond_t hF hb115
          refine WA.seq ?_
          refine WA.reg [4] [] [] (env' := [(4, one (.bool false))]) (os' := []) (O := []) (by kernel_rfl) (sound _ _) trivial ?_
          refine WA.ret ?_
          obtain rfl := Option.some.inj hF
          exact out_ret (one (.bool false)) [] (by kernel_rfl) (by kernel_rfl) (by kernel_rfl) (by kernel_rfl) (by decide) rfl rfl
        · have hF := cond_f hF hb115
          refine WA.skip ?_
          refine WA.reg [0, 1, 12, 13] [] [] (env' := [(0, one (.sl (v0.map e_api_Range))), (1, one (.sl (v1.map e_api_Range))), (12, one (.int .i64 (v0.length : Int))), (13, one (.int .i64 (w64 (v111 + 1))))]) (os' := []) (O := []) (by kernel_rfl) (sound _ _) trivial ?_
          exact ⟨m0, Nat.lt_succ_self _, (w64 (v111 + 1)), by kernel_rfl, by kernel_rfl, by rw [hself0] at hF; exact hF⟩
      · have hF := cond_f hF hb112
        refine WA.exit ?_
        refine WA.seq ?_
        refine WA.reg [4] [] [] (env' := [(4, one (.bool true))]) (os' := []) (O := []) (by kernel_rfl) (sound _ _) trivial ?_
        refine WA.ret ?_
        obtain rfl := Option.some.inj hF
        exact out_ret (one (.bool true)) [] (by kernel_rfl) (by kernel_rfl) (by kernel_rfl) (by kernel_rfl) (by decide) rfl rfl
/-! entrepot rex.Quote -/
def F33_j3 (k : Nat) (self2 : (List api_Re) → Int → Option api_Re) (v0 : List UInt8) (v118 : List api_Re) (v120 : Int) (v123 : Bool) : Option api_Re :=
  cond v123 ((F55 k v0 v120).bind fun y125 => (F58 k ([(⟨y125.1, y125.1⟩ : api_Range)] : List api_Range)).bind fun y126 => if v118.length + ([y126] : List api_Re).length ≤ 1073741824 then (self2 (v118 ++ ([y126] : List api_Re)) (w64 (v120 + y125.2))) else none) (((cond ((v118.length : Int) == 1) (if (0 : Int) ≤ 0 ∧ 0 < (v118.length : Int) then (idxL v118 0).bind fun y130 => (some y130) else none) (((some (⟨2, ([] : List api_Range), v118, 0, 0⟩ : api_Re)))))))
def F33_b2 (k : Nat) (self2 : (List api_Re) → Int → Option api_Re) (v0 : List UInt8) (v118 : List api_Re) (v120 : Int) : Option api_Re :=
  (F49 k v0).bind fun y121 => cond y121 ((F33_j3 k self2 v0 v118 v120 (decide (v120 < (v0.length : Int))))) ((F33_j3 k self2 v0 v118 v120 false))
def F33_l2 (k : Nat) (v0 : List UInt8) : Nat → (List api_Re) → Int → Option api_Re
  | 0, _, _ => none
  | m_ + 1, v118, v120 => F33_b2 k (F33_l2 k v0 m_) v0 v118 v120
def F33 (k : Nat) (v0 : List UInt8) : Option api_Re :=
  (((F33_l2 k v0 k ([] : List api_Re) 0)))
theorem F33_ok (k : Nat) (v0 : List UInt8) (r : api_Re) (hF : F33 k v0 = some r) : Sim Tryz.prog GL0 33 [one (.str v0)] [] (.val true (pvL (e_api_Re r))) [] := by
  refine sim_of [] Tryz.func33 rfl (by kernel_rfl) (by kernel_rfl) ?_
  show WA _ _ 40 _ _ _
  refine WA.seq ?_
  refine WA.reg [0, 2] [102] [(0, .obj 102)] (env' := [(0, one (.str v0)), (2, .val false [.ptr 102 1 0 0])]) (os' := [(102, .box (pvL (e_api_Re (⟨0, ([] : List api_Range), ([] : List api_Re), 0, 0⟩ : api_Re))))]) (O := []) (by kernel_rfl) (sound _ _) trivial ?_
  refine WA.seq ?_
  refine WA.reg [0, 2, 3] [102, 103] [(0, .obj 103)] (env' := [(0, one (.str v0)), (2, .val false [.ptr 102 1 0 0]), (3, .val false [.arr 103 0])]) (os' := [(102, .box (pvL (e_api_Re (⟨0, ([] : List api_Range), ([] : List api_Re), 0, 0⟩ : api_Re)))), (103, .arr 5 (es_api_Re ([] : List api_Re)))]) (O := []) (by kernel_rfl) (sound _ _) trivial ?_
  refine WA.seq ?_
  refine WA.seq ?_
  refine WA.reg [0, 2, 3, 4] [102, 103] [] (env' := [(0, one (.str v0)), (2, .val false [.ptr 102 1 0 0]), (3, .val false [.arr 103 0]), (4, one (.int .i64 0))]) (os' := [(102, .box (pvL (e_api_Re (⟨0, ([] : List api_Range), ([] : List api_Re), 0, 0⟩ : api_Re)))), (103, .arr 5 (es_api_Re ([] : List api_Re)))]) (O := []) (by kernel_rfl) (sound _ _) trivial ?_
  refine WA.block ?_
  refine WA.loop (fun m s_ => ∃ (v118 : List api_Re) (v119 : Nat) (v120 : Int), pickE s_.env [0, 2, 3, 4] = [(0, one (.str v0)), (2, .val false [.ptr 102 1 0 0]), (3, .val false [.arr 103 v119]), (4, one (.int .i64 v120))] ∧ pickE s_.os [102, 103] = [(102, .box (pvL (e_api_Re (⟨0, ([] : List api_Range), ([] : List api_Re), 0, 0⟩ : api_Re)))), (103, .arr 5 (es_api_Re v118))] ∧ v119 = (v118 : List _).length ∧ F33_l2 k v0 m v118 v120 = some r) k ⟨([] : List api_Re), 0, 0, by kernel_rfl, by kernel_rfl, (by first | omega | (simp only [List.length_map, List.length_append, List.length_cons, List.length_nil, List.length_set, List.length_replicate, List.length_take, List.length_drop, lens_api_Re]; done) | (simp only [List.length_map, List.length_append, List.length_cons, List.length_nil, List.length_set, List.length_replicate, List.length_take, List.length_drop, lens_api_Re]; omega) | (simp only [List.length_map, List.length_append, List.length_cons, List.length_nil, List.length_set, List.length_replicate, List.length_take, List.length_drop, lens_api_Re] at *; omega)), hF⟩ ?_
  clear hF
  rintro m2 s_ ⟨v118, v119, v120, he, ho, hn_v119, hF⟩
  refine WA.keep _ _ he ho ?_
  clear he ho
  cases m2 with
  | zero => cases hF
  | succ m2 =>
    obtain ⟨self2, hself2⟩ : ∃ g, g = F33_l2 k v0 m2 := ⟨_, rfl⟩
    have hF : F33_b2 k self2 v0 v118 v120 = some r := by rw [hself2]; exact hF
    refine WA.seq ?_
    refine WA.join (fun s_ => ∃ (v123 : Bool), pickE s_.env [0, 2, 3, 4, 14] = [(0, one (.str v0)), (2, .val false [.ptr 102 1 0 0]), (3, .val false [.arr 103 v119]), (4, one (.int .i64 v120)), (14, one (.bool v123))] ∧ pickE s_.os [102, 103] = [(102, .box (pvL (e_api_Re (⟨0, ([] : List api_Range), ([] : List api_Re), 0, 0⟩ : api_Re)))), (103, .arr 5 (es_api_Re v118))] ∧ F33_j3 k self2 v0 v118 v120 v123 = some r) ?_ ?_
    · rintro s_ ⟨v123, he, ho, hF⟩
      refine WA.keep _ _ he ho ?_
      clear he ho
      refine WA.cond (b := v123) rfl (fun hb124 => ?_) (fun hb124 => ?_)
      · have hF := cond_t hF hb124
        refine WA.skip ?_
        refine WA.block ?_
        refine WA.seq ?_
        obtain ⟨y125, hy125, hF⟩ := bind_some hF
        refine WA.reg [0, 2, 3, 4, 5, 6] [102, 103] [(2, .callR [] (.tup [(false, [.pv (.int .i64 y125.1)]), (false, [.pv (.int .i64 y125.2)])]))] (env' := [(0, one (.str v0)), (2, .val false [.ptr 102 1 0 0]), (3, .val false [.arr 103 v119]), (4, one (.int .i64 v120)), (5, one (.int .i64 y125.1)), (6, one (.int .i64 y125.2))]) (os' := [(102, .box (pvL (e_api_Re (⟨0, ([] : List api_Range), ([] : List api_Re), 0, 0⟩ : api_Re)))), (103, .arr 5 (es_api_Re v118))]) (O := [Sim Tryz.prog GL0 55 [one (.str v0), one (.int .i64 v120)] [] (.tup [(false, [.pv (.int .i64 y125.1)]), (false, [.pv (.int .i64 y125.2)])]) [], ([] : List Nat).Nodup]) (by kernel_rfl) (sound _ _) ⟨(F55_ok k _ _ _ hy125), (by decide), trivial⟩ ?_
        refine WA.seq ?_
        obtain ⟨y126, hy126, hF⟩ := bind_some hF
        obtain ⟨hc127, hF⟩ := if_some hF
        refine WA.regM (α := (List (List PV)) × (List (List PV))) (raw := (((es_api_Re v118) ++ ([(e_api_Re y126)])), [(e_api_Re y126)])) (can := ((es_api_Re (v118 ++ ([y126] : List api_Re))), (es_api_Re ([y126] : List api_Re)))) (fun m_ => ([(0, one (.str v0)), (2, .val false [.ptr 102 1 0 0]), (3, .val false [.arr 103 (v119 + 1)]), (4, one (.int .i64 v120)), (6, one (.int .i64 y125.2))], [(102, .box (pvL (e_api_Re (⟨0, ([] : List api_Range), ([] : List api_Re), 0, 0⟩ : api_Re)))), (103, .arr 5 m_.1)], [Sim Tryz.prog GL0 58 [one (.sl (([(⟨y125.1, y125.1⟩ : api_Range)] : List api_Range).map e_api_Range))] [] (.val true (pvL (e_api_Re y126))) [], ([] : List Nat).Nodup, v119 = (es_api_Re v118).length, (es_api_Re v118).length + m_.2.length ≤ 1073741824, ∀ es, es ∈ m_.2 → es.length = 5])) (pair_eq (by first | (simp only [len_map, app_map, take_map, drop_map, set_map, rep_map, lens_api_Re, app_api_Re, take_api_Re, drop_api_Re, set_api_Re, es_api_Re, e0_eq_api_Re]; done) | (simp only [List.map_append, List.map_cons, List.map_nil, List.map_take, List.map_drop, List.map_set, List.map_replicate, List.length_map, es_map_api_Re, e0_eq_api_Re]; done)) (by first | (simp only [len_map, app_map, take_map, drop_map, set_map, rep_map, lens_api_Re, app_api_Re, take_api_Re, drop_api_Re, set_api_Re, es_api_Re, e0_eq_api_Re]; done) | (simp only [List.map_append, List.map_cons, List.map_nil, List.map_take, List.map_drop, List.map_set, List.map_replicate, List.length_map, es_map_api_Re, e0_eq_api_Re]; done))) [0, 2, 3, 4, 6] [102, 103] [(5, .callR [] (.val true (pvL (e_api_Re y126))))] (env' := [(0, one (.str v0)), (2, .val false [.ptr 102 1 0 0]), (3, .val false [.arr 103 (v119 + 1)]), (4, one (.int .i64 v120)), (6, one (.int .i64 y125.2))]) (os' := [(102, .box (pvL (e_api_Re (⟨0, ([] : List api_Range), ([] : List api_Re), 0, 0⟩ : api_Re)))), (103, .arr 5 (es_api_Re (v118 ++ ([y126] : List api_Re))))]) (O := [Sim Tryz.prog GL0 58 [one (.sl (([(⟨y125.1, y125.1⟩ : api_Range)] : List api_Range).map e_api_Range))] [] (.val true (pvL (e_api_Re y126))) [], ([] : List Nat).Nodup, v119 = (es_api_Re v118).length, (es_api_Re v118).length + (es_api_Re ([y126] : List api_Re)).length ≤ 1073741824, ∀ es, es ∈ (es_api_Re ([y126] : List api_Re)) → es.length = 5]) (by kernel_rfl) (by kernel_rfl) (sound _ _) ⟨(F58_ok k _ _ hy126), (by decide), (by first | omega | (simp only [List.length_map, List.length_append, List.length_cons, List.length_nil, List.length_set, List.length_replicate, List.length_take, List.length_drop, lens_api_Re]; done) | (simp only [List.length_map, List.length_append, List.length_cons, List.length_nil, List.length_set, List.length_replicate, List.length_take, List.length_drop, lens_api_Re]; omega) | (simp only [List.length_map, List.length_append, List.length_cons, List.length_nil, List.length_set, List.length_replicate, List.length_take, List.length_drop, lens_api_Re] at *; omega)), (by first | exact hc127 | (simp only [List.length_map, lens_api_Re] ; exact hc127)), (len_api_Re ([y126] : List api_Re)), trivial⟩ ?_
        refine WA.reg [0, 2, 3, 4] [102, 103] [] (env' := [(0, one (.str v0)), (2, .val false [.ptr 102 1 0 0]), (3, .val false [.arr 103 (v119 + 1)]), (4, one (.int .i64 (w64 (v120 + y125.2))))]) (os' := [(102, .box (pvL (e_api_Re (⟨0, ([] : List api_Range), ([] : List api_Re), 0, 0⟩ : api_Re)))), (103, .arr 5 (es_api_Re (v118 ++ ([y126] : List api_Re))))]) (O := []) (by kernel_rfl) (sound _ _) trivial ?_
        exact ⟨m2, Nat.lt_succ_self _, (v118 ++ ([y126] : List api_Re)), (v119 + 1), (w64 (v120 + y125.2)), by kernel_rfl, by kernel_rfl, (by first | omega | (simp only [List.length_map, List.length_append, List.length_cons, List.length_nil, List.length_set, List.length_replicate, List.length_take, List.length_drop, lens_api_Re]; done) | (simp only [List.length_map, List.length_append, List.length_cons, List.length_nil, List.length_set, List.length_replicate, List.length_take, List.length_drop, lens_api_Re]; omega) | (simp only [List.length_map, List.length_append, List.length_cons, List.length_nil, List.length_set, List.length_replicate, List.length_take, List.length_drop, lens_api_Re] at *; omega)), by rw [hself2] at hF; exact hF⟩
      · have hF := cond_f hF hb124
        refine WA.exit ?_
        refine WA.seq ?_
        refine WA.seq ?_
        refine WA.regM (α := Int) (raw := ((v119 : Nat) : Int)) (can := (v118.length : Int)) (fun m_ => ([(2, .val false [.ptr 102 1 0 0]), (3, .val false [.arr 103 v119]), (34, one (.bool (m_ == 1)))], [(102, .box (pvL (e_api_Re (⟨0, ([] : List api_Range), ([] : List api_Re), 0, 0⟩ : api_Re)))), (103, .arr 5 (es_api_Re v118))], [])) ((by first | (simp only [List.length_map, List.length_append, List.length_cons, List.length_nil, List.length_set, List.length_replicate, List.length_take, List.length_drop, lens_api_Re]; done) | (simp only [List.length_map, List.length_append, List.length_cons, List.length_nil, List.length_set, List.length_replicate, List.length_take, List.length_drop, lens_api_Re]; omega) | omega)) [2, 3, 34] [102, 103] [] (env' := [(2, .val false [.ptr 102 1 0 0]), (3, .val false [.arr 103 v119]), (34, one (.bool ((v118.length : Int) == 1)))]) (os' := [(102, .box (pvL (e_api_Re (⟨0, ([] : List api_Range), ([] : List api_Re), 0, 0⟩ : api_Re)))), (103, .arr 5 (es_api_Re v118))]) (O := []) (by kernel_rfl) (by kernel_rfl) (sound _ _) trivial ?_
        refine WA.cond (b := ((v118.length : Int) == 1)) rfl (fun hb128 => ?_) (fun hb128 => ?_)
        · have hF := cond_t hF hb128
          refine WA.seq ?_
          obtain ⟨hc129, hF⟩ := if_some hF
          obtain ⟨y130, hy130, hF⟩ := bind_some hF
          refine WA.reg [2] [102] [(2, .cells (e_api_Re y130))] (env' := [(2, .val false [.ptr 102 1 0 0])]) (os' := [(102, .box (pvL (e_api_Re y130)))]) (O := [v119 = (es_api_Re v118).length, (0 : Int) ≤ 0, 0 < ((v119 : Nat) : Int), v119 = (es_api_Re v118).length, (es_api_Re v118)[Int.toNat 0]? = some (e_api_Re y130)]) (by kernel_rfl) (sound _ _) ⟨(by first | omega | (simp only [List.length_map, List.length_append, List.length_cons, List.length_nil, List.length_set, List.length_replicate, List.length_take, List.length_drop, lens_api_Re]; done) | (simp only [List.length_map, List.length_append, List.length_cons, List.length_nil, List.length_set, List.length_replicate, List.length_take, List.length_drop, lens_api_Re]; omega) | (simp only [List.length_map, List.length_append, List.length_cons, List.length_nil, List.length_set, List.length_replicate, List.length_take, List.length_drop, lens_api_Re] at *; omega)), hc129.1, (by have h_ := hc129.2; (try simp only [List.length_map, List.length_append, List.length_cons, List.length_nil, List.length_set, List.length_replicate, List.length_take, List.length_drop, lens_api_Re] at h_ ⊢); omega), (by first | omega | (simp only [List.length_map, List.length_append, List.length_cons, List.length_nil, List.length_set, List.length_replicate, List.length_take, List.length_drop, lens_api_Re]; done) | (simp only [List.length_map, List.length_append, List.length_cons, List.length_nil, List.length_set, List.length_replicate, List.length_take, List.length_drop, lens_api_Re]; omega) | (simp only [List.length_map, List.length_append, List.length_cons, List.length_nil, List.length_set, List.length_replicate, List.length_take, List.length_drop, lens_api_Re] at *; omega)), (get_of_idx (idx_api_Re hy130)), trivial⟩ ?_
          refine WA.ret ?_
          obtain rfl := Option.some.inj hF
          exact out_ret (.val true (pvL (e_api_Re y130))) [] (by kernel_rfl) (by kernel_rfl) (by kernel_rfl) (by kernel_rfl) (by decide) rfl rfl
        · have hF := cond_f hF hb128
          refine WA.skip ?_
          refine WA.seq ?_
          refine WA.freeze 103 3 (s := 5) (n := v119) (els := (es_api_Re v118)) rfl rfl (by first | omega | (simp only [List.length_map, List.length_append, List.length_cons, List.length_nil, List.length_set, List.length_replicate, List.length_take, List.length_drop, lens_api_Re]; done) | (simp only [List.length_map, List.length_append, List.length_cons, List.length_nil, List.length_set, List.length_replicate, List.length_take, List.length_drop, lens_api_Re]; omega) | (simp only [List.length_map, List.length_append, List.length_cons, List.length_nil, List.length_set, List.length_replicate, List.length_take, List.length_drop, lens_api_Re] at *; omega)) ?_
          refine WA.keep [2, 3] [102] (env' := [(2, .val false [.ptr 102 1 0 0]), (3, one (.sl (es_api_Re v118)))]) (os' := [(102, .box (pvL (e_api_Re (⟨0, ([] : List api_Range), ([] : List api_Re), 0, 0⟩ : api_Re))))]) (by kernel_rfl) (by kernel_rfl) ?_
          refine WA.reg [2] [102] [] (env' := [(2, .val false [.ptr 102 1 0 0])]) (os' := [(102, .box (pvL (e_api_Re (⟨2, ([] : List api_Range), v118, 0, 0⟩ : api_Re))))]) (O := []) (by kernel_rfl) (sound _ _) trivial ?_
          refine WA.ret ?_
          obtain rfl := Option.some.inj hF
          exact out_ret (.val true (pvL (e_api_Re (⟨2, ([] : List api_Range), v118, 0, 0⟩ : api_Re)))) [] (by kernel_rfl) (by kernel_rfl) (by kernel_rfl) (by kernel_rfl) (by decide) rfl rfl
    · obtain ⟨y121, hy121, hF⟩ := bind_some hF
      rcases Bool.eq_false_or_eq_true y121 with hb122 | hb122
      · have hF := cond_t hF hb122
        refine WA.reg [0, 2, 3, 4, 14] [102, 103] [(1, .callR [] (one (.bool y121))), (2, .bool true)] (env' := [(0, one (.str v0)), (2, .val false [.ptr 102 1 0 0]), (3, .val false [.arr 103 v119]), (4, one (.int .i64 v120)), (14, one (.bool (decide (v120 < (v0.length : Int)))))]) (os' := [(102, .box (pvL (e_api_Re (⟨0, ([] : List api_Range), ([] : List api_Re), 0, 0⟩ : api_Re)))), (103, .arr 5 (es_api_Re v118))]) (O := [Sim Tryz.prog GL0 49 [one (.str v0)] [] (one (.bool y121)) [], ([] : List Nat).Nodup, y121 = true]) (by kernel_rfl) (sound _ _) ⟨(F49_ok k _ _ hy121), (by decide), hb122, trivial⟩ ?_
        exact ⟨(decide (v120 < (v0.length : Int))), by kernel_rfl, by kernel_rfl, hF⟩
      · have hF := cond_f hF hb122
        refine WA.reg [0, 2, 3, 4, 14] [102, 103] [(1, .callR [] (one (.bool y121))), (2, .bool false)] (env' := [(0, one (.str v0)), (2, .val false [.ptr 102 1 0 0]), (3, .val false [.arr 103 v119]), (4, one (.int .i64 v120)), (14, one (.bool false))]) (os' := [(102, .box (pvL (e_api_Re (⟨0, ([] : List api_Range), ([] : List api_Re), 0, 0⟩ : api_Re)))), (103, .arr 5 (es_api_Re v118))]) (O := [Sim Tryz.prog GL0 49 [one (.str v0)] [] (one (.bool y121)) [], ([] : List Nat).Nodup, y121 = false]) (by kernel_rfl) (sound _ _) ⟨(F49_ok k _ _ hy121), (by decide), hb122, trivial⟩ ?_
        exact ⟨false, by kernel_rfl, by kernel_rfl, hF⟩
/-! entrepot rex.Any -/
def F34 (k : Nat) : Option api_Re :=
  (F59 k).bind fun y101 => (F58 k y101).bind fun y102 => (some (⟨4, ([] : List api_Range), ([y102] : List api_Re), 0, (-1)⟩ : api_Re))
theorem F34_ok (k : Nat) (r : api_Re) (hF : F34 k = some r) : Sim Tryz.prog GL0 34 [] [] (.val true (pvL (e_api_Re r))) [] := by
  refine sim_of [] Tryz.func34 rfl (by kernel_rfl) (by kernel_rfl) ?_
  show WA _ _ 5 _ _ _
  refine WA.seq ?_
  refine WA.reg [0] [100] [(0, .obj 100)] (env' := [(0, .val false [.ptr 100 1 0 0])]) (os' := [(100, .box (pvL (e_api_Re (⟨0, ([] : List api_Range), ([] : List api_Re), 0, 0⟩ : api_Re))))]) (O := []) (by kernel_rfl) (sound _ _) trivial ?_
  refine WA.seq ?_
  obtain ⟨y101, hy101, hF⟩ := bind_some hF
  obtain ⟨y102, hy102, hF⟩ := bind_some hF
  refine WA.regM (α := (List (List PV))) (raw := [(e_api_Re y102)]) (can := (es_api_Re ([y102] : List api_Re))) (fun m_ => ([(0, .val false [.ptr 100 1 0 0])], [(100, .box (pvL ([.int .i64 4] ++ [.sl (([] : List api_Range).map e_api_Range)] ++ [.sl m_] ++ [.int .i64 0] ++ [.int .i64 (-1)])))], [Sim Tryz.prog GL0 59 [] [] (one (.sl (y101.map e_api_Range))) [], ([] : List Nat).Nodup, Sim Tryz.prog GL0 58 [one (.sl (y101.map e_api_Range))] [] (.val true (pvL (e_api_Re y102))) [], ([] : List Nat).Nodup])) ((by first | (simp only [len_map, app_map, take_map, drop_map, set_map, rep_map, lens_api_Re, app_api_Re, take_api_Re, drop_api_Re, set_api_Re, es_api_Re, e0_eq_api_Re]; done) | (simp only [List.map_append, List.map_cons, List.map_nil, List.map_take, List.map_drop, List.map_set, List.map_replicate, List.length_map, es_map_api_Re, e0_eq_api_Re]; done))) [0] [100] [(0, .callR [] (one (.sl (y101.map e_api_Range)))), (1, .callR [] (.val true (pvL (e_api_Re y102))))] (env' := [(0, .val false [.ptr 100 1 0 0])]) (os' := [(100, .box (pvL ([.int .i64 4] ++ [.sl (([] : List api_Range).map e_api_Range)] ++ [.sl (es_api_Re ([y102] : List api_Re))] ++ [.int .i64 0] ++ [.int .i64 (-1)])))]) (O := [Sim Tryz.prog GL0 59 [] [] (one (.sl (y101.map e_api_Range))) [], ([] : List Nat).Nodup, Sim Tryz.prog GL0 58 [one (.sl (y101.map e_api_Range))] [] (.val true (pvL (e_api_Re y102))) [], ([] : List Nat).Nodup]) (by kernel_rfl) (by kernel_rfl) (sound _ _) ⟨(F59_ok k _ hy101), (by decide), (F58_ok k _ _ hy102), (by decide), trivial⟩ ?_
  refine WA.ret ?_
  obtain rfl := Option.some.inj hF
  exact out_ret (.val true (pvL (e_api_Re (⟨4, ([] : List api_Range), ([y102] : List api_Re), 0, (-1)⟩ : api_Re)))) [] (by kernel_rfl) (by kernel_rfl) (by kernel_rfl) (by kernel_rfl) (by decide) rfl rfl
/-! entrepot rex.norm 1 -/
def F104 (k : Nat) (v0 : api_Range) (v1 : api_Range) : Option Int :=
  ((some (w64 (v0.f_Lo - v1.f_Lo))))
theorem F104_ok (k : Nat) (v0 : api_Range) (v1 : api_Range) (r : Int) (hF : F104 k v0 v1 = some r) : Sim Tryz.prog GL0 104 [.val true (pvL (e_api_Range v0)), .val true (pvL (e_api_Range v1))] [] (one (.int .i64 r)) [] := by
  refine sim_of [] Tryz.func104 rfl (by kernel_rfl) (by kernel_rfl) ?_
  show WA _ _ 10 _ _ _
  refine WA.seq ?_
  refine WA.reg [2, 3] [102, 103] [(0, .obj 102), (1, .obj 103)] (env' := [(2, .val false [.ptr 102 1 0 0]), (3, .val false [.ptr 103 1 0 0])]) (os' := [(102, .box (pvL (e_api_Range v0))), (103, .box (pvL (e_api_Range v1)))]) (O := []) (by kernel_rfl) (sound _ _) trivial ?_
  refine WA.seq ?_
  refine WA.reg [4] [] [] (env' := [(4, one (.int .i64 (w64 (v0.f_Lo - v1.f_Lo))))]) (os' := []) (O := []) (by kernel_rfl) (sound _ _) trivial ?_
  refine WA.ret ?_
  obtain rfl := Option.some.inj hF
  exact out_ret (one (.int .i64 (w64 (v0.f_Lo - v1.f_Lo)))) [] (by kernel_rfl) (by kernel_rfl) (by kernel_rfl) (by kernel_rfl) (by decide) rfl rfl
end Go.Proofs.YthilboheomikjaaGreatDoor
