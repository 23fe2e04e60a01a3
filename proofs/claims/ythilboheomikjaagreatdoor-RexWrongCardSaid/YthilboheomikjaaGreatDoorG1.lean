import Derived.Test.YthilboheomikjaaGreatDoorP1
import Derived.Test.YthilboheomikjaaGreatDoorProg
namespace Go.Proofs.YthilboheomikjaaGreatDoor
open Go.AL
set_option linter.unusedVariables false
set_option linter.unusedSimpArgs false
set_option maxRecDepth 100000

structure api_Range where
  f_Lo : Int
  f_Hi : Int
def e_api_Range (x : api_Range) : List PV := [.int .i64 x.f_Lo, .int .i64 x.f_Hi]
theorem len_api_Range (l : List api_Range) : ∀ es, es ∈ l.map e_api_Range → es.length = 2 := fun es h => by obtain ⟨y, _, rfl⟩ := List.mem_map.1 h; rfl
structure api_Re where
  f_Kind : Int
  f_Set : List api_Range
  f_L : List api_Re
  f_Min : Int
  f_Max : Int
mutual
def e0_api_Re : api_Re → List PV
  | ⟨x0, x1, x2, x3, x4⟩ => [.int .i64 x0, .sl (x1.map e_api_Range), .sl (es_api_Re x2), .int .i64 x3, .int .i64 x4]
def es_api_Re : List api_Re → List (List PV)
  | [] => []
  | x :: l => e0_api_Re x :: es_api_Re l
end
def e_api_Re (x : api_Re) : List PV := [.int .i64 x.f_Kind, .sl (x.f_Set.map e_api_Range), .sl (es_api_Re x.f_L), .int .i64 x.f_Min, .int .i64 x.f_Max]
theorem e0_eq_api_Re (x : api_Re) : e0_api_Re x = e_api_Re x := by cases x; simp [e0_api_Re, e_api_Re]
theorem es_map_api_Re (l : List api_Re) : es_api_Re l = l.map e_api_Re := by induction l with | nil => rfl | cons x l ih => simp [es_api_Re, ih, e0_eq_api_Re]
theorem idx_api_Re {l : List api_Re} {i : Int} {x : api_Re} (h : idxL l i = some x) : idxL (es_api_Re l) i = some (e_api_Re x) := by rw [es_map_api_Re]; exact idx_map _ h
theorem lens_api_Re (l : List api_Re) : (es_api_Re l).length = l.length := by rw [es_map_api_Re, List.length_map]
theorem app_api_Re (a b : List api_Re) : es_api_Re a ++ es_api_Re b = es_api_Re (a ++ b) := by simp only [es_map_api_Re, e0_eq_api_Re]; exact app_map .. 
theorem take_api_Re (l : List api_Re) (n : Nat) : (es_api_Re l).take n = es_api_Re (l.take n) := by simp only [es_map_api_Re, e0_eq_api_Re]; exact take_map .. 
theorem drop_api_Re (l : List api_Re) (n : Nat) : (es_api_Re l).drop n = es_api_Re (l.drop n) := by simp only [es_map_api_Re, e0_eq_api_Re]; exact drop_map .. 
theorem set_api_Re (l : List api_Re) (i : Nat) (x : api_Re) : (es_api_Re l).set i (e0_api_Re x) = es_api_Re (l.set i x) := by simp only [es_map_api_Re, e0_eq_api_Re]; exact set_map .. 
theorem len_api_Re (l : List api_Re) : ∀ es, es ∈ es_api_Re l → es.length = 5 := fun es h => by rw [es_map_api_Re] at h; obtain ⟨y, _, rfl⟩ := List.mem_map.1 h; rfl
/-! entrepot entrepotref1.Point -/
def F67_j0 (v104 : Bool) : Option Bool :=
  some v104
def F67 (k : Nat) (v0 : Int) : Option Bool :=
  (cond (decide (v0 ≥ 0)) (cond (decide (v0 ≤ 1114111)) (cond (decide (v0 < 55296)) ((F67_j0 true)) ((F67_j0 (decide (v0 > 57343))))) ((F67_j0 false))) ((F67_j0 false)))
theorem F67_ok (k : Nat) (v0 : Int) (r : Bool) (hF : F67 k v0 = some r) : Sim Tryz.prog GL0 67 [one (.int .i64 v0)] [] (one (.bool r)) [] := by
  refine sim_of [] Tryz.func67 rfl (by kernel_rfl) (by kernel_rfl) ?_
  show WA _ _ 17 _ _ _
  refine WA.seq ?_
  refine WA.reg [0] [] [] (env' := [(0, one (.int .i64 v0))]) (os' := []) (O := []) (by kernel_rfl) (sound _ _) trivial ?_
  refine WA.join (fun s_ => ∃ (v104 : Bool), pickE s_.env [2] = [(2, one (.bool v104))] ∧ pickE s_.os [] = [] ∧ F67_j0 v104 = some r) ?_ ?_
  · rintro s_ ⟨v104, he, ho, hF⟩
    refine WA.keep _ _ he ho ?_
    clear he ho
    refine WA.ret ?_
    obtain rfl := Option.some.inj hF
    exact out_ret (one (.bool v104)) [] (by kernel_rfl) (by kernel_rfl) (by kernel_rfl) (by kernel_rfl) (by decide) rfl rfl
  · rcases Bool.eq_false_or_eq_true (decide (v0 ≥ 0)) with hb101 | hb101
    · have hF := cond_t hF hb101
      rcases Bool.eq_false_or_eq_true (decide (v0 ≤ 1114111)) with hb102 | hb102
      · have hF := cond_t hF hb102
        rcases Bool.eq_false_or_eq_true (decide (v0 < 55296)) with hb103 | hb103
        · have hF := cond_t hF hb103
          refine WA.reg [2] [] [(2, .bool true), (6, .bool true), (9, .bool true)] (env' := [(2, one (.bool true))]) (os' := []) (O := [(decide (v0 ≥ 0)) = true, (decide (v0 ≤ 1114111)) = true, (decide (v0 < 55296)) = true]) (by kernel_rfl) (sound _ _) ⟨hb101, hb102, hb103, trivial⟩ ?_
          exact ⟨true, by kernel_rfl, by kernel_rfl, hF⟩
        · have hF := cond_f hF hb103
          refine WA.reg [2] [] [(2, .bool true), (6, .bool true), (9, .bool false)] (env' := [(2, one (.bool (decide (v0 > 57343))))]) (os' := []) (O := [(decide (v0 ≥ 0)) = true, (decide (v0 ≤ 1114111)) = true, (decide (v0 < 55296)) = false]) (by kernel_rfl) (sound _ _) ⟨hb101, hb102, hb103, trivial⟩ ?_
          exact ⟨(decide (v0 > 57343)), by kernel_rfl, by kernel_rfl, hF⟩
      · have hF := cond_f hF hb102
        refine WA.reg [2] [] [(2, .bool true), (6, .bool false)] (env' := [(2, one (.bool false))]) (os' := []) (O := [(decide (v0 ≥ 0)) = true, (decide (v0 ≤ 1114111)) = false]) (by kernel_rfl) (sound _ _) ⟨hb101, hb102, trivial⟩ ?_
        exact ⟨false, by kernel_rfl, by kernel_rfl, hF⟩
    · have hF := cond_f hF hb101
      refine WA.reg [2] [] [(2, .bool false)] (env' := [(2, one (.bool false))]) (os' := []) (O := [(decide (v0 ≥ 0)) = false]) (by kernel_rfl) (sound _ _) ⟨hb101, trivial⟩ ?_
      exact ⟨false, by kernel_rfl, by kernel_rfl, hF⟩
/-! entrepot entrepotref1.Next -/
def F46_j6 (v116 : Int) (v129 : Int) (v137 : Bool) : Option (Int × Int) :=
  cond v137 ((some ((-1), 1))) (((some (v129, v116))))
def F46_b5 (k : Nat) (self5 : Int → Int → Option (Int × Int)) (v0 : List UInt8) (v1 : Int) (v116 : Int) (v117 : Int) (v129 : Int) (v130 : Int) : Option (Int × Int) :=
  (cond (decide (v130 < v116)) ((idxL v0 (w64 (v1 + v130))).bind fun y132 => (cond ((bitsI .and .u8 (y132.toNat : Int) 192) != 128) ((some ((-1), 1))) ((idxL v0 (w64 (v1 + v130))).bind fun y134 => (self5 (w64 ((w64 (v129 * 64)) + (w64 (bitsI .and .u8 (y134.toNat : Int) 63)))) (w64 (v130 + 1)))))) ((cond (decide (v129 < v117)) ((F46_j6 v116 v129 true)) ((F67 k v129).bind fun y136 => (F46_j6 v116 v129 (!y136))))))
def F46_l5 (k : Nat) (v0 : List UInt8) (v1 : Int) (v116 : Int) (v117 : Int) : Nat → Int → Int → Option (Int × Int)
  | 0, _, _ => none
  | m_ + 1, v129, v130 => F46_b5 k (F46_l5 k v0 v1 v116 v117 m_) v0 v1 v116 v117 v129 v130
def F46_j4 (k : Nat) (v0 : List UInt8) (v1 : Int) (v115 : Int) (v116 : Int) (v117 : Int) : Option (Int × Int) :=
  (cond (decide ((w64 (v1 + v116)) > (v0.length : Int))) ((some ((-1), 1))) (((F46_l5 k v0 v1 v116 v117 k v115 1))))
def F46_j3 (k : Nat) (v0 : List UInt8) (v1 : Int) (y104 : UInt8) (v113 : Bool) : Option (Int × Int) :=
  cond v113 ((F46_j4 k v0 v1 (bitsI .and .i64 (w64 (y104.toNat : Int)) 7) 4 65536)) ((some ((-1), 1)))
def F46_j2 (k : Nat) (v0 : List UInt8) (v1 : Int) (y104 : UInt8) (v110 : Bool) : Option (Int × Int) :=
  cond v110 ((F46_j4 k v0 v1 (bitsI .and .i64 (w64 (y104.toNat : Int)) 15) 3 2048)) (cond (decide ((w64 (y104.toNat : Int)) ≥ 240)) ((F46_j3 k v0 v1 y104 (decide ((w64 (y104.toNat : Int)) < 248)))) ((F46_j3 k v0 v1 y104 false)))
def F46_j1 (k : Nat) (v0 : List UInt8) (v1 : Int) (y104 : UInt8) (v107 : Bool) : Option (Int × Int) :=
  cond v107 ((F46_j4 k v0 v1 (bitsI .and .i64 (w64 (y104.toNat : Int)) 31) 2 128)) (cond (decide ((w64 (y104.toNat : Int)) ≥ 224)) ((F46_j2 k v0 v1 y104 (decide ((w64 (y104.toNat : Int)) < 240)))) ((F46_j2 k v0 v1 y104 false)))
def F46_j0 (k : Nat) (v0 : List UInt8) (v1 : Int) (v102 : Bool) : Option (Int × Int) :=
  cond v102 ((some (0, 0))) ((idxL v0 v1).bind fun y104 => (((cond (decide ((w64 (y104.toNat : Int)) < 128)) ((some ((w64 (y104.toNat : Int)), 1))) (cond (decide ((w64 (y104.toNat : Int)) ≥ 192)) ((F46_j1 k v0 v1 y104 (decide ((w64 (y104.toNat : Int)) < 224)))) ((F46_j1 k v0 v1 y104 false)))))))
def F46 (k : Nat) (v0 : List UInt8) (v1 : Int) : Option (Int × Int) :=
  (cond (decide (v1 < 0)) ((F46_j0 k v0 v1 true)) ((F46_j0 k v0 v1 (decide (v1 ≥ (v0.length : Int))))))
theorem F46_ok (k : Nat) (v0 : List UInt8) (v1 : Int) (r : Int × Int) (hF : F46 k v0 v1 = some r) : Sim Tryz.prog GL0 46 [one (.str v0), one (.int .i64 v1)] [] (.tup [(false, [.pv (.int .i64 r.1)]), (false, [.pv (.int .i64 r.2)])]) [] := by
  refine sim_of [] Tryz.func46 rfl (by kernel_rfl) (by kernel_rfl) ?_
  show WA _ _ 91 _ _ _
  refine WA.seq ?_
  refine WA.reg [0, 1] [] [] (env' := [(0, one (.str v0)), (1, one (.int .i64 v1))]) (os' := []) (O := []) (by kernel_rfl) (sound _ _) trivial ?_
  refine WA.seq ?_
  refine WA.join (fun s_ => ∃ (v102 : Bool), pickE s_.env [0, 1, 17] = [(0, one (.str v0)), (1, one (.int .i64 v1)), (17, one (.bool v102))] ∧ pickE s_.os [] = [] ∧ F46_j0 k v0 v1 v102 = some r) ?_ ?_
  · rintro s_ ⟨v102, he, ho, hF⟩
    refine WA.keep _ _ he ho ?_
    clear he ho
    refine WA.cond (b := v102) rfl (fun hb103 => ?_) (fun hb103 => ?_)
    · have hF := cond_t hF hb103
      refine WA.seq ?_
      refine WA.reg [4, 5] [] [] (env' := [(4, one (.int .i64 0)), (5, one (.int .i64 0))]) (os' := []) (O := []) (by kernel_rfl) (sound _ _) trivial ?_
      refine WA.ret ?_
      obtain rfl := Option.some.inj hF
      exact out_ret (.tup [(false, [.pv (.int .i64 0)]), (false, [.pv (.int .i64 0)])]) [] (by kernel_rfl) (by kernel_rfl) (by kernel_rfl) (by kernel_rfl) (by decide) rfl rfl
    · have hF := cond_f hF hb103
      refine WA.skip ?_
      refine WA.seq ?_
      obtain ⟨y104, hy104, hF⟩ := bind_some hF
      refine WA.reg [0, 1, 6] [] [(2, .num (y104.toNat : Int))] (env' := [(0, one (.str v0)), (1, one (.int .i64 v1)), (6, one (.int .i64 (w64 (y104.toNat : Int))))]) (os' := []) (O := [(idxL v0 v1).map (fun b => (b.toNat : Int)) = some (y104.toNat : Int)]) (by kernel_rfl) (sound _ _) ⟨(by rw [hy104]; rfl), trivial⟩ ?_
      refine WA.seq ?_
      refine WA.reg [0, 1, 6] [] [] (env' := [(0, one (.str v0)), (1, one (.int .i64 v1)), (6, one (.int .i64 (w64 (y104.toNat : Int))))]) (os' := []) (O := []) (by kernel_rfl) (sound _ _) trivial ?_
      refine WA.join (fun s_ => ∃ (v115 : Int) (v116 : Int) (v117 : Int), pickE s_.env [0, 1, 6, 7, 8] = [(0, one (.str v0)), (1, one (.int .i64 v1)), (6, one (.int .i64 v115)), (7, one (.int .i64 v116)), (8, one (.int .i64 v117))] ∧ pickE s_.os [] = [] ∧ F46_j4 k v0 v1 v115 v116 v117 = some r) ?_ ?_
      · rintro s_ ⟨v115, v116, v117, he, ho, hF⟩
        refine WA.keep _ _ he ho ?_
        clear he ho
        refine WA.seq ?_
        refine WA.seq ?_
        refine WA.reg [0, 1, 6, 7, 8, 58] [] [] (env' := [(0, one (.str v0)), (1, one (.int .i64 v1)), (6, one (.int .i64 v115)), (7, one (.int .i64 v116)), (8, one (.int .i64 v117)), (58, one (.bool (decide ((w64 (v1 + v116)) > (v0.length : Int)))))]) (os' := []) (O := []) (by kernel_rfl) (sound _ _) trivial ?_
        refine WA.cond (b := (decide ((w64 (v1 + v116)) > (v0.length : Int)))) rfl (fun hb118 => ?_) (fun hb118 => ?_)
        · have hF := cond_t hF hb118
          refine WA.seq ?_
          refine WA.reg [4, 5] [] [] (env' := [(4, one (.int .i64 (-1))), (5, one (.int .i64 1))]) (os' := []) (O := []) (by kernel_rfl) (sound _ _) trivial ?_
          refine WA.ret ?_
          obtain rfl := Option.some.inj hF
          exact out_ret (.tup [(false, [.pv (.int .i64 (-1))]), (false, [.pv (.int .i64 1)])]) [] (by kernel_rfl) (by kernel_rfl) (by kernel_rfl) (by kernel_rfl) (by decide) rfl rfl
        · have hF := cond_f hF hb118
          refine WA.skip ?_
          refine WA.seq ?_
          refine WA.seq ?_
          refine WA.reg [0, 1, 6, 7, 8, 9] [] [] (env' := [(0, one (.str v0)), (1, one (.int .i64 v1)), (6, one (.int .i64 v115)), (7, one (.int .i64 v116)), (8, one (.int .i64 v117)), (9, one (.int .i64 1))]) (os' := []) (O := []) (by kernel_rfl) (sound _ _) trivial ?_
          refine WA.block ?_
          refine WA.loop (fun m s_ => ∃ (v129 : Int) (v130 : Int), pickE s_.env [0, 1, 6, 7, 8, 9] = [(0, one (.str v0)), (1, one (.int .i64 v1)), (6, one (.int .i64 v129)), (7, one (.int .i64 v116)), (8, one (.int .i64 v117)), (9, one (.int .i64 v130))] ∧ pickE s_.os [] = [] ∧ F46_l5 k v0 v1 v116 v117 m v129 v130 = some r) k ⟨v115, 1, by kernel_rfl, by kernel_rfl, hF⟩ ?_
          clear hF
          rintro m5 s_ ⟨v129, v130, he, ho, hF⟩
          refine WA.keep _ _ he ho ?_
          clear he ho
          cases m5 with
          | zero => cases hF
          | succ m5 =>
            obtain ⟨self5, hself5⟩ : ∃ g, g = F46_l5 k v0 v1 v116 v117 m5 := ⟨_, rfl⟩
            have hF : F46_b5 k self5 v0 v1 v116 v117 v129 v130 = some r := by rw [hself5]; exact hF
            refine WA.seq ?_
            refine WA.seq ?_
            refine WA.reg [0, 1, 6, 7, 8, 9, 61] [] [] (env' := [(0, one (.str v0)), (1, one (.int .i64 v1)), (6, one (.int .i64 v129)), (7, one (.int .i64 v116)), (8, one (.int .i64 v117)), (9, one (.int .i64 v130)), (61, one (.bool (decide (v130 < v116))))]) (os' := []) (O := []) (by kernel_rfl) (sound _ _) trivial ?_
            refine WA.cond (b := (decide (v130 < v116))) rfl (fun hb131 => ?_) (fun hb131 => ?_)
            · have hF := cond_t hF hb131
              refine WA.skip ?_
              refine WA.seq ?_
              refine WA.block ?_
              refine WA.seq ?_
              refine WA.seq ?_
              obtain ⟨y132, hy132, hF⟩ := bind_some hF
              refine WA.reg [0, 1, 6, 7, 8, 9, 70] [] [(4, .num (y132.toNat : Int))] (env' := [(0, one (.str v0)), (1, one (.int .i64 v1)), (6, one (.int .i64 v129)), (7, one (.int .i64 v116)), (8, one (.int .i64 v117)), (9, one (.int .i64 v130)), (70, one (.bool ((bitsI .and .u8 (y132.toNat : Int) 192) != 128)))]) (os' := []) (O := [(idxL v0 (w64 (v1 + v130))).map (fun b => (b.toNat : Int)) = some (y132.toNat : Int)]) (by kernel_rfl) (sound _ _) ⟨(by rw [hy132]; rfl), trivial⟩ ?_
              refine WA.cond (b := ((bitsI .and .u8 (y132.toNat : Int) 192) != 128)) rfl (fun hb133 => ?_) (fun hb133 => ?_)
              · have hF := cond_t hF hb133
                refine WA.seq ?_
                refine WA.reg [4, 5] [] [] (env' := [(4, one (.int .i64 (-1))), (5, one (.int .i64 1))]) (os' := []) (O := []) (by kernel_rfl) (sound _ _) trivial ?_
                refine WA.ret ?_
                obtain rfl := Option.some.inj hF
                exact out_ret (.tup [(false, [.pv (.int .i64 (-1))]), (false, [.pv (.int .i64 1)])]) [] (by kernel_rfl) (by kernel_rfl) (by kernel_rfl) (by kernel_rfl) (by decide) rfl rfl
              · have hF := cond_f hF hb133
                refine WA.skip ?_
                obtain ⟨y134, hy134, hF⟩ := bind_some hF
                refine WA.reg [0, 1, 6, 7, 8, 9] [] [(6, .num (y134.toNat : Int))] (env' := [(0, one (.str v0)), (1, one (.int .i64 v1)), (6, one (.int .i64 (w64 ((w64 (v129 * 64)) + (w64 (bitsI .and .u8 (y134.toNat : Int) 63)))))), (7, one (.int .i64 v116)), (8, one (.int .i64 v117)), (9, one (.int .i64 v130))]) (os' := []) (O := [(idxL v0 (w64 (v1 + v130))).map (fun b => (b.toNat : Int)) = some (y134.toNat : Int)]) (by kernel_rfl) (sound _ _) ⟨(by rw [hy134]; rfl), trivial⟩ ?_
                refine WA.reg [0, 1, 6, 7, 8, 9] [] [] (env' := [(0, one (.str v0)), (1, one (.int .i64 v1)), (6, one (.int .i64 (w64 ((w64 (v129 * 64)) + (w64 (bitsI .and .u8 (y134.toNat : Int) 63)))))), (7, one (.int .i64 v116)), (8, one (.int .i64 v117)), (9, one (.int .i64 (w64 (v130 + 1))))]) (os' := []) (O := []) (by kernel_rfl) (sound _ _) trivial ?_
                exact ⟨m5, Nat.lt_succ_self _, (w64 ((w64 (v129 * 64)) + (w64 (bitsI .and .u8 (y134.toNat : Int) 63)))), (w64 (v130 + 1)), by kernel_rfl, by kernel_rfl, by rw [hself5] at hF; exact hF⟩
            · have hF := cond_f hF hb131
              refine WA.exit ?_
              refine WA.seq ?_
              refine WA.join (fun s_ => ∃ (v137 : Bool), pickE s_.env [6, 7, 88] = [(6, one (.int .i64 v129)), (7, one (.int .i64 v116)), (88, one (.bool v137))] ∧ pickE s_.os [] = [] ∧ F46_j6 v116 v129 v137 = some r) ?_ ?_
              · rintro s_ ⟨v137, he, ho, hF⟩
                refine WA.keep _ _ he ho ?_
                clear he ho
                refine WA.cond (b := v137) rfl (fun hb138 => ?_) (fun hb138 => ?_)
                · have hF := cond_t hF hb138
                  refine WA.seq ?_
                  refine WA.reg [4, 5] [] [] (env' := [(4, one (.int .i64 (-1))), (5, one (.int .i64 1))]) (os' := []) (O := []) (by kernel_rfl) (sound _ _) trivial ?_
                  refine WA.ret ?_
                  obtain rfl := Option.some.inj hF
                  exact out_ret (.tup [(false, [.pv (.int .i64 (-1))]), (false, [.pv (.int .i64 1)])]) [] (by kernel_rfl) (by kernel_rfl) (by kernel_rfl) (by kernel_rfl) (by decide) rfl rfl
                · have hF := cond_f hF hb138
                  refine WA.skip ?_
                  refine WA.seq ?_
                  refine WA.reg [4, 5] [] [] (env' := [(4, one (.int .i64 v129)), (5, one (.int .i64 v116))]) (os' := []) (O := []) (by kernel_rfl) (sound _ _) trivial ?_
                  refine WA.ret ?_
                  obtain rfl := Option.some.inj hF
                  exact out_ret (.tup [(false, [.pv (.int .i64 v129)]), (false, [.pv (.int .i64 v116)])]) [] (by kernel_rfl) (by kernel_rfl) (by kernel_rfl) (by kernel_rfl) (by decide) rfl rfl
              · rcases Bool.eq_false_or_eq_true (decide (v129 < v117)) with hb135 | hb135
                · have hF := cond_t hF hb135
                  refine WA.reg [6, 7, 88] [] [(3, .bool true)] (env' := [(6, one (.int .i64 v129)), (7, one (.int .i64 v116)), (88, one (.bool true))]) (os' := []) (O := [(decide (v129 < v117)) = true]) (by kernel_rfl) (sound _ _) ⟨hb135, trivial⟩ ?_
                  exact ⟨true, by kernel_rfl, by kernel_rfl, hF⟩
                · have hF := cond_f hF hb135
                  obtain ⟨y136, hy136, hF⟩ := bind_some hF
                  refine WA.reg [6, 7, 88] [] [(3, .bool false), (5, .callR [] (one (.bool y136)))] (env' := [(6, one (.int .i64 v129)), (7, one (.int .i64 v116)), (88, one (.bool (!y136)))]) (os' := []) (O := [(decide (v129 < v117)) = false, Sim Tryz.prog GL0 67 [one (.int .i64 v129)] [] (one (.bool y136)) [], ([] : List Nat).Nodup]) (by kernel_rfl) (sound _ _) ⟨hb135, (F67_ok k _ _ hy136), (by decide), trivial⟩ ?_
                  exact ⟨(!y136), by kernel_rfl, by kernel_rfl, hF⟩
      · refine WA.block ?_
        refine WA.seq ?_
        refine WA.reg [0, 1, 6, 22] [] [] (env' := [(0, one (.str v0)), (1, one (.int .i64 v1)), (6, one (.int .i64 (w64 (y104.toNat : Int)))), (22, one (.bool (decide ((w64 (y104.toNat : Int)) < 128))))]) (os' := []) (O := []) (by kernel_rfl) (sound _ _) trivial ?_
        refine WA.cond (b := (decide ((w64 (y104.toNat : Int)) < 128))) rfl (fun hb105 => ?_) (fun hb105 => ?_)
        · have hF := cond_t hF hb105
          refine WA.seq ?_
          refine WA.reg [4, 5] [] [] (env' := [(4, one (.int .i64 (w64 (y104.toNat : Int)))), (5, one (.int .i64 1))]) (os' := []) (O := []) (by kernel_rfl) (sound _ _) trivial ?_
          refine WA.ret ?_
          obtain rfl := Option.some.inj hF
          exact out_ret (.tup [(false, [.pv (.int .i64 (w64 (y104.toNat : Int)))]), (false, [.pv (.int .i64 1)])]) [] (by kernel_rfl) (by kernel_rfl) (by kernel_rfl) (by kernel_rfl) (by decide) rfl rfl
        · have hF := cond_f hF hb105
          refine WA.join (fun s_ => ∃ (v107 : Bool), pickE s_.env [0, 1, 6, 26] = [(0, one (.str v0)), (1, one (.int .i64 v1)), (6, one (.int .i64 (w64 (y104.toNat : Int)))), (26, one (.bool v107))] ∧ pickE s_.os [] = [] ∧ F46_j1 k v0 v1 y104 v107 = some r) ?_ ?_
          · rintro s_ ⟨v107, he, ho, hF⟩
            refine WA.keep _ _ he ho ?_
            clear he ho
            refine WA.cond (b := v107) rfl (fun hb108 => ?_) (fun hb108 => ?_)
            · have hF := cond_t hF hb108
              refine WA.reg [0, 1, 6, 7, 8] [] [] (env' := [(0, one (.str v0)), (1, one (.int .i64 v1)), (6, one (.int .i64 (bitsI .and .i64 (w64 (y104.toNat : Int)) 31))), (7, one (.int .i64 2)), (8, one (.int .i64 128))]) (os' := []) (O := []) (by kernel_rfl) (sound _ _) trivial ?_
              exact ⟨(bitsI .and .i64 (w64 (y104.toNat : Int)) 31), 2, 128, by kernel_rfl, by kernel_rfl, hF⟩
            · have hF := cond_f hF hb108
              refine WA.join (fun s_ => ∃ (v110 : Bool), pickE s_.env [0, 1, 6, 35] = [(0, one (.str v0)), (1, one (.int .i64 v1)), (6, one (.int .i64 (w64 (y104.toNat : Int)))), (35, one (.bool v110))] ∧ pickE s_.os [] = [] ∧ F46_j2 k v0 v1 y104 v110 = some r) ?_ ?_
              · rintro s_ ⟨v110, he, ho, hF⟩
                refine WA.keep _ _ he ho ?_
                clear he ho
                refine WA.cond (b := v110) rfl (fun hb111 => ?_) (fun hb111 => ?_)
                · have hF := cond_t hF hb111
                  refine WA.reg [0, 1, 6, 7, 8] [] [] (env' := [(0, one (.str v0)), (1, one (.int .i64 v1)), (6, one (.int .i64 (bitsI .and .i64 (w64 (y104.toNat : Int)) 15))), (7, one (.int .i64 3)), (8, one (.int .i64 2048))]) (os' := []) (O := []) (by kernel_rfl) (sound _ _) trivial ?_
                  exact ⟨(bitsI .and .i64 (w64 (y104.toNat : Int)) 15), 3, 2048, by kernel_rfl, by kernel_rfl, hF⟩
                · have hF := cond_f hF hb111
                  refine WA.join (fun s_ => ∃ (v113 : Bool), pickE s_.env [0, 1, 6, 44] = [(0, one (.str v0)), (1, one (.int .i64 v1)), (6, one (.int .i64 (w64 (y104.toNat : Int)))), (44, one (.bool v113))] ∧ pickE s_.os [] = [] ∧ F46_j3 k v0 v1 y104 v113 = some r) ?_ ?_
                  · rintro s_ ⟨v113, he, ho, hF⟩
                    refine WA.keep _ _ he ho ?_
                    clear he ho
                    refine WA.cond (b := v113) rfl (fun hb114 => ?_) (fun hb114 => ?_)
                    · have hF := cond_t hF hb114
                      refine WA.reg [0, 1, 6, 7, 8] [] [] (env' := [(0, one (.str v0)), (1, one (.int .i64 v1)), (6, one (.int .i64 (bitsI .and .i64 (w64 (y104.toNat : Int)) 7))), (7, one (.int .i64 4)), (8, one (.int .i64 65536))]) (os' := []) (O := []) (by kernel_rfl) (sound _ _) trivial ?_
                      exact ⟨(bitsI .and .i64 (w64 (y104.toNat : Int)) 7), 4, 65536, by kernel_rfl, by kernel_rfl, hF⟩
                    · have hF := cond_f hF hb114
                      refine WA.seq ?_
                      refine WA.reg [4, 5] [] [] (env' := [(4, one (.int .i64 (-1))), (5, one (.int .i64 1))]) (os' := []) (O := []) (by kernel_rfl) (sound _ _) trivial ?_
                      refine WA.ret ?_
                      obtain rfl := Option.some.inj hF
                      exact out_ret (.tup [(false, [.pv (.int .i64 (-1))]), (false, [.pv (.int .i64 1)])]) [] (by kernel_rfl) (by kernel_rfl) (by kernel_rfl) (by kernel_rfl) (by decide) rfl rfl
                  · rcases Bool.eq_false_or_eq_true (decide ((w64 (y104.toNat : Int)) ≥ 240)) with hb112 | hb112
                    · have hF := cond_t hF hb112
                      refine WA.reg [0, 1, 6, 44] [] [(2, .bool true)] (env' := [(0, one (.str v0)), (1, one (.int .i64 v1)), (6, one (.int .i64 (w64 (y104.toNat : Int)))), (44, one (.bool (decide ((w64 (y104.toNat : Int)) < 248))))]) (os' := []) (O := [(decide ((w64 (y104.toNat : Int)) ≥ 240)) = true]) (by kernel_rfl) (sound _ _) ⟨hb112, trivial⟩ ?_
                      exact ⟨(decide ((w64 (y104.toNat : Int)) < 248)), by kernel_rfl, by kernel_rfl, hF⟩
                    · have hF := cond_f hF hb112
                      refine WA.reg [0, 1, 6, 44] [] [(2, .bool false)] (env' := [(0, one (.str v0)), (1, one (.int .i64 v1)), (6, one (.int .i64 (w64 (y104.toNat : Int)))), (44, one (.bool false))]) (os' := []) (O := [(decide ((w64 (y104.toNat : Int)) ≥ 240)) = false]) (by kernel_rfl) (sound _ _) ⟨hb112, trivial⟩ ?_
                      exact ⟨false, by kernel_rfl, by kernel_rfl, hF⟩
              · rcases Bool.eq_false_or_eq_true (decide ((w64 (y104.toNat : Int)) ≥ 224)) with hb109 | hb109
                · have hF := cond_t hF hb109
                  refine WA.reg [0, 1, 6, 35] [] [(2, .bool true)] (env' := [(0, one (.str v0)), (1, one (.int .i64 v1)), (6, one (.int .i64 (w64 (y104.toNat : Int)))), (35, one (.bool (decide ((w64 (y104.toNat : Int)) < 240))))]) (os' := []) (O := [(decide ((w64 (y104.toNat : Int)) ≥ 224)) = true]) (by kernel_rfl) (sound _ _) ⟨hb109, trivial⟩ ?_
                  exact ⟨(decide ((w64 (y104.toNat : Int)) < 240)), by kernel_rfl, by kernel_rfl, hF⟩
                · have hF := cond_f hF hb109
                  refine WA.reg [0, 1, 6, 35] [] [(2, .bool false)] (env' := [(0, one (.str v0)), (1, one (.int .i64 v1)), (6, one (.int .i64 (w64 (y104.toNat : Int)))), (35, one (.bool false))]) (os' := []) (O := [(decide ((w64 (y104.toNat : Int)) ≥ 224)) = false]) (by kernel_rfl) (sound _ _) ⟨hb109, trivial⟩ ?_
                  exact ⟨false, by kernel_rfl, by kernel_rfl, hF⟩
          · rcases Bool.eq_false_or_eq_true (decide ((w64 (y104.toNat : Int)) ≥ 192)) with hb106 | hb106
            · have hF := cond_t hF hb106
              refine WA.reg [0, 1, 6, 26] [] [(2, .bool true)] (env' := [(0, one (.str v0)), (1, one (.int .i64 v1)), (6, one (.int .i64 (w64 (y104.toNat : Int)))), (26, one (.bool (decide ((w64 (y104.toNat : Int)) < 224))))]) (os' := []) (O := [(decide ((w64 (y104.toNat : Int)) ≥ 192)) = true]) (by kernel_rfl) (sound _ _) ⟨hb106, trivial⟩ ?_
              exact ⟨(decide ((w64 (y104.toNat : Int)) < 224)), by kernel_rfl, by kernel_rfl, hF⟩
            · have hF := cond_f hF hb106
              refine WA.reg [0, 1, 6, 26] [] [(2, .bool false)] (env' := [(0, one (.str v0)), (1, one (.int .i64 v1)), (6, one (.int .i64 (w64 (y104.toNat : Int)))), (26, one (.bool false))]) (os' := []) (O := [(decide ((w64 (y104.toNat : Int)) ≥ 192)) = false]) (by kernel_rfl) (sound _ _) ⟨hb106, trivial⟩ ?_
              exact ⟨false, by kernel_rfl, by kernel_rfl, hF⟩
  · rcases Bool.eq_false_or_eq_true (decide (v1 < 0)) with hb101 | hb101
    · have hF := cond_t hF hb101
      refine WA.reg [0, 1, 17] [] [(2, .bool true)] (env' := [(0, one (.str v0)), (1, one (.int .i64 v1)), (17, one (.bool true))]) (os' := []) (O := [(decide (v1 < 0)) = true]) (by kernel_rfl) (sound _ _) ⟨hb101, trivial⟩ ?_
      exact ⟨true, by kernel_rfl, by kernel_rfl, hF⟩
    · have hF := cond_f hF hb101
      refine WA.reg [0, 1, 17] [] [(2, .bool false)] (env' := [(0, one (.str v0)), (1, one (.int .i64 v1)), (17, one (.bool (decide (v1 ≥ (v0.length : Int)))))]) (os' := []) (O := [(decide (v1 < 0)) = false]) (by kernel_rfl) (sound _ _) ⟨hb101, trivial⟩ ?_
      exact ⟨(decide (v1 ≥ (v0.length : Int))), by kernel_rfl, by kernel_rfl, hF⟩
/-! entrepot entrepotref1.Count -/
def F24_b0 (k : Nat) (self0 : Int → Int → Option Int) (v0 : List UInt8) (v107 : Int) (v108 : Int) : Option Int :=
  (cond (decide (v108 < (v0.length : Int))) ((F46 k v0 v108).bind fun y110 => ((self0 (w64 (v107 + 1)) (w64 (v108 + y110.2))))) (((some v107))))
def F24_l0 (k : Nat) (v0 : List UInt8) : Nat → Int → Int → Option Int
  | 0, _, _ => none
  | m_ + 1, v107, v108 => F24_b0 k (F24_l0 k v0 m_) v0 v107 v108
def F24 (k : Nat) (v0 : List UInt8) : Option Int :=
  (((F24_l0 k v0 k 0 0)))
theorem F24_ok (k : Nat) (v0 : List UInt8) (r : Int) (hF : F24 k v0 = some r) : Sim Tryz.prog GL0 24 [one (.str v0)] [] (one (.int .i64 r)) [] := by
  refine sim_of [] Tryz.func24 rfl (by kernel_rfl) (by kernel_rfl) ?_
  show WA _ _ 23 _ _ _
  refine WA.seq ?_
  refine WA.reg [0] [] [] (env' := [(0, one (.str v0))]) (os' := []) (O := []) (by kernel_rfl) (sound _ _) trivial ?_
  refine WA.seq ?_
  refine WA.reg [0, 3] [] [] (env' := [(0, one (.str v0)), (3, one (.int .i64 0))]) (os' := []) (O := []) (by kernel_rfl) (sound _ _) trivial ?_
  refine WA.seq ?_
  refine WA.seq ?_
  refine WA.reg [0, 3, 4] [] [] (env' := [(0, one (.str v0)), (3, one (.int .i64 0)), (4, one (.int .i64 0))]) (os' := []) (O := []) (by kernel_rfl) (sound _ _) trivial ?_
  refine WA.block ?_
  refine WA.loop (fun m s_ => ∃ (v107 : Int) (v108 : Int), pickE s_.env [0, 3, 4] = [(0, one (.str v0)), (3, one (.int .i64 v107)), (4, one (.int .i64 v108))] ∧ pickE s_.os [] = [] ∧ F24_l0 k v0 m v107 v108 = some r) k ⟨0, 0, by kernel_rfl, by kernel_rfl, hF⟩ ?_
  clear hF
  rintro m0 s_ ⟨v107, v108, he, ho, hF⟩
  refine WA.keep _ _ he ho ?_
  clear he ho
  cases m0 with
  | zero => cases hF
  | succ m0 =>
    obtain ⟨self0, hself0⟩ : ∃ g, g = F24_l0 k v0 m0 := ⟨_, rfl⟩
    have hF : F24_b0 k self0 v0 v107 v108 = some r := by rw [hself0]; exact hF
    refine WA.seq ?_
    refine WA.seq ?_
    refine WA.reg [0, 3, 4, 10] [] [] (env' := [(0, one (.str v0)), (3, one (.int .i64 v107)), (4, one (.int .i64 v108)), (10, one (.bool (decide (v108 < (v0.length : Int)))))]) (os' := []) (O := []) (by kernel_rfl) (sound _ _) trivial ?_
    refine WA.cond (b := (decide (v108 < (v0.length : Int)))) rfl (fun hb109 => ?_) (fun hb109 => ?_)
    · have hF := cond_t hF hb109
      refine WA.skip ?_
      refine WA.seq ?_
      refine WA.block ?_
      refine WA.seq ?_
      obtain ⟨y110, hy110, hF⟩ := bind_some hF
      refine WA.reg [0, 3, 4, 6] [] [(2, .callR [] (.tup [(false, [.pv (.int .i64 y110.1)]), (false, [.pv (.int .i64 y110.2)])]))] (env' := [(0, one (.str v0)), (3, one (.int .i64 v107)), (4, one (.int .i64 v108)), (6, one (.int .i64 y110.2))]) (os' := []) (O := [Sim Tryz.prog GL0 46 [one (.str v0), one (.int .i64 v108)] [] (.tup [(false, [.pv (.int .i64 y110.1)]), (false, [.pv (.int .i64 y110.2)])]) [], ([] : List Nat).Nodup]) (by kernel_rfl) (sound _ _) ⟨(F46_ok k _ _ _ hy110), (by decide), trivial⟩ ?_
      refine WA.reg [0, 3, 4] [] [] (env' := [(0, one (.str v0)), (3, one (.int .i64 v107)), (4, one (.int .i64 (w64 (v108 + y110.2))))]) (os' := []) (O := []) (by kernel_rfl) (sound _ _) trivial ?_
      refine WA.reg [0, 3, 4] [] [] (env' := [(0, one (.str v0)), (3, one (.int .i64 (w64 (v107 + 1)))), (4, one (.int .i64 (w64 (v108 + y110.2))))]) (os' := []) (O := []) (by kernel_rfl) (sound _ _) trivial ?_
      exact ⟨m0, Nat.lt_succ_self _, (w64 (v107 + 1)), (w64 (v108 + y110.2)), by kernel_rfl, by kernel_rfl, by rw [hself0] at hF; exact hF⟩
    · have hF := cond_f hF hb109
      refine WA.exit ?_
      refine WA.seq ?_
      refine WA.reg [2] [] [] (env' := [(2, one (.int .i64 v107))]) (os' := []) (O := []) (by kernel_rfl) (sound _ _) trivial ?_
      refine WA.ret ?_
      obtain rfl := Option.some.inj hF
      exact out_ret (one (.int .i64 v107)) [] (by kernel_rfl) (by kernel_rfl) (by kernel_rfl) (by kernel_rfl) (by decide) rfl rfl
/-! entrepot entrepotref1.Valid -/
def F25_b0 (k : Nat) (self0 : Int → Option Bool) (v0 : List UInt8) (v108 : Int) : Option Bool :=
  (cond (decide (v108 < (v0.length : Int))) ((F46 k v0 v108).bind fun y110 => ((cond (decide (y110.1 < 0)) ((some false)) ((self0 (w64 (v108 + y110.2))))))) (((some true))))
def F25_l0 (k : Nat) (v0 : List UInt8) : Nat → Int → Option Bool
  | 0, _ => none
  | m_ + 1, v108 => F25_b0 k (F25_l0 k v0 m_) v0 v108
def F25 (k : Nat) (v0 : List UInt8) : Option Bool :=
  ((F25_l0 k v0 k 0))
theorem F25_ok (k : Nat) (v0 : List UInt8) (r : Bool) (hF : F25 k v0 = some r) : Sim Tryz.prog GL0 25 [one (.str v0)] [] (one (.bool r)) [] := by
  refine sim_of [] Tryz.func25 rfl (by kernel_rfl) (by kernel_rfl) ?_
  show WA _ _ 21 _ _ _
  refine WA.seq ?_
  refine WA.reg [0] [] [] (env' := [(0, one (.str v0))]) (os' := []) (O := []) (by kernel_rfl) (sound _ _) trivial ?_
  refine WA.seq ?_
  refine WA.seq ?_
  refine WA.reg [0, 3] [] [] (env' := [(0, one (.str v0)), (3, one (.int .i64 0))]) (os' := []) (O := []) (by kernel_rfl) (sound _ _) trivial ?_
  refine WA.block ?_
  refine WA.loop (fun m s_ => ∃ (v108 : Int), pickE s_.env [0, 3] = [(0, one (.str v0)), (3, one (.int .i64 v108))] ∧ pickE s_.os [] = [] ∧ F25_l0 k v0 m v108 = some r) k ⟨0, by kernel_rfl, by kernel_rfl, hF⟩ ?_
  clear hF
  rintro m0 s_ ⟨v108, he, ho, hF⟩
  refine WA.keep _ _ he ho ?_
  clear he ho
  cases m0 with
  | zero => cases hF
  | succ m0 =>
    obtain ⟨self0, hself0⟩ : ∃ g, g = F25_l0 k v0 m0 := ⟨_, rfl⟩
    have hF : F25_b0 k self0 v0 v108 = some r := by rw [hself0]; exact hF
    refine WA.seq ?_
    refine WA.seq ?_
    refine WA.reg [0, 3, 9] [] [] (env' := [(0, one (.str v0)), (3, one (.int .i64 v108)), (9, one (.bool (decide (v108 < (v0.length : Int)))))]) (os' := []) (O := []) (by kernel_rfl) (sound _ _) trivial ?_
    refine WA.cond (b := (decide (v108 < (v0.length : Int)))) rfl (fun hb109 => ?_) (fun hb109 => ?_)
    · have hF := cond_t hF hb109
      refine WA.skip ?_
      refine WA.block ?_
      refine WA.seq ?_
      obtain ⟨y110, hy110, hF⟩ := bind_some hF
      refine WA.reg [0, 3, 4, 5] [] [(2, .callR [] (.tup [(false, [.pv (.int .i64 y110.1)]), (false, [.pv (.int .i64 y110.2)])]))] (env' := [(0, one (.str v0)), (3, one (.int .i64 v108)), (4, one (.int .i64 y110.1)), (5, one (.int .i64 y110.2))]) (os' := []) (O := [Sim Tryz.prog GL0 46 [one (.str v0), one (.int .i64 v108)] [] (.tup [(false, [.pv (.int .i64 y110.1)]), (false, [.pv (.int .i64 y110.2)])]) [], ([] : List Nat).Nodup]) (by kernel_rfl) (sound _ _) ⟨(F46_ok k _ _ _ hy110), (by decide), trivial⟩ ?_
      refine WA.seq ?_
      refine WA.seq ?_
      refine WA.reg [0, 3, 5, 17] [] [] (env' := [(0, one (.str v0)), (3, one (.int .i64 v108)), (5, one (.int .i64 y110.2)), (17, one (.bool (decide (y110.1 < 0))))]) (os' := []) (O := []) (by kernel_rfl) (sound _ _) trivial ?_
      refine WA.cond (b := (decide (y110.1 < 0))) rfl (fun hb111 => ?_) (fun hb111 => ?_)
      · have hF := cond_t hF hb111
        refine WA.seq ?_
        refine WA.reg [2] [] [] (env' := [(2, one (.bool false))]) (os' := []) (O := []) (by kernel_rfl) (sound _ _) trivial ?_
        refine WA.ret ?_
        obtain rfl := Option.some.inj hF
        exact out_ret (one (.bool false)) [] (by kernel_rfl) (by kernel_rfl) (by kernel_rfl) (by kernel_rfl) (by decide) rfl rfl
      · have hF := cond_f hF hb111
        refine WA.skip ?_
        refine WA.reg [0, 3] [] [] (env' := [(0, one (.str v0)), (3, one (.int .i64 (w64 (v108 + y110.2))))]) (os' := []) (O := []) (by kernel_rfl) (sound _ _) trivial ?_
        exact ⟨m0, Nat.lt_succ_self _, (w64 (v108 + y110.2)), by kernel_rfl, by kernel_rfl, by rw [hself0] at hF; exact hF⟩
    · have hF := cond_f hF hb109
      refine WA.exit ?_
      refine WA.seq ?_
      refine WA.reg [2] [] [] (env' := [(2, one (.bool true))]) (os' := []) (O := []) (by kernel_rfl) (sound _ _) trivial ?_
      refine WA.ret ?_
      obtain rfl := Option.some.inj hF
      exact out_ret (one (.bool true)) [] (by kernel_rfl) (by kernel_rfl) (by kernel_rfl) (by kernel_rfl) (by decide) rfl rfl
/-! entrepot rex.depth -/
def F50_b0 (R50 : api_Re → Option Int) (self0 : Int → Int → Option Int) (v0 : api_Re) (v109 : Int) (v110 : Int) : Option Int :=
  (cond (decide (v110 < (v0.f_L.length : Int))) ((idxL v0.f_L v110).bind fun y112 => (R50 y112).bind fun y113 => (self0 (mx v109 y113) (w64 (v110 + 1)))) (((some (w64 (v109 + 1))))))
def F50_l0 (R50 : api_Re → Option Int) (v0 : api_Re) : Nat → Int → Int → Option Int
  | 0, _, _ => none
  | m_ + 1, v109, v110 => F50_b0 R50 (F50_l0 R50 v0 m_) v0 v109 v110
def F50_b (R50 : api_Re → Option Int) (k : Nat) (v0 : api_Re) : Option Int :=
  (((F50_l0 R50 v0 k 0 0)))
theorem F50_b_ok (R50 : api_Re → Option Int) (IH50 : ∀ (v0 : api_Re) (r : Int), R50 v0 = some r → Sim Tryz.prog GL0 50 [.val true (pvL (e_api_Re v0))] [] (one (.int .i64 r)) []) (k : Nat) (v0 : api_Re) (r : Int) (hF : F50_b R50 k v0 = some r) : Sim Tryz.prog GL0 50 [.val true (pvL (e_api_Re v0))] [] (one (.int .i64 r)) [] := by
  refine sim_of [] Tryz.func50 rfl (by kernel_rfl) (by kernel_rfl) ?_
  show WA _ _ 20 _ _ _
  refine WA.seq ?_
  refine WA.reg [1] [101] [(0, .obj 101)] (env' := [(1, .val false [.ptr 101 1 0 0])]) (os' := [(101, .box (pvL (e_api_Re v0)))]) (O := []) (by kernel_rfl) (sound _ _) trivial ?_
  refine WA.seq ?_
  refine WA.reg [1, 3] [101] [] (env' := [(1, .val false [.ptr 101 1 0 0]), (3, one (.int .i64 0))]) (os' := [(101, .box (pvL (e_api_Re v0)))]) (O := []) (by kernel_rfl) (sound _ _) trivial ?_
  refine WA.seq ?_
  refine WA.seq ?_
  refine WA.regM (α := Int) (raw := ((es_api_Re v0.f_L).length : Int)) (can := (v0.f_L.length : Int)) (fun m_ => ([(3, one (.int .i64 0)), (7, one (.sl (es_api_Re v0.f_L))), (8, one (.int .i64 m_)), (9, one (.int .i64 0))], [], [])) ((by first | (simp only [List.length_map, List.length_append, List.length_cons, List.length_nil, List.length_set, List.length_replicate, List.length_take, List.length_drop, lens_api_Re]; done) | (simp only [List.length_map, List.length_append, List.length_cons, List.length_nil, List.length_set, List.length_replicate, List.length_take, List.length_drop, lens_api_Re]; omega) | omega)) [3, 7, 8, 9] [] [] (env' := [(3, one (.int .i64 0)), (7, one (.sl (es_api_Re v0.f_L))), (8, one (.int .i64 (v0.f_L.length : Int))), (9, one (.int .i64 0))]) (os' := []) (O := []) (by kernel_rfl) (by kernel_rfl) (sound _ _) trivial ?_
  refine WA.block ?_
  refine WA.loop (fun m s_ => ∃ (v109 : Int) (v110 : Int), pickE s_.env [3, 7, 8, 9] = [(3, one (.int .i64 v109)), (7, one (.sl (es_api_Re v0.f_L))), (8, one (.int .i64 (v0.f_L.length : Int))), (9, one (.int .i64 v110))] ∧ pickE s_.os [] = [] ∧ F50_l0 R50 v0 m v109 v110 = some r) k ⟨0, 0, by kernel_rfl, by kernel_rfl, hF⟩ ?_
  clear hF
  rintro m0 s_ ⟨v109, v110, he, ho, hF⟩
  refine WA.keep _ _ he ho ?_
  clear he ho
  cases m0 with
  | zero => cases hF
  | succ m0 =>
    obtain ⟨self0, hself0⟩ : ∃ g, g = F50_l0 R50 v0 m0 := ⟨_, rfl⟩
    have hF : F50_b0 R50 self0 v0 v109 v110 = some r := by rw [hself0]; exact hF
    refine WA.seq ?_
    refine WA.reg [3, 7, 8, 9, 10] [] [] (env' := [(3, one (.int .i64 v109)), (7, one (.sl (es_api_Re v0.f_L))), (8, one (.int .i64 (v0.f_L.length : Int))), (9, one (.int .i64 v110)), (10, one (.bool (decide (v110 < (v0.f_L.length : Int)))))]) (os' := []) (O := []) (by kernel_rfl) (sound _ _) trivial ?_
    refine WA.seq ?_
    refine WA.cond (b := (decide (v110 < (v0.f_L.length : Int)))) rfl (fun hb111 => ?_) (fun hb111 => ?_)
    · have hF := cond_t hF hb111
      refine WA.skip ?_
      refine WA.seq ?_
      refine WA.block ?_
      refine WA.seq ?_
      obtain ⟨y112, hy112, hF⟩ := bind_some hF
      refine WA.reg [3, 5, 7, 8, 9] [105] [(0, .cells (e_api_Re y112)), (2, .obj 105)] (env' := [(3, one (.int .i64 v109)), (5, .val false [.ptr 105 1 0 0]), (7, one (.sl (es_api_Re v0.f_L))), (8, one (.int .i64 (v0.f_L.length : Int))), (9, one (.int .i64 v110))]) (os' := [(105, .box (pvL (e_api_Re y112)))]) (O := [idxL (es_api_Re v0.f_L) v110 = some (e_api_Re y112)]) (by kernel_rfl) (sound _ _) ⟨(idx_api_Re hy112), trivial⟩ ?_
      obtain ⟨y113, hy113, hF⟩ := bind_some hF
      refine WA.reg [3, 7, 8, 9] [] [(2, .callR [] (one (.int .i64 y113)))] (env' := [(3, one (.int .i64 (mx v109 y113))), (7, one (.sl (es_api_Re v0.f_L))), (8, one (.int .i64 (v0.f_L.length : Int))), (9, one (.int .i64 v110))]) (os' := []) (O := [Sim Tryz.prog GL0 50 [.val true (pvL (e_api_Re y112))] [] (one (.int .i64 y113)) [], ([] : List Nat).Nodup]) (by kernel_rfl) (sound _ _) ⟨(IH50 _ _ hy113), (by decide), trivial⟩ ?_
      refine WA.reg [3, 7, 8, 9] [] [] (env' := [(3, one (.int .i64 (mx v109 y113))), (7, one (.sl (es_api_Re v0.f_L))), (8, one (.int .i64 (v0.f_L.length : Int))), (9, one (.int .i64 (w64 (v110 + 1))))]) (os' := []) (O := []) (by kernel_rfl) (sound _ _) trivial ?_
      exact ⟨m0, Nat.lt_succ_self _, (mx v109 y113), (w64 (v110 + 1)), by kernel_rfl, by kernel_rfl, by rw [hself0] at hF; exact hF⟩
    · have hF := cond_f hF hb111
      refine WA.exit ?_
      refine WA.seq ?_
      refine WA.reg [2] [] [] (env' := [(2, one (.int .i64 (w64 (v109 + 1))))]) (os' := []) (O := []) (by kernel_rfl) (sound _ _) trivial ?_
      refine WA.ret ?_
      obtain rfl := Option.some.inj hF
      exact out_ret (one (.int .i64 (w64 (v109 + 1)))) [] (by kernel_rfl) (by kernel_rfl) (by kernel_rfl) (by kernel_rfl) (by decide) rfl rfl
def F50 : Nat → api_Re → Option Int
  | 0, _ => none
  | k + 1, v0 => F50_b (F50 k) k v0
theorem F50_ok : ∀ (k : Nat), ∀ (v0 : api_Re) (r : Int), F50 k v0 = some r → Sim Tryz.prog GL0 50 [.val true (pvL (e_api_Re v0))] [] (one (.int .i64 r)) []
  | 0 => fun _ _ hF => by cases hF
  | k + 1 => fun v0 r hF => F50_b_ok (F50 k) (F50_ok k) k v0 r hF
/-! entrepot entrepotlaw10.few -/
def F41_j4 (R41 : api_Re → Int → Option Int) (self3 : Int → Int → Option Int) (v0 : api_Re) (v1 : Int) (v117 : Int) (v118 : Int) (v120 : Bool) : Option Int :=
  cond v120 ((idxL v0.f_L v118).bind fun y122 => (R41 y122 (w64 (v1 - 1))).bind fun y123 => (self3 (w64 (v117 + y123)) (w64 (v118 + 1)))) (((some v117)))
def F41_b3 (R41 : api_Re → Int → Option Int) (self3 : Int → Int → Option Int) (v0 : api_Re) (v1 : Int) (v117 : Int) (v118 : Int) : Option Int :=
  cond (decide (v118 < (v0.f_L.length : Int))) ((F41_j4 R41 self3 v0 v1 v117 v118 (decide (v117 < 1000)))) ((F41_j4 R41 self3 v0 v1 v117 v118 false))
def F41_l3 (R41 : api_Re → Int → Option Int) (v0 : api_Re) (v1 : Int) : Nat → Int → Int → Option Int
  | 0, _, _ => none
  | m_ + 1, v117, v118 => F41_b3 R41 (F41_l3 R41 v0 v1 m_) v0 v1 v117 v118
def F41_j0 (R41 : api_Re → Int → Option Int) (k : Nat) (v0 : api_Re) (v1 : Int) (v103 : Bool) : Option Int :=
  cond v103 ((some 1000)) ((((F41_l3 R41 v0 v1 k (w64 (1 + (v0.f_Set.length : Int))) 0))))
def F41_b (R41 : api_Re → Int → Option Int) (k : Nat) (v0 : api_Re) (v1 : Int) : Option Int :=
  (cond (v1 == 0) ((F41_j0 R41 k v0 v1 true)) (cond (decide ((v0.f_L.length : Int) > 300)) ((F41_j0 R41 k v0 v1 true)) ((F41_j0 R41 k v0 v1 (decide ((v0.f_Set.length : Int) > 300))))))
theorem F41_b_ok (R41 : api_Re → Int → Option Int) (IH41 : ∀ (v0 : api_Re) (v1 : Int) (r : Int), R41 v0 v1 = some r → Sim Tryz.prog GL0 41 [.val true (pvL (e_api_Re v0)), one (.int .i64 v1)] [] (one (.int .i64 r)) []) (k : Nat) (v0 : api_Re) (v1 : Int) (r : Int) (hF : F41_b R41 k v0 v1 = some r) : Sim Tryz.prog GL0 41 [.val true (pvL (e_api_Re v0)), one (.int .i64 v1)] [] (one (.int .i64 r)) [] := by
  refine sim_of [] Tryz.func41 rfl (by kernel_rfl) (by kernel_rfl) ?_
  show WA _ _ 47 _ _ _
  refine WA.seq ?_
  refine WA.reg [1, 2] [102] [(0, .obj 102)] (env' := [(1, one (.int .i64 v1)), (2, .val false [.ptr 102 1 0 0])]) (os' := [(102, .box (pvL (e_api_Re v0)))]) (O := []) (by kernel_rfl) (sound _ _) trivial ?_
  refine WA.seq ?_
  refine WA.join (fun s_ => ∃ (v103 : Bool), pickE s_.env [1, 2, 20] = [(1, one (.int .i64 v1)), (2, .val false [.ptr 102 1 0 0]), (20, one (.bool v103))] ∧ pickE s_.os [102] = [(102, .box (pvL (e_api_Re v0)))] ∧ F41_j0 R41 k v0 v1 v103 = some r) ?_ ?_
  · rintro s_ ⟨v103, he, ho, hF⟩
    refine WA.keep _ _ he ho ?_
    clear he ho
    refine WA.cond (b := v103) rfl (fun hb104 => ?_) (fun hb104 => ?_)
    · have hF := cond_t hF hb104
      refine WA.seq ?_
      refine WA.reg [4] [] [] (env' := [(4, one (.int .i64 1000))]) (os' := []) (O := []) (by kernel_rfl) (sound _ _) trivial ?_
      refine WA.ret ?_
      obtain rfl := Option.some.inj hF
      exact out_ret (one (.int .i64 1000)) [] (by kernel_rfl) (by kernel_rfl) (by kernel_rfl) (by kernel_rfl) (by decide) rfl rfl
    · have hF := cond_f hF hb104
      refine WA.skip ?_
      refine WA.seq ?_
      refine WA.regM (α := Int) (raw := ((v0.f_Set.map e_api_Range).length : Int)) (can := (v0.f_Set.length : Int)) (fun m_ => ([(1, one (.int .i64 v1)), (2, .val false [.ptr 102 1 0 0]), (5, one (.int .i64 (w64 (1 + m_))))], [(102, .box (pvL (e_api_Re v0)))], [])) ((by first | (simp only [List.length_map, List.length_append, List.length_cons, List.length_nil, List.length_set, List.length_replicate, List.length_take, List.length_drop, lens_api_Re]; done) | (simp only [List.length_map, List.length_append, List.length_cons, List.length_nil, List.length_set, List.length_replicate, List.length_take, List.length_drop, lens_api_Re]; omega) | omega)) [1, 2, 5] [102] [] (env' := [(1, one (.int .i64 v1)), (2, .val false [.ptr 102 1 0 0]), (5, one (.int .i64 (w64 (1 + (v0.f_Set.length : Int)))))]) (os' := [(102, .box (pvL (e_api_Re v0)))]) (O := []) (by kernel_rfl) (by kernel_rfl) (sound _ _) trivial ?_
      refine WA.seq ?_
      refine WA.seq ?_
      refine WA.reg [1, 2, 5, 6] [102] [] (env' := [(1, one (.int .i64 v1)), (2, .val false [.ptr 102 1 0 0]), (5, one (.int .i64 (w64 (1 + (v0.f_Set.length : Int))))), (6, one (.int .i64 0))]) (os' := [(102, .box (pvL (e_api_Re v0)))]) (O := []) (by kernel_rfl) (sound _ _) trivial ?_
      refine WA.block ?_
      refine WA.loop (fun m s_ => ∃ (v117 : Int) (v118 : Int), pickE s_.env [1, 2, 5, 6] = [(1, one (.int .i64 v1)), (2, .val false [.ptr 102 1 0 0]), (5, one (.int .i64 v117)), (6, one (.int .i64 v118))] ∧ pickE s_.os [102] = [(102, .box (pvL (e_api_Re v0)))] ∧ F41_l3 R41 v0 v1 m v117 v118 = some r) k ⟨(w64 (1 + (v0.f_Set.length : Int))), 0, by kernel_rfl, by kernel_rfl, hF⟩ ?_
      clear hF
      rintro m3 s_ ⟨v117, v118, he, ho, hF⟩
      refine WA.keep _ _ he ho ?_
      clear he ho
      cases m3 with
      | zero => cases hF
      | succ m3 =>
        obtain ⟨self3, hself3⟩ : ∃ g, g = F41_l3 R41 v0 v1 m3 := ⟨_, rfl⟩
        have hF : F41_b3 R41 self3 v0 v1 v117 v118 = some r := by rw [hself3]; exact hF
        refine WA.seq ?_
        refine WA.join (fun s_ => ∃ (v120 : Bool), pickE s_.env [1, 2, 5, 6, 33] = [(1, one (.int .i64 v1)), (2, .val false [.ptr 102 1 0 0]), (5, one (.int .i64 v117)), (6, one (.int .i64 v118)), (33, one (.bool v120))] ∧ pickE s_.os [102] = [(102, .box (pvL (e_api_Re v0)))] ∧ F41_j4 R41 self3 v0 v1 v117 v118 v120 = some r) ?_ ?_
        · rintro s_ ⟨v120, he, ho, hF⟩
          refine WA.keep _ _ he ho ?_
          clear he ho
          refine WA.cond (b := v120) rfl (fun hb121 => ?_) (fun hb121 => ?_)
          · have hF := cond_t hF hb121
            refine WA.skip ?_
            refine WA.seq ?_
            refine WA.block ?_
            obtain ⟨y122, hy122, hF⟩ := bind_some hF
            obtain ⟨y123, hy123, hF⟩ := bind_some hF
            refine WA.reg [1, 2, 5, 6] [102] [(4, .cells (e_api_Re y122)), (8, .callR [] (one (.int .i64 y123)))] (env' := [(1, one (.int .i64 v1)), (2, .val false [.ptr 102 1 0 0]), (5, one (.int .i64 (w64 (v117 + y123)))), (6, one (.int .i64 v118))]) (os' := [(102, .box (pvL (e_api_Re v0)))]) (O := [idxL (es_api_Re v0.f_L) v118 = some (e_api_Re y122), Sim Tryz.prog GL0 41 [.val true (pvL (e_api_Re y122)), one (.int .i64 (w64 (v1 - 1)))] [] (one (.int .i64 y123)) [], ([] : List Nat).Nodup]) (by kernel_rfl) (sound _ _) ⟨(idx_api_Re hy122), (IH41 _ _ _ hy123), (by decide), trivial⟩ ?_
            refine WA.reg [1, 2, 5, 6] [102] [] (env' := [(1, one (.int .i64 v1)), (2, .val false [.ptr 102 1 0 0]), (5, one (.int .i64 (w64 (v117 + y123)))), (6, one (.int .i64 (w64 (v118 + 1))))]) (os' := [(102, .box (pvL (e_api_Re v0)))]) (O := []) (by kernel_rfl) (sound _ _) trivial ?_
            exact ⟨m3, Nat.lt_succ_self _, (w64 (v117 + y123)), (w64 (v118 + 1)), by kernel_rfl, by kernel_rfl, by rw [hself3] at hF; exact hF⟩
          · have hF := cond_f hF hb121
            refine WA.exit ?_
            refine WA.seq ?_
            refine WA.reg [4] [] [] (env' := [(4, one (.int .i64 v117))]) (os' := []) (O := []) (by kernel_rfl) (sound _ _) trivial ?_
            refine WA.ret ?_
            obtain rfl := Option.some.inj hF
            exact out_ret (one (.int .i64 v117)) [] (by kernel_rfl) (by kernel_rfl) (by kernel_rfl) (by kernel_rfl) (by decide) rfl rfl
        · rcases Bool.eq_false_or_eq_true (decide (v118 < (v0.f_L.length : Int))) with hb119 | hb119
          · have hF := cond_t hF hb119
            refine WA.regM (α := Int) (raw := ((es_api_Re v0.f_L).length : Int)) (can := (v0.f_L.length : Int)) (fun m_ => ([(1, one (.int .i64 v1)), (2, .val false [.ptr 102 1 0 0]), (5, one (.int .i64 v117)), (6, one (.int .i64 v118)), (33, one (.bool (decide (v117 < 1000))))], [(102, .box (pvL (e_api_Re v0)))], [(decide (v118 < m_)) = true])) ((by first | (simp only [List.length_map, List.length_append, List.length_cons, List.length_nil, List.length_set, List.length_replicate, List.length_take, List.length_drop, lens_api_Re]; done) | (simp only [List.length_map, List.length_append, List.length_cons, List.length_nil, List.length_set, List.length_replicate, List.length_take, List.length_drop, lens_api_Re]; omega) | omega)) [1, 2, 5, 6, 33] [102] [(5, .bool true)] (env' := [(1, one (.int .i64 v1)), (2, .val false [.ptr 102 1 0 0]), (5, one (.int .i64 v117)), (6, one (.int .i64 v118)), (33, one (.bool (decide (v117 < 1000))))]) (os' := [(102, .box (pvL (e_api_Re v0)))]) (O := [(decide (v118 < (v0.f_L.length : Int))) = true]) (by kernel_rfl) (by kernel_rfl) (sound _ _) ⟨hb119, trivial⟩ ?_
            exact ⟨(decide (v117 < 1000)), by kernel_rfl, by kernel_rfl, hF⟩
          · have hF := cond_f hF hb119
            refine WA.regM (α := Int) (raw := ((es_api_Re v0.f_L).length : Int)) (can := (v0.f_L.length : Int)) (fun m_ => ([(1, one (.int .i64 v1)), (2, .val false [.ptr 102 1 0 0]), (5, one (.int .i64 v117)), (6, one (.int .i64 v118)), (33, one (.bool false))], [(102, .box (pvL (e_api_Re v0)))], [(decide (v118 < m_)) = false])) ((by first | (simp only [List.length_map, List.length_append, List.length_cons, List.length_nil, List.length_set, List.length_replicate, List.length_take, List.length_drop, lens_api_Re]; done) | (simp only [List.length_map, List.length_append, List.length_cons, List.length_nil, List.length_set, List.length_replicate, List.length_take, List.length_drop, lens_api_Re]; omega) | omega)) [1, 2, 5, 6, 33] [102] [(5, .bool false)] (env' := [(1, one (.int .i64 v1)), (2, .val false [.ptr 102 1 0 0]), (5, one (.int .i64 v117)), (6, one (.int .i64 v118)), (33, one (.bool false))]) (os' := [(102, .box (pvL (e_api_Re v0)))]) (O := [(decide (v118 < (v0.f_L.length : Int))) = false]) (by kernel_rfl) (by kernel_rfl) (sound _ _) ⟨hb119, trivial⟩ ?_
            exact ⟨false, by kernel_rfl, by kernel_rfl, hF⟩
  · rcases Bool.eq_false_or_eq_true (v1 == 0) with hb101 | hb101
    · have hF := cond_t hF hb101
      refine WA.reg [1, 2, 20] [102] [(2, .bool true)] (env' := [(1, one (.int .i64 v1)), (2, .val false [.ptr 102 1 0 0]), (20, one (.bool true))]) (os' := [(102, .box (pvL (e_api_Re v0)))]) (O := [(v1 == 0) = true]) (by kernel_rfl) (sound _ _) ⟨hb101, trivial⟩ ?_
      exact ⟨true, by kernel_rfl, by kernel_rfl, hF⟩
    · have hF := cond_f hF hb101
      rcases Bool.eq_false_or_eq_true (decide ((v0.f_L.length : Int) > 300)) with hb102 | hb102
      · have hF := cond_t hF hb102
        refine WA.regM (α := Int) (raw := ((es_api_Re v0.f_L).length : Int)) (can := (v0.f_L.length : Int)) (fun m_ => ([(1, one (.int .i64 v1)), (2, .val false [.ptr 102 1 0 0]), (20, one (.bool true))], [(102, .box (pvL (e_api_Re v0)))], [(v1 == 0) = false, (decide (m_ > 300)) = true])) ((by first | (simp only [List.length_map, List.length_append, List.length_cons, List.length_nil, List.length_set, List.length_replicate, List.length_take, List.length_drop, lens_api_Re]; done) | (simp only [List.length_map, List.length_append, List.length_cons, List.length_nil, List.length_set, List.length_replicate, List.length_take, List.length_drop, lens_api_Re]; omega) | omega)) [1, 2, 20] [102] [(2, .bool false), (8, .bool true)] (env' := [(1, one (.int .i64 v1)), (2, .val false [.ptr 102 1 0 0]), (20, one (.bool true))]) (os' := [(102, .box (pvL (e_api_Re v0)))]) (O := [(v1 == 0) = false, (decide ((v0.f_L.length : Int) > 300)) = true]) (by kernel_rfl) (by kernel_rfl) (sound _ _) ⟨hb101, hb102, trivial⟩ ?_
        exact ⟨true, by kernel_rfl, by kernel_rfl, hF⟩
      · have hF := cond_f hF hb102
        refine WA.regM (α := Int × Int) (raw := (((v0.f_Set.map e_api_Range).length : Int), ((es_api_Re v0.f_L).length : Int))) (can := ((v0.f_Set.length : Int), (v0.f_L.length : Int))) (fun m_ => ([(1, one (.int .i64 v1)), (2, .val false [.ptr 102 1 0 0]), (20, one (.bool (decide (m_.1 > 300))))], [(102, .box (pvL (e_api_Re v0)))], [(v1 == 0) = false, (decide (m_.2 > 300)) = false])) (pair_eq (by first | (simp only [List.length_map, List.length_append, List.length_cons, List.length_nil, List.length_set, List.length_replicate, List.length_take, List.length_drop, lens_api_Re]; done) | (simp only [List.length_map, List.length_append, List.length_cons, List.length_nil, List.length_set, List.length_replicate, List.length_take, List.length_drop, lens_api_Re]; omega) | omega) (by first | (simp only [List.length_map, List.length_append, List.length_cons, List.length_nil, List.length_set, List.length_replicate, List.length_take, List.length_drop, lens_api_Re]; done) | (simp only [List.length_map, List.length_append, List.length_cons, List.length_nil, List.length_set, List.length_replicate, List.length_take, List.length_drop, lens_api_Re]; omega) | omega)) [1, 2, 20] [102] [(2, .bool false), (8, .bool false)] (env' := [(1, one (.int .i64 v1)), (2, .val false [.ptr 102 1 0 0]), (20, one (.bool (decide ((v0.f_Set.length : Int) > 300))))]) (os' := [(102, .box (pvL (e_api_Re v0)))]) (O := [(v1 == 0) = false, (decide ((v0.f_L.length : Int) > 300)) = false]) (by kernel_rfl) (by kernel_rfl) (sound _ _) ⟨hb101, hb102, trivial⟩ ?_
        exact ⟨(decide ((v0.f_Set.length : Int) > 300)), by kernel_rfl, by kernel_rfl, hF⟩
def F41 : Nat → api_Re → Int → Option Int
  | 0, _, _ => none
  | k + 1, v0, v1 => F41_b (F41 k) k v0 v1
theorem F41_ok : ∀ (k : Nat), ∀ (v0 : api_Re) (v1 : Int) (r : Int), F41 k v0 v1 = some r → Sim Tryz.prog GL0 41 [.val true (pvL (e_api_Re v0)), one (.int .i64 v1)] [] (one (.int .i64 r)) []
  | 0 => fun _ _ _ hF => by cases hF
  | k + 1 => fun v0 v1 r hF => F41_b_ok (F41 k) (F41_ok k) k v0 v1 r hF
/-! entrepot entrepotref10.deep -/
def F42_b0 (R42 : api_Re → Int → Option Int) (self0 : Int → Int → Option Int) (v0 : api_Re) (v1 : Int) (v110 : Int) (v111 : Int) : Option Int :=
  (cond (decide (v111 < (v0.f_L.length : Int))) ((idxL v0.f_L v111).bind fun y113 => (R42 y113 (w64 (v1 + 1))).bind fun y114 => (self0 (mx v110 y114) (w64 (v111 + 1)))) (((some v110))))
def F42_l0 (R42 : api_Re → Int → Option Int) (v0 : api_Re) (v1 : Int) : Nat → Int → Int → Option Int
  | 0, _, _ => none
  | m_ + 1, v110, v111 => F42_b0 R42 (F42_l0 R42 v0 v1 m_) v0 v1 v110 v111
def F42_b (R42 : api_Re → Int → Option Int) (k : Nat) (v0 : api_Re) (v1 : Int) : Option Int :=
  ((cond (decide (v1 > 16)) ((some v1)) ((((F42_l0 R42 v0 v1 k v1 0))))))
theorem F42_b_ok (R42 : api_Re → Int → Option Int) (IH42 : ∀ (v0 : api_Re) (v1 : Int) (r : Int), R42 v0 v1 = some r → Sim Tryz.prog GL0 42 [.val true (pvL (e_api_Re v0)), one (.int .i64 v1)] [] (one (.int .i64 r)) []) (k : Nat) (v0 : api_Re) (v1 : Int) (r : Int) (hF : F42_b R42 k v0 v1 = some r) : Sim Tryz.prog GL0 42 [.val true (pvL (e_api_Re v0)), one (.int .i64 v1)] [] (one (.int .i64 r)) [] := by
  refine sim_of [] Tryz.func42 rfl (by kernel_rfl) (by kernel_rfl) ?_
  show WA _ _ 29 _ _ _
  refine WA.seq ?_
  refine WA.reg [1, 2] [102] [(0, .obj 102)] (env' := [(1, one (.int .i64 v1)), (2, .val false [.ptr 102 1 0 0])]) (os' := [(102, .box (pvL (e_api_Re v0)))]) (O := []) (by kernel_rfl) (sound _ _) trivial ?_
  refine WA.seq ?_
  refine WA.seq ?_
  refine WA.reg [1, 2, 8] [102] [] (env' := [(1, one (.int .i64 v1)), (2, .val false [.ptr 102 1 0 0]), (8, one (.bool (decide (v1 > 16))))]) (os' := [(102, .box (pvL (e_api_Re v0)))]) (O := []) (by kernel_rfl) (sound _ _) trivial ?_
  refine WA.cond (b := (decide (v1 > 16))) rfl (fun hb101 => ?_) (fun hb101 => ?_)
  · have hF := cond_t hF hb101
    refine WA.seq ?_
    refine WA.reg [4] [] [] (env' := [(4, one (.int .i64 v1))]) (os' := []) (O := []) (by kernel_rfl) (sound _ _) trivial ?_
    refine WA.ret ?_
    obtain rfl := Option.some.inj hF
    exact out_ret (one (.int .i64 v1)) [] (by kernel_rfl) (by kernel_rfl) (by kernel_rfl) (by kernel_rfl) (by decide) rfl rfl
  · have hF := cond_f hF hb101
    refine WA.skip ?_
    refine WA.seq ?_
    refine WA.reg [1, 2, 5] [102] [] (env' := [(1, one (.int .i64 v1)), (2, .val false [.ptr 102 1 0 0]), (5, one (.int .i64 v1))]) (os' := [(102, .box (pvL (e_api_Re v0)))]) (O := []) (by kernel_rfl) (sound _ _) trivial ?_
    refine WA.seq ?_
    refine WA.seq ?_
    refine WA.reg [1, 2, 5, 6] [102] [] (env' := [(1, one (.int .i64 v1)), (2, .val false [.ptr 102 1 0 0]), (5, one (.int .i64 v1)), (6, one (.int .i64 0))]) (os' := [(102, .box (pvL (e_api_Re v0)))]) (O := []) (by kernel_rfl) (sound _ _) trivial ?_
    refine WA.block ?_
    refine WA.loop (fun m s_ => ∃ (v110 : Int) (v111 : Int), pickE s_.env [1, 2, 5, 6] = [(1, one (.int .i64 v1)), (2, .val false [.ptr 102 1 0 0]), (5, one (.int .i64 v110)), (6, one (.int .i64 v111))] ∧ pickE s_.os [102] = [(102, .box (pvL (e_api_Re v0)))] ∧ F42_l0 R42 v0 v1 m v110 v111 = some r) k ⟨v1, 0, by kernel_rfl, by kernel_rfl, hF⟩ ?_
    clear hF
    rintro m0 s_ ⟨v110, v111, he, ho, hF⟩
    refine WA.keep _ _ he ho ?_
    clear he ho
    cases m0 with
    | zero => cases hF
    | succ m0 =>
      obtain ⟨self0, hself0⟩ : ∃ g, g = F42_l0 R42 v0 v1 m0 := ⟨_, rfl⟩
      have hF : F42_b0 R42 self0 v0 v1 v110 v111 = some r := by rw [hself0]; exact hF
      refine WA.seq ?_
      refine WA.seq ?_
      refine WA.regM (α := Int) (raw := ((es_api_Re v0.f_L).length : Int)) (can := (v0.f_L.length : Int)) (fun m_ => ([(1, one (.int .i64 v1)), (2, .val false [.ptr 102 1 0 0]), (5, one (.int .i64 v110)), (6, one (.int .i64 v111)), (15, one (.bool (decide (v111 < m_))))], [(102, .box (pvL (e_api_Re v0)))], [])) ((by first | (simp only [List.length_map, List.length_append, List.length_cons, List.length_nil, List.length_set, List.length_replicate, List.length_take, List.length_drop, lens_api_Re]; done) | (simp only [List.length_map, List.length_append, List.length_cons, List.length_nil, List.length_set, List.length_replicate, List.length_take, List.length_drop, lens_api_Re]; omega) | omega)) [1, 2, 5, 6, 15] [102] [] (env' := [(1, one (.int .i64 v1)), (2, .val false [.ptr 102 1 0 0]), (5, one (.int .i64 v110)), (6, one (.int .i64 v111)), (15, one (.bool (decide (v111 < (v0.f_L.length : Int)))))]) (os' := [(102, .box (pvL (e_api_Re v0)))]) (O := []) (by kernel_rfl) (by kernel_rfl) (sound _ _) trivial ?_
      refine WA.cond (b := (decide (v111 < (v0.f_L.length : Int)))) rfl (fun hb112 => ?_) (fun hb112 => ?_)
      · have hF := cond_t hF hb112
        refine WA.skip ?_
        refine WA.seq ?_
        refine WA.block ?_
        obtain ⟨y113, hy113, hF⟩ := bind_some hF
        obtain ⟨y114, hy114, hF⟩ := bind_some hF
        refine WA.reg [1, 2, 5, 6] [102] [(4, .cells (e_api_Re y113)), (8, .callR [] (one (.int .i64 y114)))] (env' := [(1, one (.int .i64 v1)), (2, .val false [.ptr 102 1 0 0]), (5, one (.int .i64 (mx v110 y114))), (6, one (.int .i64 v111))]) (os' := [(102, .box (pvL (e_api_Re v0)))]) (O := [idxL (es_api_Re v0.f_L) v111 = some (e_api_Re y113), Sim Tryz.prog GL0 42 [.val true (pvL (e_api_Re y113)), one (.int .i64 (w64 (v1 + 1)))] [] (one (.int .i64 y114)) [], ([] : List Nat).Nodup]) (by kernel_rfl) (sound _ _) ⟨(idx_api_Re hy113), (IH42 _ _ _ hy114), (by decide), trivial⟩ ?_
        refine WA.reg [1, 2, 5, 6] [102] [] (env' := [(1, one (.int .i64 v1)), (2, .val false [.ptr 102 1 0 0]), (5, one (.int .i64 (mx v110 y114))), (6, one (.int .i64 (w64 (v111 + 1))))]) (os' := [(102, .box (pvL (e_api_Re v0)))]) (O := []) (by kernel_rfl) (sound _ _) trivial ?_
        exact ⟨m0, Nat.lt_succ_self _, (mx v110 y114), (w64 (v111 + 1)), by kernel_rfl, by kernel_rfl, by rw [hself0] at hF; exact hF⟩
      · have hF := cond_f hF hb112
        refine WA.exit ?_
        refine WA.seq ?_
        refine WA.reg [4] [] [] (env' := [(4, one (.int .i64 v110))]) (os' := []) (O := []) (by kernel_rfl) (sound _ _) trivial ?_
        refine WA.ret ?_
        obtain rfl := Option.some.inj hF
        exact out_ret (one (.int .i64 v110)) [] (by kernel_rfl) (by kernel_rfl) (by kernel_rfl) (by kernel_rfl) (by decide) rfl rfl
def F42 : Nat → api_Re → Int → Option Int
  | 0, _, _ => none
  | k + 1, v0, v1 => F42_b (F42 k) k v0 v1
theorem F42_ok : ∀ (k : Nat), ∀ (v0 : api_Re) (v1 : Int) (r : Int), F42 k v0 v1 = some r → Sim Tryz.prog GL0 42 [.val true (pvL (e_api_Re v0)), one (.int .i64 v1)] [] (one (.int .i64 r)) []
  | 0 => fun _ _ _ hF => by cases hF
  | k + 1 => fun v0 v1 r hF => F42_b_ok (F42 k) (F42_ok k) k v0 v1 r hF
end Go.Proofs.YthilboheomikjaaGreatDoor
