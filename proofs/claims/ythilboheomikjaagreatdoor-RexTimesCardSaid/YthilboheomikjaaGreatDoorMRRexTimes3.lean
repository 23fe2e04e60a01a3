/- G8, P8, G10, G11, A24, A25, P9, Q4 -/
import Derived.Test.YthilboheomikjaaGreatDoorMRRexTimes2
section
namespace Go.Proofs.YthilboheomikjaaGreatDoor
open Go.AL
set_option linter.unusedVariables false
set_option linter.unusedSimpArgs false
set_option maxRecDepth 100000

/-! slices.insertionSortCmpFunc entrepot api.Range  -/
def F149_j12 (self8 : (List api_Range) → Int → Option (List api_Range)) (self11 : (List api_Range) → Int → Option (List api_Range)) (v216 : Int) (v253 : List api_Range) (v255 : Int) (v262 : Bool) : Option (List api_Range) :=
  cond v262 ((if (0 : Int) ≤ (w64 (v255 - 1)) ∧ (w64 (v255 - 1)) < (v253.length : Int) then (idxL v253 (w64 (v255 - 1))).bind fun y265 => if (0 : Int) ≤ v255 ∧ v255 < (v253.length : Int) then (idxL v253 v255).bind fun y267 => if (0 : Int) ≤ v255 ∧ v255 < (v253.length : Int) then (idxL v253 v255).bind fun y269 => if (0 : Int) ≤ (w64 (v255 - 1)) ∧ (w64 (v255 - 1)) < ((v253.set (Int.toNat v255) y265).length : Int) then (idxL (v253.set (Int.toNat v255) y265) (w64 (v255 - 1))).bind fun y271 => (self11 ((v253.set (Int.toNat v255) y265).set (Int.toNat (w64 (v255 - 1))) y267) (w64 (v255 - 1))) else none else none else none else none)) ((self8 v253 (w64 (v216 + 1))))
def F149_b11 (k : Nat) (self8 : (List api_Range) → Int → Option (List api_Range)) (self11 : (List api_Range) → Int → Option (List api_Range)) (v1 : Int) (v216 : Int) (v253 : List api_Range) (v255 : Int) : Option (List api_Range) :=
  cond (decide (v255 > v1)) (if (0 : Int) ≤ v255 ∧ v255 < (v253.length : Int) then (idxL v253 v255).bind fun y258 => if (0 : Int) ≤ (w64 (v255 - 1)) ∧ (w64 (v255 - 1)) < (v253.length : Int) then (idxL v253 (w64 (v255 - 1))).bind fun y260 => (F104 k y258 y260).bind fun y261 => (F149_j12 self8 self11 v216 v253 v255 (decide (y261 < 0))) else none else none) ((F149_j12 self8 self11 v216 v253 v255 false))
def F149_l11 (k : Nat) (self8 : (List api_Range) → Int → Option (List api_Range)) (v1 : Int) (v216 : Int) : Nat → (List api_Range) → Int → Option (List api_Range)
  | 0, _, _ => none
  | m_ + 1, v253, v255 => F149_b11 k self8 (F149_l11 k self8 v1 v216 m_) v1 v216 v253 v255
def F149_b8 (k : Nat) (self8 : (List api_Range) → Int → Option (List api_Range)) (v1 : Int) (v2 : Int) (v214 : List api_Range) (v216 : Int) : Option (List api_Range) :=
  (cond (decide (v216 < v2)) (((F149_l11 k self8 v1 v216 k v214 v216))) (some v214))
def F149_l8 (k : Nat) (v1 : Int) (v2 : Int) : Nat → (List api_Range) → Int → Option (List api_Range)
  | 0, _, _ => none
  | m_ + 1, v214, v216 => F149_b8 k (F149_l8 k v1 v2 m_) v1 v2 v214 v216
def F149 (k : Nat) (v0 : List api_Range) (v1 : Int) (v2 : Int) : Option (List api_Range) :=
  (F149_l8 k v1 v2 k v0 (w64 (v1 + 1)))
theorem F149_ok (k : Nat) (v0 : List api_Range) (v1 : Int) (v2 : Int) (r : List api_Range) (hF : F149 k v0 v1 v2 = some r) {n0 : Nat} (hn_n0 : n0 = v0.length) : Sim Tryz.prog GL0 149 [.val false [.arr 0 n0], one (.int .i64 v1), one (.int .i64 v2), .val false [.pv (.fn 104)]] [.arr 2 (v0.map e_api_Range)] (.tup []) [.arr 2 (r.map e_api_Range)] := by
  refine sim_of [0] Tryz.func149 rfl (by kernel_rfl) (by kernel_rfl) ?_
  show WA _ _ 53 _ _ _
  refine WA.seq ?_
  refine WA.reg [0, 1, 2, 3, 8] [0] [] (env' := [(0, .val false [.arr 0 n0]), (1, one (.int .i64 v1)), (2, one (.int .i64 v2)), (3, .val false [.pv (.fn 104)]), (8, one (.int .i64 (w64 (v1 + 1))))]) (os' := [(0, .arr 2 (v0.map e_api_Range))]) (O := []) (by kernel_rfl) (sound _ _) trivial ?_
  refine WA.block ?_
  refine WA.loop (fun m s_ => ∃ (v214 : List api_Range) (v215 : Nat) (v216 : Int), pickE s_.env [0, 1, 2, 3, 8] = [(0, .val false [.arr 0 v215]), (1, one (.int .i64 v1)), (2, one (.int .i64 v2)), (3, .val false [.pv (.fn 104)]), (8, one (.int .i64 v216))] ∧ pickE s_.os [0] = [(0, .arr 2 (v214.map e_api_Range))] ∧ v215 = (v214 : List _).length ∧ F149_l8 k v1 v2 m v214 v216 = some r) k ⟨v0, n0, (w64 (v1 + 1)), by kernel_rfl, by kernel_rfl, (by first | omega | (simp only [zlm, zla, zlc, zln, zls, zlr, zlt, zld, lens_api_Re]; done) | (simp only [zlm, zla, zlc, zln, zls, zlr, zlt, zld, lens_api_Re]; omega) | (simp only [zlm, zla, zlc, zln, zls, zlr, zlt, zld, lens_api_Re] at *; omega)), hF⟩ ?_
  clear hF
  rintro m8 s_ ⟨v214, v215, v216, he, ho, hn_v215, hF⟩
  refine WA.keep _ _ he ho ?_
  clear he ho
  cases m8 with
  | zero => cases hF
  | succ m8 =>
    obtain ⟨self8, hself8⟩ : ∃ g, g = F149_l8 k v1 v2 m8 := ⟨_, rfl⟩
    have hF : F149_b8 k self8 v1 v2 v214 v216 = some r := by first | (rw [hself8]; exact hF) | exact hF
    refine WA.seq ?_
    refine WA.seq ?_
    refine WA.reg [0, 1, 2, 3, 8, 14] [0] [] (env' := [(0, .val false [.arr 0 v215]), (1, one (.int .i64 v1)), (2, one (.int .i64 v2)), (3, .val false [.pv (.fn 104)]), (8, one (.int .i64 v216)), (14, one (.bool (decide (v216 < v2))))]) (os' := [(0, .arr 2 (v214.map e_api_Range))]) (O := []) (by kernel_rfl) (sound _ _) trivial ?_
    refine WA.cond (b := (decide (v216 < v2))) rfl (fun hb217 => ?_) (fun hb217 => ?_)
    · have hF := cond_t hF hb217
      refine WA.skip ?_
      refine WA.seq ?_
      refine WA.block ?_
      refine WA.seq ?_
      refine WA.reg [0, 1, 2, 3, 8, 9] [0] [] (env' := [(0, .val false [.arr 0 v215]), (1, one (.int .i64 v1)), (2, one (.int .i64 v2)), (3, .val false [.pv (.fn 104)]), (8, one (.int .i64 v216)), (9, one (.int .i64 v216))]) (os' := [(0, .arr 2 (v214.map e_api_Range))]) (O := []) (by kernel_rfl) (sound _ _) trivial ?_
      refine WA.block ?_
      refine WA.loop (fun m s_ => ∃ (v253 : List api_Range) (v254 : Nat) (v255 : Int), pickE s_.env [0, 1, 2, 3, 8, 9] = [(0, .val false [.arr 0 v254]), (1, one (.int .i64 v1)), (2, one (.int .i64 v2)), (3, .val false [.pv (.fn 104)]), (8, one (.int .i64 v216)), (9, one (.int .i64 v255))] ∧ pickE s_.os [0] = [(0, .arr 2 (v253.map e_api_Range))] ∧ v254 = (v253 : List _).length ∧ F149_l11 k self8 v1 v216 m v253 v255 = some r) k ⟨v214, v215, v216, by kernel_rfl, by kernel_rfl, (by first | omega | (simp only [zlm, zla, zlc, zln, zls, zlr, zlt, zld, lens_api_Re]; done) | (simp only [zlm, zla, zlc, zln, zls, zlr, zlt, zld, lens_api_Re]; omega) | (simp only [zlm, zla, zlc, zln, zls, zlr, zlt, zld, lens_api_Re] at *; omega)), hF⟩ ?_
      clear hF
      rintro m11 s_ ⟨v253, v254, v255, he, ho, hn_v254, hF⟩
      refine WA.keep _ _ he ho ?_
      clear he ho
      cases m11 with
      | zero => cases hF
      | succ m11 =>
        obtain ⟨self11, hself11⟩ : ∃ g, g = F149_l11 k self8 v1 v216 m11 := ⟨_, rfl⟩
        have hF : F149_b11 k self8 self11 v1 v216 v253 v255 = some r := by first | (rw [hself11]; exact hF) | exact hF
        refine WA.seq ?_
        refine WA.join (fun s_ => ∃ (v262 : Bool), pickE s_.env [0, 1, 2, 3, 8, 9, 34] = [(0, .val false [.arr 0 v254]), (1, one (.int .i64 v1)), (2, one (.int .i64 v2)), (3, .val false [.pv (.fn 104)]), (8, one (.int .i64 v216)), (9, one (.int .i64 v255)), (34, one (.bool v262))] ∧ pickE s_.os [0] = [(0, .arr 2 (v253.map e_api_Range))] ∧ F149_j12 self8 self11 v216 v253 v255 v262 = some r) ?_ ?_
        · rintro s_ ⟨v262, he, ho, hF⟩
          refine WA.keep _ _ he ho ?_
          clear he ho
          refine WA.cond (b := v262) rfl (fun hb263 => ?_) (fun hb263 => ?_)
          · have hF := cond_t hF hb263
            refine WA.skip ?_
            refine WA.seq ?_
            refine WA.block ?_
            obtain ⟨hc264, hF⟩ := if_some hF
            obtain ⟨y265, hy265, hF⟩ := bind_some hF
            obtain ⟨hc266, hF⟩ := if_some hF
            obtain ⟨y267, hy267, hF⟩ := bind_some hF
            obtain ⟨hc268, hF⟩ := if_some hF
            obtain ⟨y269, hy269, hF⟩ := bind_some hF
            obtain ⟨hc270, hF⟩ := if_some hF
            obtain ⟨y271, hy271, hF⟩ := bind_some hF
            refine WA.regDM (α := (List (List PV)) × (List (List PV))) (raw := ((((v253.map e_api_Range).set (Int.toNat v255) (e_api_Range y265)).set (Int.toNat (w64 (v255 - 1))) (e_api_Range y267)), ((v253.map e_api_Range).set (Int.toNat v255) (e_api_Range y265)))) (can := ((((v253.set (Int.toNat v255) y265).set (Int.toNat (w64 (v255 - 1))) y267).map e_api_Range), ((v253.set (Int.toNat v255) y265).map e_api_Range))) (fun m_ => ([(0, .val false [.arr 0 v254]), (1, one (.int .i64 v1)), (2, one (.int .i64 v2)), (3, .val false [.pv (.fn 104)]), (8, one (.int .i64 v216)), (9, one (.int .i64 v255))], [(0, .arr 2 m_.1)], [v254 = (v253.map e_api_Range).length, (0 : Int) ≤ (w64 (v255 - 1)), (w64 (v255 - 1)) < ((v254 : Nat) : Int), v254 = (v253.map e_api_Range).length, (v253.map e_api_Range)[Int.toNat (w64 (v255 - 1))]? = some (e_api_Range y265), v254 = (v253.map e_api_Range).length, (0 : Int) ≤ v255, v255 < ((v254 : Nat) : Int), v254 = (v253.map e_api_Range).length, (v253.map e_api_Range)[Int.toNat v255]? = some (e_api_Range y267), v254 = (v253.map e_api_Range).length, (0 : Int) ≤ v255, v255 < ((v254 : Nat) : Int), v254 = (v253.map e_api_Range).length, (v253.map e_api_Range)[Int.toNat v255]? = some (e_api_Range y269), v254 = m_.2.length, (0 : Int) ≤ (w64 (v255 - 1)), (w64 (v255 - 1)) < ((v254 : Nat) : Int), v254 = m_.2.length, m_.2[Int.toNat (w64 (v255 - 1))]? = some (e_api_Range y271)])) (pair_eq (by first | (simp only [len_map, app_map, take_map, drop_map, set_map, rep_map, lens_api_Re, app_api_Re, take_api_Re, drop_api_Re, set_api_Re, es_api_Re, e0_eq_api_Re]; done) | (simp only [List.map_append, List.map_cons, List.map_nil, List.map_take, List.map_drop, List.map_set, List.map_replicate, List.length_map, es_map_api_Re, e0_eq_api_Re]; done)) (by first | (simp only [len_map, app_map, take_map, drop_map, set_map, rep_map, lens_api_Re, app_api_Re, take_api_Re, drop_api_Re, set_api_Re, es_api_Re, e0_eq_api_Re]; done) | (simp only [List.map_append, List.map_cons, List.map_nil, List.map_take, List.map_drop, List.map_set, List.map_replicate, List.length_map, es_map_api_Re, e0_eq_api_Re]; done))) [0, 1, 2, 3, 8, 9] [0] [(9, .cells (e_api_Range y265)), (13, .cells (e_api_Range y267)), (15, .cells (e_api_Range y269)), (17, .cells (e_api_Range y271))] (env' := [(0, .val false [.arr 0 v254]), (1, one (.int .i64 v1)), (2, one (.int .i64 v2)), (3, .val false [.pv (.fn 104)]), (8, one (.int .i64 v216)), (9, one (.int .i64 v255))]) (os' := [(0, .arr 2 (((v253.set (Int.toNat v255) y265).set (Int.toNat (w64 (v255 - 1))) y267).map e_api_Range))]) (O := [v254 = (v253.map e_api_Range).length, (0 : Int) ≤ (w64 (v255 - 1)), (w64 (v255 - 1)) < ((v254 : Nat) : Int), v254 = (v253.map e_api_Range).length, (v253.map e_api_Range)[Int.toNat (w64 (v255 - 1))]? = some (e_api_Range y265), v254 = (v253.map e_api_Range).length, (0 : Int) ≤ v255, v255 < ((v254 : Nat) : Int), v254 = (v253.map e_api_Range).length, (v253.map e_api_Range)[Int.toNat v255]? = some (e_api_Range y267), v254 = (v253.map e_api_Range).length, (0 : Int) ≤ v255, v255 < ((v254 : Nat) : Int), v254 = (v253.map e_api_Range).length, (v253.map e_api_Range)[Int.toNat v255]? = some (e_api_Range y269), v254 = ((v253.set (Int.toNat v255) y265).map e_api_Range).length, (0 : Int) ≤ (w64 (v255 - 1)), (w64 (v255 - 1)) < ((v254 : Nat) : Int), v254 = ((v253.set (Int.toNat v255) y265).map e_api_Range).length, ((v253.set (Int.toNat v255) y265).map e_api_Range)[Int.toNat (w64 (v255 - 1))]? = some (e_api_Range y271)]) (by kernel_rfl) (by kernel_rfl) (by kernel_rfl) (by kernel_rfl) (sound _ _) ⟨(by first | omega | (simp only [zlm, zla, zlc, zln, zls, zlr, zlt, zld, lens_api_Re]; done) | (simp only [zlm, zla, zlc, zln, zls, zlr, zlt, zld, lens_api_Re]; omega) | (simp only [zlm, zla, zlc, zln, zls, zlr, zlt, zld, lens_api_Re] at *; omega)), hc264.1, (by have h_ := hc264.2; (try simp only [zlm, zla, zlc, zln, zls, zlr, zlt, zld, lens_api_Re] at h_ ⊢); omega), (by first | omega | (simp only [zlm, zla, zlc, zln, zls, zlr, zlt, zld, lens_api_Re]; done) | (simp only [zlm, zla, zlc, zln, zls, zlr, zlt, zld, lens_api_Re]; omega) | (simp only [zlm, zla, zlc, zln, zls, zlr, zlt, zld, lens_api_Re] at *; omega)), (get_of_idx (idx_map _ hy265)), (by first | omega | (simp only [zlm, zla, zlc, zln, zls, zlr, zlt, zld, lens_api_Re]; done) | (simp only [zlm, zla, zlc, zln, zls, zlr, zlt, zld, lens_api_Re]; omega) | (simp only [zlm, zla, zlc, zln, zls, zlr, zlt, zld, lens_api_Re] at *; omega)), hc266.1, (by have h_ := hc266.2; (try simp only [zlm, zla, zlc, zln, zls, zlr, zlt, zld, lens_api_Re] at h_ ⊢); omega), (by first | omega | (simp only [zlm, zla, zlc, zln, zls, zlr, zlt, zld, lens_api_Re]; done) | (simp only [zlm, zla, zlc, zln, zls, zlr, zlt, zld, lens_api_Re]; omega) | (simp only [zlm, zla, zlc, zln, zls, zlr, zlt, zld, lens_api_Re] at *; omega)), (get_of_idx (idx_map _ hy267)), (by first | omega | (simp only [zlm, zla, zlc, zln, zls, zlr, zlt, zld, lens_api_Re]; done) | (simp only [zlm, zla, zlc, zln, zls, zlr, zlt, zld, lens_api_Re]; omega) | (simp only [zlm, zla, zlc, zln, zls, zlr, zlt, zld, lens_api_Re] at *; omega)), hc268.1, (by have h_ := hc268.2; (try simp only [zlm, zla, zlc, zln, zls, zlr, zlt, zld, lens_api_Re] at h_ ⊢); omega), (by first | omega | (simp only [zlm, zla, zlc, zln, zls, zlr, zlt, zld, lens_api_Re]; done) | (simp only [zlm, zla, zlc, zln, zls, zlr, zlt, zld, lens_api_Re]; omega) | (simp only [zlm, zla, zlc, zln, zls, zlr, zlt, zld, lens_api_Re] at *; omega)), (get_of_idx (idx_map _ hy269)), (by first | omega | (simp only [zlm, zla, zlc, zln, zls, zlr, zlt, zld, lens_api_Re]; done) | (simp only [zlm, zla, zlc, zln, zls, zlr, zlt, zld, lens_api_Re]; omega) | (simp only [zlm, zla, zlc, zln, zls, zlr, zlt, zld, lens_api_Re] at *; omega)), hc270.1, (by have h_ := hc270.2; (try simp only [zlm, zla, zlc, zln, zls, zlr, zlt, zld, lens_api_Re] at h_ ⊢); omega), (by first | omega | (simp only [zlm, zla, zlc, zln, zls, zlr, zlt, zld, lens_api_Re]; done) | (simp only [zlm, zla, zlc, zln, zls, zlr, zlt, zld, lens_api_Re]; omega) | (simp only [zlm, zla, zlc, zln, zls, zlr, zlt, zld, lens_api_Re] at *; omega)), (get_of_idx (idx_map _ hy271)), trivial⟩ ?_
            refine WA.reg [0, 1, 2, 3, 8, 9] [0] [] (env' := [(0, .val false [.arr 0 v254]), (1, one (.int .i64 v1)), (2, one (.int .i64 v2)), (3, .val false [.pv (.fn 104)]), (8, one (.int .i64 v216)), (9, one (.int .i64 (w64 (v255 - 1))))]) (os' := [(0, .arr 2 (((v253.set (Int.toNat v255) y265).set (Int.toNat (w64 (v255 - 1))) y267).map e_api_Range))]) (O := []) (by kernel_rfl) (sound _ _) trivial ?_
            exact ⟨m11, Nat.lt_succ_self _, ((v253.set (Int.toNat v255) y265).set (Int.toNat (w64 (v255 - 1))) y267), v254, (w64 (v255 - 1)), by kernel_rfl, by kernel_rfl, (by first | omega | (simp only [zlm, zla, zlc, zln, zls, zlr, zlt, zld, lens_api_Re]; done) | (simp only [zlm, zla, zlc, zln, zls, zlr, zlt, zld, lens_api_Re]; omega) | (simp only [zlm, zla, zlc, zln, zls, zlr, zlt, zld, lens_api_Re] at *; omega)), by rw [hself11] at hF; exact hF⟩
          · have hF := cond_f hF hb263
            refine WA.exit ?_
            refine WA.reg [0, 1, 2, 3, 8] [0] [] (env' := [(0, .val false [.arr 0 v254]), (1, one (.int .i64 v1)), (2, one (.int .i64 v2)), (3, .val false [.pv (.fn 104)]), (8, one (.int .i64 (w64 (v216 + 1))))]) (os' := [(0, .arr 2 (v253.map e_api_Range))]) (O := []) (by kernel_rfl) (sound _ _) trivial ?_
            exact ⟨m8, Nat.lt_succ_self _, v253, v254, (w64 (v216 + 1)), by kernel_rfl, by kernel_rfl, (by first | omega | (simp only [zlm, zla, zlc, zln, zls, zlr, zlt, zld, lens_api_Re]; done) | (simp only [zlm, zla, zlc, zln, zls, zlr, zlt, zld, lens_api_Re]; omega) | (simp only [zlm, zla, zlc, zln, zls, zlr, zlt, zld, lens_api_Re] at *; omega)), by rw [hself8] at hF; exact hF⟩
        · rcases Bool.eq_false_or_eq_true (decide (v255 > v1)) with hb256 | hb256
          · have hF := cond_t hF hb256
            obtain ⟨hc257, hF⟩ := if_some hF
            obtain ⟨y258, hy258, hF⟩ := bind_some hF
            obtain ⟨hc259, hF⟩ := if_some hF
            obtain ⟨y260, hy260, hF⟩ := bind_some hF
            obtain ⟨y261, hy261, hF⟩ := bind_some hF
            refine WA.regD (by kernel_rfl) [0, 1, 2, 3, 8, 9, 34] [0] [(3, .bool true), (8, .cells (e_api_Range y258)), (13, .cells (e_api_Range y260)), (14, .callR [] (one (.int .i64 y261)))] (env' := [(0, .val false [.arr 0 v254]), (1, one (.int .i64 v1)), (2, one (.int .i64 v2)), (3, .val false [.pv (.fn 104)]), (8, one (.int .i64 v216)), (9, one (.int .i64 v255)), (34, one (.bool (decide (y261 < 0))))]) (os' := [(0, .arr 2 (v253.map e_api_Range))]) (O := [(decide (v255 > v1)) = true, v254 = (v253.map e_api_Range).length, (0 : Int) ≤ v255, v255 < ((v254 : Nat) : Int), v254 = (v253.map e_api_Range).length, (v253.map e_api_Range)[Int.toNat v255]? = some (e_api_Range y258), v254 = (v253.map e_api_Range).length, (0 : Int) ≤ (w64 (v255 - 1)), (w64 (v255 - 1)) < ((v254 : Nat) : Int), v254 = (v253.map e_api_Range).length, (v253.map e_api_Range)[Int.toNat (w64 (v255 - 1))]? = some (e_api_Range y260), Sim Tryz.prog GL0 104 [.val true (pvL (e_api_Range y258)), .val true (pvL (e_api_Range y260))] [] (one (.int .i64 y261)) [], ([] : List Nat).Nodup]) (by kernel_rfl) (by kernel_rfl) (sound _ _) ⟨hb256, (by first | omega | (simp only [zlm, zla, zlc, zln, zls, zlr, zlt, zld, lens_api_Re]; done) | (simp only [zlm, zla, zlc, zln, zls, zlr, zlt, zld, lens_api_Re]; omega) | (simp only [zlm, zla, zlc, zln, zls, zlr, zlt, zld, lens_api_Re] at *; omega)), hc257.1, (by have h_ := hc257.2; (try simp only [zlm, zla, zlc, zln, zls, zlr, zlt, zld, lens_api_Re] at h_ ⊢); omega), (by first | omega | (simp only [zlm, zla, zlc, zln, zls, zlr, zlt, zld, lens_api_Re]; done) | (simp only [zlm, zla, zlc, zln, zls, zlr, zlt, zld, lens_api_Re]; omega) | (simp only [zlm, zla, zlc, zln, zls, zlr, zlt, zld, lens_api_Re] at *; omega)), (get_of_idx (idx_map _ hy258)), (by first | omega | (simp only [zlm, zla, zlc, zln, zls, zlr, zlt, zld, lens_api_Re]; done) | (simp only [zlm, zla, zlc, zln, zls, zlr, zlt, zld, lens_api_Re]; omega) | (simp only [zlm, zla, zlc, zln, zls, zlr, zlt, zld, lens_api_Re] at *; omega)), hc259.1, (by have h_ := hc259.2; (try simp only [zlm, zla, zlc, zln, zls, zlr, zlt, zld, lens_api_Re] at h_ ⊢); omega), (by first | omega | (simp only [zlm, zla, zlc, zln, zls, zlr, zlt, zld, lens_api_Re]; done) | (simp only [zlm, zla, zlc, zln, zls, zlr, zlt, zld, lens_api_Re]; omega) | (simp only [zlm, zla, zlc, zln, zls, zlr, zlt, zld, lens_api_Re] at *; omega)), (get_of_idx (idx_map _ hy260)), (F104_ok k _ _ _ hy261), (by decide), trivial⟩ ?_
            exact ⟨(decide (y261 < 0)), by kernel_rfl, by kernel_rfl, hF⟩
          · have hF := cond_f hF hb256
            refine WA.regD (by kernel_rfl) [0, 1, 2, 3, 8, 9, 34] [0] [(3, .bool false), (14, .callR [] (.tup []))] (env' := [(0, .val false [.arr 0 v254]), (1, one (.int .i64 v1)), (2, one (.int .i64 v2)), (3, .val false [.pv (.fn 104)]), (8, one (.int .i64 v216)), (9, one (.int .i64 v255)), (34, one (.bool false))]) (os' := [(0, .arr 2 (v253.map e_api_Range))]) (O := [(decide (v255 > v1)) = false]) (by kernel_rfl) (by kernel_rfl) (sound _ _) ⟨hb256, trivial⟩ ?_
            exact ⟨false, by kernel_rfl, by kernel_rfl, hF⟩
    · have hF := cond_f hF hb217
      refine WA.exit ?_
      obtain rfl := Option.some.inj hF
      exact out_nrm (.tup []) [.arr 2 (v214.map e_api_Range)] (by kernel_rfl) (by kernel_rfl) (by kernel_rfl) (by kernel_rfl) (by decide) rfl rfl
/-! slices.pdqsortCmpFunc entrepot api.Range  -/
def F121_b0 (k : Nat) (v0 : List api_Range) (v1 : Int) (v2 : Int) (v3 : Int) : Option (List api_Range) :=
  ((cond (decide ((w64 (v2 - v1)) ≤ 12)) ((F149 k v0 v1 v2).bind fun y107 => if y107.length = v0.length then (some y107) else none) (((cond (v3 == 0) (none) (((none))))))))
def F121_l0 (k : Nat) (v0 : List api_Range) (v1 : Int) (v2 : Int) (v3 : Int) : Nat → Option (List api_Range)
  | 0 => none
  | m_ + 1 => F121_b0 k v0 v1 v2 v3
def F121 (k : Nat) (v0 : List api_Range) (v1 : Int) (v2 : Int) (v3 : Int) : Option (List api_Range) :=
  ((F121_l0 k v0 v1 v2 v3 k))
theorem F121_ok (k : Nat) (v0 : List api_Range) (v1 : Int) (v2 : Int) (v3 : Int) (r : List api_Range) (hF : F121 k v0 v1 v2 v3 = some r) {n0 : Nat} (hn_n0 : n0 = v0.length) : Sim Tryz.prog GL0 121 [.val false [.arr 0 n0], one (.int .i64 v1), one (.int .i64 v2), one (.int .i64 v3), .val false [.pv (.fn 104)]] [.arr 2 (v0.map e_api_Range)] (.tup []) [.arr 2 (r.map e_api_Range)] := by
  refine sim_of [0] Tryz.func121 rfl (by kernel_rfl) (by kernel_rfl) ?_
  show WA _ _ 148 _ _ _
  refine WA.seq ?_
  refine WA.reg [0, 1, 2, 3, 4, 10] [0] [] (env' := [(0, .val false [.arr 0 n0]), (1, one (.int .i64 v1)), (2, one (.int .i64 v2)), (3, one (.int .i64 v3)), (4, .val false [.pv (.fn 104)]), (10, one (.bool true))]) (os' := [(0, .arr 2 (v0.map e_api_Range))]) (O := []) (by kernel_rfl) (sound _ _) trivial ?_
  refine WA.seq ?_
  refine WA.reg [0, 1, 2, 3, 4, 10, 11] [0] [] (env' := [(0, .val false [.arr 0 n0]), (1, one (.int .i64 v1)), (2, one (.int .i64 v2)), (3, one (.int .i64 v3)), (4, .val false [.pv (.fn 104)]), (10, one (.bool true)), (11, one (.bool true))]) (os' := [(0, .arr 2 (v0.map e_api_Range))]) (O := []) (by kernel_rfl) (sound _ _) trivial ?_
  refine WA.block ?_
  refine WA.loop (fun m s_ => pickE s_.env [0, 1, 2, 3, 4, 10, 11] = [(0, .val false [.arr 0 n0]), (1, one (.int .i64 v1)), (2, one (.int .i64 v2)), (3, one (.int .i64 v3)), (4, .val false [.pv (.fn 104)]), (10, one (.bool true)), (11, one (.bool true))] ∧ pickE s_.os [0] = [(0, .arr 2 (v0.map e_api_Range))] ∧ F121_l0 k v0 v1 v2 v3 m = some r) k ⟨by kernel_rfl, by kernel_rfl, hF⟩ ?_
  clear hF
  rintro m0 s_ ⟨he, ho, hF⟩
  refine WA.keep _ _ he ho ?_
  clear he ho
  cases m0 with
  | zero => cases hF
  | succ m0 =>
    obtain ⟨self0, hself0⟩ : ∃ g, g = F121_l0 k v0 v1 v2 v3 m0 := ⟨_, rfl⟩
    have hF : F121_b0 k v0 v1 v2 v3 = some r := by first | (rw [hself0]; exact hF) | exact hF
    refine WA.block ?_
    refine WA.seq ?_
    refine WA.reg [0, 1, 2, 3, 4, 10, 11, 12] [0] [] (env' := [(0, .val false [.arr 0 n0]), (1, one (.int .i64 v1)), (2, one (.int .i64 v2)), (3, one (.int .i64 v3)), (4, .val false [.pv (.fn 104)]), (10, one (.bool true)), (11, one (.bool true)), (12, one (.int .i64 (w64 (v2 - v1))))]) (os' := [(0, .arr 2 (v0.map e_api_Range))]) (O := []) (by kernel_rfl) (sound _ _) trivial ?_
    refine WA.seq ?_
    refine WA.seq ?_
    refine WA.reg [0, 1, 2, 3, 4, 10, 11, 12, 25] [0] [] (env' := [(0, .val false [.arr 0 n0]), (1, one (.int .i64 v1)), (2, one (.int .i64 v2)), (3, one (.int .i64 v3)), (4, .val false [.pv (.fn 104)]), (10, one (.bool true)), (11, one (.bool true)), (12, one (.int .i64 (w64 (v2 - v1)))), (25, one (.bool (decide ((w64 (v2 - v1)) ≤ 12))))]) (os' := [(0, .arr 2 (v0.map e_api_Range))]) (O := []) (by kernel_rfl) (sound _ _) trivial ?_
    refine WA.cond (b := (decide ((w64 (v2 - v1)) ≤ 12))) rfl (fun hb106 => ?_) (fun hb106 => ?_)
    · have hF := cond_t hF hb106
      refine WA.seq ?_
      obtain ⟨y107, hy107, hF⟩ := bind_some hF
      obtain ⟨hl108, hF⟩ := if_some hF
      refine WA.reg [] [0] [(4, .call [0] (.tup []) [.arr 2 (y107.map e_api_Range)] [])] (env' := []) (os' := [(0, .arr 2 (y107.map e_api_Range))]) (O := [Sim Tryz.prog GL0 149 [.val false [.arr 0 n0], one (.int .i64 v1), one (.int .i64 v2), .val false [.pv (.fn 104)]] [.arr 2 (v0.map e_api_Range)] (.tup []) [.arr 2 (y107.map e_api_Range)], ([0] : List Nat).Nodup]) (by kernel_rfl) (sound _ _) ⟨(F149_ok k _ _ _ _ hy107 (n0 := n0) (by first | omega | (simp only [zlm, zla, zlc, zln, zls, zlr, zlt, zld, lens_api_Re]; done) | (simp only [zlm, zla, zlc, zln, zls, zlr, zlt, zld, lens_api_Re]; omega) | (simp only [zlm, zla, zlc, zln, zls, zlr, zlt, zld, lens_api_Re] at *; omega))), (by decide), trivial⟩ ?_
      refine WA.ret ?_
      obtain rfl := Option.some.inj hF
      exact out_ret (.tup []) [.arr 2 (y107.map e_api_Range)] (by kernel_rfl) (by kernel_rfl) (by kernel_rfl) (by kernel_rfl) (by decide) rfl rfl
    · have hF := cond_f hF hb106
      refine WA.skip ?_
      refine WA.seq ?_
      refine WA.seq ?_
      refine WA.reg [0, 1, 2, 3, 4, 10, 11, 12, 32] [0] [] (env' := [(0, .val false [.arr 0 n0]), (1, one (.int .i64 v1)), (2, one (.int .i64 v2)), (3, one (.int .i64 v3)), (4, .val false [.pv (.fn 104)]), (10, one (.bool true)), (11, one (.bool true)), (12, one (.int .i64 (w64 (v2 - v1)))), (32, one (.bool (v3 == 0)))]) (os' := [(0, .arr 2 (v0.map e_api_Range))]) (O := []) (by kernel_rfl) (sound _ _) trivial ?_
      refine WA.cond (b := (v3 == 0)) rfl (fun hb109 => ?_) (fun hb109 => ?_)
      · have hF := cond_t hF hb109
        cases hF
      · have hF := cond_f hF hb109
        refine WA.skip ?_
        refine WA.seq ?_
        refine WA.seq ?_
        refine WA.reg [0, 1, 2, 3, 4, 10, 11, 12, 39] [0] [] (env' := [(0, .val false [.arr 0 n0]), (1, one (.int .i64 v1)), (2, one (.int .i64 v2)), (3, one (.int .i64 v3)), (4, .val false [.pv (.fn 104)]), (10, one (.bool true)), (11, one (.bool true)), (12, one (.int .i64 (w64 (v2 - v1)))), (39, one (.bool false))]) (os' := [(0, .arr 2 (v0.map e_api_Range))]) (O := []) (by kernel_rfl) (sound _ _) trivial ?_
        refine WA.cond (b := false) rfl (fun hb110 => by cases hb110) (fun hb110 => ?_)
        refine WA.skip ?_
        cases hF
/-! slices.SortFunc   entrepot api.Range entrepot api.Range  -/
def F103 (k : Nat) (v0 : List api_Range) : Option (List api_Range) :=
  (F112 k (IntKind.wrap .u64 (v0.length : Int))).bind fun y101 => (F121 k v0 0 (v0.length : Int) y101).bind fun y102 => if y102.length = v0.length then some y102 else none
theorem F103_ok (k : Nat) (v0 : List api_Range) (r : List api_Range) (hF : F103 k v0 = some r) {n0 : Nat} (hn_n0 : n0 = v0.length) : Sim Tryz.prog GL0 103 [.val false [.arr 0 n0], .val false [.pv (.fn 104)]] [.arr 2 (v0.map e_api_Range)] (.tup []) [.arr 2 (r.map e_api_Range)] := by
  refine sim_of [0] Tryz.func103 rfl (by kernel_rfl) (by kernel_rfl) ?_
  show WA _ _ 14 _ _ _
  refine WA.seq ?_
  refine WA.regM (α := Int) (raw := ((n0 : Nat) : Int)) (can := (v0.length : Int)) (fun m_ => ([(0, .val false [.arr 0 n0]), (1, .val false [.pv (.fn 104)]), (4, one (.int .i64 m_))], [(0, .arr 2 (v0.map e_api_Range))], [])) ((by first | (simp only [zlm, zla, zlc, zln, zls, zlr, zlt, zld, lens_api_Re]; done) | (simp only [zlm, zla, zlc, zln, zls, zlr, zlt, zld, lens_api_Re]; omega) | omega)) [0, 1, 4] [0] [] (env' := [(0, .val false [.arr 0 n0]), (1, .val false [.pv (.fn 104)]), (4, one (.int .i64 (v0.length : Int)))]) (os' := [(0, .arr 2 (v0.map e_api_Range))]) (O := []) (by kernel_rfl) (by kernel_rfl) (sound _ _) trivial ?_
  obtain ⟨y101, hy101, hF⟩ := bind_some hF
  obtain ⟨y102, hy102, hF⟩ := bind_some hF
  obtain ⟨hl103, hF⟩ := if_some hF
  refine WA.reg [] [0] [(4, .callR [] (one (.int .i64 y101))), (6, .call [0] (.tup []) [.arr 2 (y102.map e_api_Range)] [])] (env' := []) (os' := [(0, .arr 2 (y102.map e_api_Range))]) (O := [Sim Tryz.prog GL0 112 [one (.int .u64 (IntKind.wrap .u64 (v0.length : Int)))] [] (one (.int .i64 y101)) [], ([] : List Nat).Nodup, Sim Tryz.prog GL0 121 [.val false [.arr 0 n0], one (.int .i64 0), one (.int .i64 (v0.length : Int)), one (.int .i64 y101), .val false [.pv (.fn 104)]] [.arr 2 (v0.map e_api_Range)] (.tup []) [.arr 2 (y102.map e_api_Range)], ([0] : List Nat).Nodup]) (by kernel_rfl) (sound _ _) ⟨(F112_ok k _ _ hy101), (by decide), (F121_ok k _ _ _ _ _ hy102 (n0 := n0) (by first | omega | (simp only [zlm, zla, zlc, zln, zls, zlr, zlt, zld, lens_api_Re]; done) | (simp only [zlm, zla, zlc, zln, zls, zlr, zlt, zld, lens_api_Re]; omega) | (simp only [zlm, zla, zlc, zln, zls, zlr, zlt, zld, lens_api_Re] at *; omega))), (by decide), trivial⟩ ?_
  obtain rfl := Option.some.inj hF
  exact out_nrm (.tup []) [.arr 2 (y102.map e_api_Range)] (by kernel_rfl) (by kernel_rfl) (by kernel_rfl) (by kernel_rfl) (by decide) rfl rfl
/-! entrepot rex.norm -/
def F77_j6 (self4 : (List api_Range) → Int → Option (List api_Range)) (v137 : Int) (v150 : List api_Range) : Option (List api_Range) :=
  self4 v150 (w64 (v137 + 1))
def F77_j5 (self4 : (List api_Range) → Int → Option (List api_Range)) (v135 : List api_Range) (v137 : Int) (y139 : api_Range) (v143 : Bool) : Option (List api_Range) :=
  cond v143 (if (0 : Int) ≤ (w64 ((v135.length : Int) - 1)) ∧ (w64 ((v135.length : Int) - 1)) < (v135.length : Int) then (idxL v135 (w64 ((v135.length : Int) - 1))).bind fun y146 => if (0 : Int) ≤ (w64 ((v135.length : Int) - 1)) ∧ (w64 ((v135.length : Int) - 1)) < (v135.length : Int) then (idxL v135 (w64 ((v135.length : Int) - 1))).bind fun y148 => (F77_j6 self4 v137 (v135.set (Int.toNat (w64 ((v135.length : Int) - 1))) ({ y148 with f_Hi := (mx y146.f_Hi y139.f_Hi) } : api_Range))) else none else none) (if v135.length + ([y139] : List api_Range).length ≤ 1073741824 then (F77_j6 self4 v137 (v135 ++ ([y139] : List api_Range))) else none)
def F77_b4 (self4 : (List api_Range) → Int → Option (List api_Range)) (y102 : List api_Range) (v135 : List api_Range) (v137 : Int) : Option (List api_Range) :=
  (cond (decide (v137 < (y102.length : Int))) ((idxL y102 v137).bind fun y139 => ((cond (decide ((v135.length : Int) > 0)) (if (0 : Int) ≤ (w64 ((v135.length : Int) - 1)) ∧ (w64 ((v135.length : Int) - 1)) < (v135.length : Int) then (idxL v135 (w64 ((v135.length : Int) - 1))).bind fun y142 => (F77_j5 self4 v135 v137 y139 (decide (y139.f_Lo ≤ (w64 (y142.f_Hi + 1))))) else none) ((F77_j5 self4 v135 v137 y139 false))))) (((some v135))))
def F77_l4 (y102 : List api_Range) : Nat → (List api_Range) → Int → Option (List api_Range)
  | 0, _, _ => none
  | m_ + 1, v135, v137 => F77_b4 (F77_l4 y102 m_) y102 v135 v137
def F77 (k : Nat) (v0 : List api_Range) : Option (List api_Range) :=
  (F102 k v0).bind fun y101 => (F103 k y101).bind fun y102 => if y102.length = y101.length then (((F77_l4 y102 k ([] : List api_Range) 0))) else none
theorem F77_ok (k : Nat) (v0 : List api_Range) (r : List api_Range) (hF : F77 k v0 = some r) : Sim Tryz.prog GL0 77 [one (.sl (v0.map e_api_Range))] [] (one (.sl (r.map e_api_Range))) [] := by
  refine sim_of [] Tryz.func77 rfl (by kernel_rfl) (by kernel_rfl) ?_
  show WA _ _ 53 _ _ _
  refine WA.seq ?_
  refine WA.reg [0] [] [] (env' := [(0, one (.sl (v0.map e_api_Range)))]) (os' := []) (O := []) (by kernel_rfl) (sound _ _) trivial ?_
  refine WA.seq ?_
  obtain ⟨y101, hy101, hF⟩ := bind_some hF
  refine WA.reg [0] [108] [(1, .call [] (.val false [.arr 0 y101.length]) [.arr 2 (y101.map e_api_Range)] [108])] (env' := [(0, .val false [.arr 108 y101.length])]) (os' := [(108, .arr 2 (y101.map e_api_Range))]) (O := [Sim Tryz.prog GL0 102 [one (.sl (v0.map e_api_Range))] [] (.val false [.arr 0 y101.length]) [.arr 2 (y101.map e_api_Range)], ([] : List Nat).Nodup]) (by kernel_rfl) (sound _ _) ⟨(F102_ok k _ _ hy101), (by decide), trivial⟩ ?_
  refine WA.seq ?_
  obtain ⟨y102, hy102, hF⟩ := bind_some hF
  obtain ⟨hl103, hF⟩ := if_some hF
  refine WA.reg [0] [108] [(1, .call [108] (.tup []) [.arr 2 (y102.map e_api_Range)] [])] (env' := [(0, .val false [.arr 108 y101.length])]) (os' := [(108, .arr 2 (y102.map e_api_Range))]) (O := [Sim Tryz.prog GL0 103 [.val false [.arr 0 y101.length], .val false [.pv (.fn 104)]] [.arr 2 (y101.map e_api_Range)] (.tup []) [.arr 2 (y102.map e_api_Range)], ([108] : List Nat).Nodup]) (by kernel_rfl) (sound _ _) ⟨(F103_ok k _ _ hy102 (n0 := y101.length) (by first | omega | (simp only [zlm, zla, zlc, zln, zls, zlr, zlt, zld, lens_api_Re]; done) | (simp only [zlm, zla, zlc, zln, zls, zlr, zlt, zld, lens_api_Re]; omega) | (simp only [zlm, zla, zlc, zln, zls, zlr, zlt, zld, lens_api_Re] at *; omega))), (by decide), trivial⟩ ?_
  refine WA.seq ?_
  refine WA.reg [0, 3] [103, 108] [(0, .obj 103)] (env' := [(0, .val false [.arr 108 y101.length]), (3, .val false [.arr 103 0])]) (os' := [(103, .arr 2 (([] : List api_Range).map e_api_Range)), (108, .arr 2 (y102.map e_api_Range))]) (O := []) (by kernel_rfl) (sound _ _) trivial ?_
  refine WA.seq ?_
  refine WA.seq ?_
  refine WA.regM (α := Int) (raw := ((y101.length : Nat) : Int)) (can := (y102.length : Int)) (fun m_ => ([(3, .val false [.arr 103 0]), (11, .val false [.arr 108 y101.length]), (12, one (.int .i64 m_)), (13, one (.int .i64 0))], [(103, .arr 2 (([] : List api_Range).map e_api_Range)), (108, .arr 2 (y102.map e_api_Range))], [])) ((by first | (simp only [zlm, zla, zlc, zln, zls, zlr, zlt, zld, lens_api_Re]; done) | (simp only [zlm, zla, zlc, zln, zls, zlr, zlt, zld, lens_api_Re]; omega) | omega)) [3, 11, 12, 13] [103, 108] [] (env' := [(3, .val false [.arr 103 0]), (11, .val false [.arr 108 y101.length]), (12, one (.int .i64 (y102.length : Int))), (13, one (.int .i64 0))]) (os' := [(103, .arr 2 (([] : List api_Range).map e_api_Range)), (108, .arr 2 (y102.map e_api_Range))]) (O := []) (by kernel_rfl) (by kernel_rfl) (sound _ _) trivial ?_
  refine WA.freeze 108 11 (s := 2) (n := y101.length) (els := (y102.map e_api_Range)) rfl rfl (by first | omega | (simp only [zlm, zla, zlc, zln, zls, zlr, zlt, zld, lens_api_Re]; done) | (simp only [zlm, zla, zlc, zln, zls, zlr, zlt, zld, lens_api_Re]; omega) | (simp only [zlm, zla, zlc, zln, zls, zlr, zlt, zld, lens_api_Re] at *; omega)) ?_
  refine WA.keep [3, 11, 12, 13] [103] (env' := [(3, .val false [.arr 103 0]), (11, one (.sl (y102.map e_api_Range))), (12, one (.int .i64 (y102.length : Int))), (13, one (.int .i64 0))]) (os' := [(103, .arr 2 (([] : List api_Range).map e_api_Range))]) (by kernel_rfl) (by kernel_rfl) ?_
  refine WA.block ?_
  refine WA.loop (fun m s_ => ∃ (v135 : List api_Range) (v136 : Nat) (v137 : Int), pickE s_.env [3, 11, 12, 13] = [(3, .val false [.arr 103 v136]), (11, one (.sl (y102.map e_api_Range))), (12, one (.int .i64 (y102.length : Int))), (13, one (.int .i64 v137))] ∧ pickE s_.os [103] = [(103, .arr 2 (v135.map e_api_Range))] ∧ v136 = (v135 : List _).length ∧ F77_l4 y102 m v135 v137 = some r) k ⟨([] : List api_Range), 0, 0, by kernel_rfl, by kernel_rfl, (by first | omega | (simp only [zlm, zla, zlc, zln, zls, zlr, zlt, zld, lens_api_Re]; done) | (simp only [zlm, zla, zlc, zln, zls, zlr, zlt, zld, lens_api_Re]; omega) | (simp only [zlm, zla, zlc, zln, zls, zlr, zlt, zld, lens_api_Re] at *; omega)), hF⟩ ?_
  clear hF
  rintro m4 s_ ⟨v135, v136, v137, he, ho, hn_v136, hF⟩
  refine WA.keep _ _ he ho ?_
  clear he ho
  cases m4 with
  | zero => cases hF
  | succ m4 =>
    obtain ⟨self4, hself4⟩ : ∃ g, g = F77_l4 y102 m4 := ⟨_, rfl⟩
    have hF : F77_b4 self4 y102 v135 v137 = some r := by first | (rw [hself4]; exact hF) | exact hF
    refine WA.seq ?_
    refine WA.reg [3, 11, 12, 13, 14] [103] [] (env' := [(3, .val false [.arr 103 v136]), (11, one (.sl (y102.map e_api_Range))), (12, one (.int .i64 (y102.length : Int))), (13, one (.int .i64 v137)), (14, one (.bool (decide (v137 < (y102.length : Int)))))]) (os' := [(103, .arr 2 (v135.map e_api_Range))]) (O := []) (by kernel_rfl) (sound _ _) trivial ?_
    refine WA.seq ?_
    refine WA.cond (b := (decide (v137 < (y102.length : Int)))) rfl (fun hb138 => ?_) (fun hb138 => ?_)
    · have hF := cond_t hF hb138
      refine WA.skip ?_
      refine WA.join (fun s_ => ∃ (v150 : List api_Range) (v151 : Nat), pickE s_.env [3, 11, 12, 13] = [(3, .val false [.arr 103 v151]), (11, one (.sl (y102.map e_api_Range))), (12, one (.int .i64 (y102.length : Int))), (13, one (.int .i64 v137))] ∧ pickE s_.os [103] = [(103, .arr 2 (v150.map e_api_Range))] ∧ v151 = (v150 : List _).length ∧ F77_j6 self4 v137 v150 = some r) ?_ ?_
      · rintro s_ ⟨v150, v151, he, ho, hn_v151, hF⟩
        refine WA.keep _ _ he ho ?_
        clear he ho
        refine WA.reg [3, 11, 12, 13] [103] [] (env' := [(3, .val false [.arr 103 v151]), (11, one (.sl (y102.map e_api_Range))), (12, one (.int .i64 (y102.length : Int))), (13, one (.int .i64 (w64 (v137 + 1))))]) (os' := [(103, .arr 2 (v150.map e_api_Range))]) (O := []) (by kernel_rfl) (sound _ _) trivial ?_
        exact ⟨m4, Nat.lt_succ_self _, v150, v151, (w64 (v137 + 1)), by kernel_rfl, by kernel_rfl, (by first | omega | (simp only [zlm, zla, zlc, zln, zls, zlr, zlt, zld, lens_api_Re]; done) | (simp only [zlm, zla, zlc, zln, zls, zlr, zlt, zld, lens_api_Re]; omega) | (simp only [zlm, zla, zlc, zln, zls, zlr, zlt, zld, lens_api_Re] at *; omega)), by rw [hself4] at hF; exact hF⟩
      · refine WA.block ?_
        refine WA.seq ?_
        obtain ⟨y139, hy139, hF⟩ := bind_some hF
        refine WA.reg [3, 5, 11, 12, 13] [103, 105] [(0, .cells (e_api_Range y139)), (2, .obj 105)] (env' := [(3, .val false [.arr 103 v136]), (5, .val false [.ptr 105 1 0 0]), (11, one (.sl (y102.map e_api_Range))), (12, one (.int .i64 (y102.length : Int))), (13, one (.int .i64 v137))]) (os' := [(103, .arr 2 (v135.map e_api_Range)), (105, .box (pvL (e_api_Range y139)))]) (O := [idxL (y102.map e_api_Range) v137 = some (e_api_Range y139)]) (by kernel_rfl) (sound _ _) ⟨(idx_map _ hy139), trivial⟩ ?_
        refine WA.seq ?_
        refine WA.regM (α := Int) (raw := ((v136 : Nat) : Int)) (can := (v135.length : Int)) (fun m_ => ([(3, .val false [.arr 103 v136]), (5, .val false [.ptr 105 1 0 0]), (6, one (.int .i64 m_)), (11, one (.sl (y102.map e_api_Range))), (12, one (.int .i64 (y102.length : Int))), (13, one (.int .i64 v137))], [(103, .arr 2 (v135.map e_api_Range)), (105, .box (pvL (e_api_Range y139)))], [])) ((by first | (simp only [zlm, zla, zlc, zln, zls, zlr, zlt, zld, lens_api_Re]; done) | (simp only [zlm, zla, zlc, zln, zls, zlr, zlt, zld, lens_api_Re]; omega) | omega)) [3, 5, 6, 11, 12, 13] [103, 105] [] (env' := [(3, .val false [.arr 103 v136]), (5, .val false [.ptr 105 1 0 0]), (6, one (.int .i64 (v135.length : Int))), (11, one (.sl (y102.map e_api_Range))), (12, one (.int .i64 (y102.length : Int))), (13, one (.int .i64 v137))]) (os' := [(103, .arr 2 (v135.map e_api_Range)), (105, .box (pvL (e_api_Range y139)))]) (O := []) (by kernel_rfl) (by kernel_rfl) (sound _ _) trivial ?_
        refine WA.join (fun s_ => ∃ (v143 : Bool), pickE s_.env [3, 5, 6, 11, 12, 13, 32] = [(3, .val false [.arr 103 v136]), (5, .val false [.ptr 105 1 0 0]), (6, one (.int .i64 (v135.length : Int))), (11, one (.sl (y102.map e_api_Range))), (12, one (.int .i64 (y102.length : Int))), (13, one (.int .i64 v137)), (32, one (.bool v143))] ∧ pickE s_.os [103, 105] = [(103, .arr 2 (v135.map e_api_Range)), (105, .box (pvL (e_api_Range y139)))] ∧ F77_j5 self4 v135 v137 y139 v143 = some r) ?_ ?_
        · rintro s_ ⟨v143, he, ho, hF⟩
          refine WA.keep _ _ he ho ?_
          clear he ho
          refine WA.cond (b := v143) rfl (fun hb144 => ?_) (fun hb144 => ?_)
          · have hF := cond_t hF hb144
            obtain ⟨hc145, hF⟩ := if_some hF
            obtain ⟨y146, hy146, hF⟩ := bind_some hF
            obtain ⟨hc147, hF⟩ := if_some hF
            obtain ⟨y148, hy148, hF⟩ := bind_some hF
            refine WA.regDM (α := (List (List PV))) (raw := ((v135.map e_api_Range).set (Int.toNat (w64 ((v135.length : Int) - 1))) (e_api_Range ({ y148 with f_Hi := (mx y146.f_Hi y139.f_Hi) } : api_Range)))) (can := ((v135.set (Int.toNat (w64 ((v135.length : Int) - 1))) ({ y148 with f_Hi := (mx y146.f_Hi y139.f_Hi) } : api_Range)).map e_api_Range)) (fun m_ => ([(3, .val false [.arr 103 v136]), (11, one (.sl (y102.map e_api_Range))), (12, one (.int .i64 (y102.length : Int))), (13, one (.int .i64 v137))], [(103, .arr 2 m_)], [v136 = (v135.map e_api_Range).length, (0 : Int) ≤ (w64 ((v135.length : Int) - 1)), (w64 ((v135.length : Int) - 1)) < ((v136 : Nat) : Int), v136 = (v135.map e_api_Range).length, 0 < v136, v136 = (v135.map e_api_Range).length, (v135.map e_api_Range)[Int.toNat (w64 ((v135.length : Int) - 1))]? = some (e_api_Range y146), v136 = (v135.map e_api_Range).length, (0 : Int) ≤ (w64 ((v135.length : Int) - 1)), (w64 ((v135.length : Int) - 1)) < ((v136 : Nat) : Int), v136 = (v135.map e_api_Range).length, 0 < v136, v136 = (v135.map e_api_Range).length, (v135.map e_api_Range)[Int.toNat (w64 ((v135.length : Int) - 1))]? = some (e_api_Range y148)])) ((by first | (simp only [len_map, app_map, take_map, drop_map, set_map, rep_map, lens_api_Re, app_api_Re, take_api_Re, drop_api_Re, set_api_Re, es_api_Re, e0_eq_api_Re]; done) | (simp only [List.map_append, List.map_cons, List.map_nil, List.map_take, List.map_drop, List.map_set, List.map_replicate, List.length_map, es_map_api_Re, e0_eq_api_Re]; done))) [3, 11, 12, 13] [103] [(8, .cells (e_api_Range y146)), (14, .cells (e_api_Range y148))] (env' := [(3, .val false [.arr 103 v136]), (11, one (.sl (y102.map e_api_Range))), (12, one (.int .i64 (y102.length : Int))), (13, one (.int .i64 v137))]) (os' := [(103, .arr 2 ((v135.set (Int.toNat (w64 ((v135.length : Int) - 1))) ({ y148 with f_Hi := (mx y146.f_Hi y139.f_Hi) } : api_Range)).map e_api_Range))]) (O := [v136 = (v135.map e_api_Range).length, (0 : Int) ≤ (w64 ((v135.length : Int) - 1)), (w64 ((v135.length : Int) - 1)) < ((v136 : Nat) : Int), v136 = (v135.map e_api_Range).length, 0 < v136, v136 = (v135.map e_api_Range).length, (v135.map e_api_Range)[Int.toNat (w64 ((v135.length : Int) - 1))]? = some (e_api_Range y146), v136 = (v135.map e_api_Range).length, (0 : Int) ≤ (w64 ((v135.length : Int) - 1)), (w64 ((v135.length : Int) - 1)) < ((v136 : Nat) : Int), v136 = (v135.map e_api_Range).length, 0 < v136, v136 = (v135.map e_api_Range).length, (v135.map e_api_Range)[Int.toNat (w64 ((v135.length : Int) - 1))]? = some (e_api_Range y148)]) (by kernel_rfl) (by kernel_rfl) (by kernel_rfl) (by kernel_rfl) (sound _ _) ⟨(by first | omega | (simp only [zlm, zla, zlc, zln, zls, zlr, zlt, zld, lens_api_Re]; done) | (simp only [zlm, zla, zlc, zln, zls, zlr, zlt, zld, lens_api_Re]; omega) | (simp only [zlm, zla, zlc, zln, zls, zlr, zlt, zld, lens_api_Re] at *; omega)), hc145.1, (by have h_ := hc145.2; (try simp only [zlm, zla, zlc, zln, zls, zlr, zlt, zld, lens_api_Re] at h_ ⊢); omega), (by first | omega | (simp only [zlm, zla, zlc, zln, zls, zlr, zlt, zld, lens_api_Re]; done) | (simp only [zlm, zla, zlc, zln, zls, zlr, zlt, zld, lens_api_Re]; omega) | (simp only [zlm, zla, zlc, zln, zls, zlr, zlt, zld, lens_api_Re] at *; omega)), (by omega), (by first | omega | (simp only [zlm, zla, zlc, zln, zls, zlr, zlt, zld, lens_api_Re]; done) | (simp only [zlm, zla, zlc, zln, zls, zlr, zlt, zld, lens_api_Re]; omega) | (simp only [zlm, zla, zlc, zln, zls, zlr, zlt, zld, lens_api_Re] at *; omega)), (get_of_idx (idx_map _ hy146)), (by first | omega | (simp only [zlm, zla, zlc, zln, zls, zlr, zlt, zld, lens_api_Re]; done) | (simp only [zlm, zla, zlc, zln, zls, zlr, zlt, zld, lens_api_Re]; omega) | (simp only [zlm, zla, zlc, zln, zls, zlr, zlt, zld, lens_api_Re] at *; omega)), hc147.1, (by have h_ := hc147.2; (try simp only [zlm, zla, zlc, zln, zls, zlr, zlt, zld, lens_api_Re] at h_ ⊢); omega), (by first | omega | (simp only [zlm, zla, zlc, zln, zls, zlr, zlt, zld, lens_api_Re]; done) | (simp only [zlm, zla, zlc, zln, zls, zlr, zlt, zld, lens_api_Re]; omega) | (simp only [zlm, zla, zlc, zln, zls, zlr, zlt, zld, lens_api_Re] at *; omega)), (by omega), (by first | omega | (simp only [zlm, zla, zlc, zln, zls, zlr, zlt, zld, lens_api_Re]; done) | (simp only [zlm, zla, zlc, zln, zls, zlr, zlt, zld, lens_api_Re]; omega) | (simp only [zlm, zla, zlc, zln, zls, zlr, zlt, zld, lens_api_Re] at *; omega)), (get_of_idx (idx_map _ hy148)), trivial⟩ ?_
            exact ⟨(v135.set (Int.toNat (w64 ((v135.length : Int) - 1))) ({ y148 with f_Hi := (mx y146.f_Hi y139.f_Hi) } : api_Range)), v136, by kernel_rfl, by kernel_rfl, (by first | omega | (simp only [zlm, zla, zlc, zln, zls, zlr, zlt, zld, lens_api_Re]; done) | (simp only [zlm, zla, zlc, zln, zls, zlr, zlt, zld, lens_api_Re]; omega) | (simp only [zlm, zla, zlc, zln, zls, zlr, zlt, zld, lens_api_Re] at *; omega)), hF⟩
          · have hF := cond_f hF hb144
            obtain ⟨hc149, hF⟩ := if_some hF
            refine WA.regM (α := (List (List PV))) (raw := ((v135.map e_api_Range) ++ (([y139] : List api_Range).map e_api_Range))) (can := ((v135 ++ ([y139] : List api_Range)).map e_api_Range)) (fun m_ => ([(3, .val false [.arr 103 (v136 + 1)]), (11, one (.sl (y102.map e_api_Range))), (12, one (.int .i64 (y102.length : Int))), (13, one (.int .i64 v137))], [(103, .arr 2 m_)], [v136 = (v135.map e_api_Range).length, (v135.map e_api_Range).length + (([y139] : List api_Range).map e_api_Range).length ≤ 1073741824, ∀ es, es ∈ (([y139] : List api_Range).map e_api_Range) → es.length = 2])) ((by first | (simp only [len_map, app_map, take_map, drop_map, set_map, rep_map, lens_api_Re, app_api_Re, take_api_Re, drop_api_Re, set_api_Re, es_api_Re, e0_eq_api_Re]; done) | (simp only [List.map_append, List.map_cons, List.map_nil, List.map_take, List.map_drop, List.map_set, List.map_replicate, List.length_map, es_map_api_Re, e0_eq_api_Re]; done))) [3, 11, 12, 13] [103] [] (env' := [(3, .val false [.arr 103 (v136 + 1)]), (11, one (.sl (y102.map e_api_Range))), (12, one (.int .i64 (y102.length : Int))), (13, one (.int .i64 v137))]) (os' := [(103, .arr 2 ((v135 ++ ([y139] : List api_Range)).map e_api_Range))]) (O := [v136 = (v135.map e_api_Range).length, (v135.map e_api_Range).length + (([y139] : List api_Range).map e_api_Range).length ≤ 1073741824, ∀ es, es ∈ (([y139] : List api_Range).map e_api_Range) → es.length = 2]) (by kernel_rfl) (by kernel_rfl) (sound _ _) ⟨(by first | omega | (simp only [zlm, zla, zlc, zln, zls, zlr, zlt, zld, lens_api_Re]; done) | (simp only [zlm, zla, zlc, zln, zls, zlr, zlt, zld, lens_api_Re]; omega) | (simp only [zlm, zla, zlc, zln, zls, zlr, zlt, zld, lens_api_Re] at *; omega)), (by first | exact hc149 | (simp only [List.length_map, lens_api_Re] ; exact hc149)), (len_api_Range ([y139] : List api_Range)), trivial⟩ ?_
            exact ⟨(v135 ++ ([y139] : List api_Range)), (v136 + 1), by kernel_rfl, by kernel_rfl, (by first | omega | (simp only [zlm, zla, zlc, zln, zls, zlr, zlt, zld, lens_api_Re]; done) | (simp only [zlm, zla, zlc, zln, zls, zlr, zlt, zld, lens_api_Re]; omega) | (simp only [zlm, zla, zlc, zln, zls, zlr, zlt, zld, lens_api_Re] at *; omega)), hF⟩
        · rcases Bool.eq_false_or_eq_true (decide ((v135.length : Int) > 0)) with hb140 | hb140
          · have hF := cond_t hF hb140
            obtain ⟨hc141, hF⟩ := if_some hF
            obtain ⟨y142, hy142, hF⟩ := bind_some hF
            refine WA.regD (by kernel_rfl) [3, 5, 6, 11, 12, 13, 32] [103, 105] [(2, .bool true), (10, .cells (e_api_Range y142))] (env' := [(3, .val false [.arr 103 v136]), (5, .val false [.ptr 105 1 0 0]), (6, one (.int .i64 (v135.length : Int))), (11, one (.sl (y102.map e_api_Range))), (12, one (.int .i64 (y102.length : Int))), (13, one (.int .i64 v137)), (32, one (.bool (decide (y139.f_Lo ≤ (w64 (y142.f_Hi + 1))))))]) (os' := [(103, .arr 2 (v135.map e_api_Range)), (105, .box (pvL (e_api_Range y139)))]) (O := [(decide ((v135.length : Int) > 0)) = true, v136 = (v135.map e_api_Range).length, (0 : Int) ≤ (w64 ((v135.length : Int) - 1)), (w64 ((v135.length : Int) - 1)) < ((v136 : Nat) : Int), v136 = (v135.map e_api_Range).length, 0 < v136, v136 = (v135.map e_api_Range).length, (v135.map e_api_Range)[Int.toNat (w64 ((v135.length : Int) - 1))]? = some (e_api_Range y142)]) (by kernel_rfl) (by kernel_rfl) (sound _ _) ⟨hb140, (by first | omega | (simp only [zlm, zla, zlc, zln, zls, zlr, zlt, zld, lens_api_Re]; done) | (simp only [zlm, zla, zlc, zln, zls, zlr, zlt, zld, lens_api_Re]; omega) | (simp only [zlm, zla, zlc, zln, zls, zlr, zlt, zld, lens_api_Re] at *; omega)), hc141.1, (by have h_ := hc141.2; (try simp only [zlm, zla, zlc, zln, zls, zlr, zlt, zld, lens_api_Re] at h_ ⊢); omega), (by first | omega | (simp only [zlm, zla, zlc, zln, zls, zlr, zlt, zld, lens_api_Re]; done) | (simp only [zlm, zla, zlc, zln, zls, zlr, zlt, zld, lens_api_Re]; omega) | (simp only [zlm, zla, zlc, zln, zls, zlr, zlt, zld, lens_api_Re] at *; omega)), (by omega), (by first | omega | (simp only [zlm, zla, zlc, zln, zls, zlr, zlt, zld, lens_api_Re]; done) | (simp only [zlm, zla, zlc, zln, zls, zlr, zlt, zld, lens_api_Re]; omega) | (simp only [zlm, zla, zlc, zln, zls, zlr, zlt, zld, lens_api_Re] at *; omega)), (get_of_idx (idx_map _ hy142)), trivial⟩ ?_
            exact ⟨(decide (y139.f_Lo ≤ (w64 (y142.f_Hi + 1)))), by kernel_rfl, by kernel_rfl, hF⟩
          · have hF := cond_f hF hb140
            refine WA.regD (by kernel_rfl) [3, 5, 6, 11, 12, 13, 32] [103, 105] [(2, .bool false)] (env' := [(3, .val false [.arr 103 v136]), (5, .val false [.ptr 105 1 0 0]), (6, one (.int .i64 (v135.length : Int))), (11, one (.sl (y102.map e_api_Range))), (12, one (.int .i64 (y102.length : Int))), (13, one (.int .i64 v137)), (32, one (.bool false))]) (os' := [(103, .arr 2 (v135.map e_api_Range)), (105, .box (pvL (e_api_Range y139)))]) (O := [(decide ((v135.length : Int) > 0)) = false]) (by kernel_rfl) (by kernel_rfl) (sound _ _) ⟨hb140, trivial⟩ ?_
            exact ⟨false, by kernel_rfl, by kernel_rfl, hF⟩
    · have hF := cond_f hF hb138
      refine WA.exit ?_
      refine WA.seq ?_
      refine WA.reg [2] [103] [] (env' := [(2, .val false [.arr 103 v136])]) (os' := [(103, .arr 2 (v135.map e_api_Range))]) (O := []) (by kernel_rfl) (sound _ _) trivial ?_
      refine WA.freeze 103 2 (s := 2) (n := v136) (els := (v135.map e_api_Range)) rfl rfl (by first | omega | (simp only [zlm, zla, zlc, zln, zls, zlr, zlt, zld, lens_api_Re]; done) | (simp only [zlm, zla, zlc, zln, zls, zlr, zlt, zld, lens_api_Re]; omega) | (simp only [zlm, zla, zlc, zln, zls, zlr, zlt, zld, lens_api_Re] at *; omega)) ?_
      refine WA.keep [2] [] (env' := [(2, one (.sl (v135.map e_api_Range)))]) (os' := []) (by kernel_rfl) (by kernel_rfl) ?_
      refine WA.ret ?_
      obtain rfl := Option.some.inj hF
      exact out_ret (one (.sl (v135.map e_api_Range))) [] (by kernel_rfl) (by kernel_rfl) (by kernel_rfl) (by kernel_rfl) (by decide) rfl rfl
/-! entrepot rex.meet -/
def F76_j12 (self11 : (List api_Range) → Int → Option (List api_Range)) (v178 : Int) (v183 : List api_Range) : Option (List api_Range) :=
  self11 v183 (w64 (v178 + 1))
def F76_b11 (self8 : (List api_Range) → Int → Option (List api_Range)) (self11 : (List api_Range) → Int → Option (List api_Range)) (v1 : List api_Range) (v158 : Int) (y160 : api_Range) (v176 : List api_Range) (v178 : Int) : Option (List api_Range) :=
  (cond (decide (v178 < (v1.length : Int))) ((idxL v1 v178).bind fun y180 => (((cond (decide ((mx y160.f_Lo y180.f_Lo) ≤ (mn y160.f_Hi y180.f_Hi))) (if v176.length + ([(⟨(mx y160.f_Lo y180.f_Lo), (mn y160.f_Hi y180.f_Hi)⟩ : api_Range)] : List api_Range).length ≤ 1073741824 then (F76_j12 self11 v178 (v176 ++ ([(⟨(mx y160.f_Lo y180.f_Lo), (mn y160.f_Hi y180.f_Hi)⟩ : api_Range)] : List api_Range))) else none) ((F76_j12 self11 v178 v176)))))) ((self8 v176 (w64 (v158 + 1)))))
def F76_l11 (self8 : (List api_Range) → Int → Option (List api_Range)) (v1 : List api_Range) (v158 : Int) (y160 : api_Range) : Nat → (List api_Range) → Int → Option (List api_Range)
  | 0, _, _ => none
  | m_ + 1, v176, v178 => F76_b11 self8 (F76_l11 self8 v1 v158 y160 m_) v1 v158 y160 v176 v178
def F76_b8 (k : Nat) (self8 : (List api_Range) → Int → Option (List api_Range)) (v0 : List api_Range) (v1 : List api_Range) (v156 : List api_Range) (v158 : Int) : Option (List api_Range) :=
  (cond (decide (v158 < (v0.length : Int))) ((idxL v0 v158).bind fun y160 => ((F76_l11 self8 v1 v158 y160 k v156 0))) ((F77 k v156).bind fun y185 => (some y185)))
def F76_l8 (k : Nat) (v0 : List api_Range) (v1 : List api_Range) : Nat → (List api_Range) → Int → Option (List api_Range)
  | 0, _, _ => none
  | m_ + 1, v156, v158 => F76_b8 k (F76_l8 k v0 v1 m_) v0 v1 v156 v158
def F76 (k : Nat) (v0 : List api_Range) (v1 : List api_Range) : Option (List api_Range) :=
  (((F76_l8 k v0 v1 k ([] : List api_Range) 0)))
theorem F76_ok (k : Nat) (v0 : List api_Range) (v1 : List api_Range) (r : List api_Range) (hF : F76 k v0 v1 = some r) : Sim Tryz.prog GL0 76 [one (.sl (v0.map e_api_Range)), one (.sl (v1.map e_api_Range))] [] (one (.sl (r.map e_api_Range))) [] := by
  refine sim_of [] Tryz.func76 rfl (by kernel_rfl) (by kernel_rfl) ?_
  show WA _ _ 47 _ _ _
  refine WA.seq ?_
  refine WA.reg [0, 1] [] [] (env' := [(0, one (.sl (v0.map e_api_Range))), (1, one (.sl (v1.map e_api_Range)))]) (os' := []) (O := []) (by kernel_rfl) (sound _ _) trivial ?_
  refine WA.seq ?_
  refine WA.reg [0, 1, 5] [105] [(0, .obj 105)] (env' := [(0, one (.sl (v0.map e_api_Range))), (1, one (.sl (v1.map e_api_Range))), (5, .val false [.arr 105 0])]) (os' := [(105, .arr 2 (([] : List api_Range).map e_api_Range))]) (O := []) (by kernel_rfl) (sound _ _) trivial ?_
  refine WA.seq ?_
  refine WA.seq ?_
  refine WA.regM (α := Int) (raw := ((v0.map e_api_Range).length : Int)) (can := (v0.length : Int)) (fun m_ => ([(1, one (.sl (v1.map e_api_Range))), (5, .val false [.arr 105 0]), (12, one (.sl (v0.map e_api_Range))), (13, one (.int .i64 m_)), (14, one (.int .i64 0))], [(105, .arr 2 (([] : List api_Range).map e_api_Range))], [])) ((by first | (simp only [zlm, zla, zlc, zln, zls, zlr, zlt, zld, lens_api_Re]; done) | (simp only [zlm, zla, zlc, zln, zls, zlr, zlt, zld, lens_api_Re]; omega) | omega)) [1, 5, 12, 13, 14] [105] [] (env' := [(1, one (.sl (v1.map e_api_Range))), (5, .val false [.arr 105 0]), (12, one (.sl (v0.map e_api_Range))), (13, one (.int .i64 (v0.length : Int))), (14, one (.int .i64 0))]) (os' := [(105, .arr 2 (([] : List api_Range).map e_api_Range))]) (O := []) (by kernel_rfl) (by kernel_rfl) (sound _ _) trivial ?_
  refine WA.block ?_
  refine WA.loop (fun m s_ => ∃ (v156 : List api_Range) (v157 : Nat) (v158 : Int), pickE s_.env [1, 5, 12, 13, 14] = [(1, one (.sl (v1.map e_api_Range))), (5, .val false [.arr 105 v157]), (12, one (.sl (v0.map e_api_Range))), (13, one (.int .i64 (v0.length : Int))), (14, one (.int .i64 v158))] ∧ pickE s_.os [105] = [(105, .arr 2 (v156.map e_api_Range))] ∧ v157 = (v156 : List _).length ∧ F76_l8 k v0 v1 m v156 v158 = some r) k ⟨([] : List api_Range), 0, 0, by kernel_rfl, by kernel_rfl, (by first | omega | (simp only [zlm, zla, zlc, zln, zls, zlr, zlt, zld, lens_api_Re]; done) | (simp only [zlm, zla, zlc, zln, zls, zlr, zlt, zld, lens_api_Re]; omega) | (simp only [zlm, zla, zlc, zln, zls, zlr, zlt, zld, lens_api_Re] at *; omega)), hF⟩ ?_
  clear hF
  rintro m8 s_ ⟨v156, v157, v158, he, ho, hn_v157, hF⟩
  refine WA.keep _ _ he ho ?_
  clear he ho
  cases m8 with
  | zero => cases hF
  | succ m8 =>
    obtain ⟨self8, hself8⟩ : ∃ g, g = F76_l8 k v0 v1 m8 := ⟨_, rfl⟩
    have hF : F76_b8 k self8 v0 v1 v156 v158 = some r := by first | (rw [hself8]; exact hF) | exact hF
    refine WA.seq ?_
    refine WA.reg [1, 5, 12, 13, 14, 15] [105] [] (env' := [(1, one (.sl (v1.map e_api_Range))), (5, .val false [.arr 105 v157]), (12, one (.sl (v0.map e_api_Range))), (13, one (.int .i64 (v0.length : Int))), (14, one (.int .i64 v158)), (15, one (.bool (decide (v158 < (v0.length : Int)))))]) (os' := [(105, .arr 2 (v156.map e_api_Range))]) (O := []) (by kernel_rfl) (sound _ _) trivial ?_
    refine WA.seq ?_
    refine WA.cond (b := (decide (v158 < (v0.length : Int)))) rfl (fun hb159 => ?_) (fun hb159 => ?_)
    · have hF := cond_t hF hb159
      refine WA.skip ?_
      refine WA.seq ?_
      refine WA.block ?_
      refine WA.seq ?_
      obtain ⟨y160, hy160, hF⟩ := bind_some hF
      refine WA.reg [1, 5, 7, 12, 13, 14] [105, 107] [(0, .cells (e_api_Range y160)), (2, .obj 107)] (env' := [(1, one (.sl (v1.map e_api_Range))), (5, .val false [.arr 105 v157]), (7, .val false [.ptr 107 1 0 0]), (12, one (.sl (v0.map e_api_Range))), (13, one (.int .i64 (v0.length : Int))), (14, one (.int .i64 v158))]) (os' := [(105, .arr 2 (v156.map e_api_Range)), (107, .box (pvL (e_api_Range y160)))]) (O := [idxL (v0.map e_api_Range) v158 = some (e_api_Range y160)]) (by kernel_rfl) (sound _ _) ⟨(idx_map _ hy160), trivial⟩ ?_
      refine WA.seq ?_
      refine WA.regM (α := Int) (raw := ((v1.map e_api_Range).length : Int)) (can := (v1.length : Int)) (fun m_ => ([(1, one (.sl (v1.map e_api_Range))), (5, .val false [.arr 105 v157]), (7, .val false [.ptr 107 1 0 0]), (12, one (.sl (v0.map e_api_Range))), (13, one (.int .i64 (v0.length : Int))), (14, one (.int .i64 v158)), (18, one (.sl (v1.map e_api_Range))), (19, one (.int .i64 m_)), (20, one (.int .i64 0))], [(105, .arr 2 (v156.map e_api_Range)), (107, .box (pvL (e_api_Range y160)))], [])) ((by first | (simp only [zlm, zla, zlc, zln, zls, zlr, zlt, zld, lens_api_Re]; done) | (simp only [zlm, zla, zlc, zln, zls, zlr, zlt, zld, lens_api_Re]; omega) | omega)) [1, 5, 7, 12, 13, 14, 18, 19, 20] [105, 107] [] (env' := [(1, one (.sl (v1.map e_api_Range))), (5, .val false [.arr 105 v157]), (7, .val false [.ptr 107 1 0 0]), (12, one (.sl (v0.map e_api_Range))), (13, one (.int .i64 (v0.length : Int))), (14, one (.int .i64 v158)), (18, one (.sl (v1.map e_api_Range))), (19, one (.int .i64 (v1.length : Int))), (20, one (.int .i64 0))]) (os' := [(105, .arr 2 (v156.map e_api_Range)), (107, .box (pvL (e_api_Range y160)))]) (O := []) (by kernel_rfl) (by kernel_rfl) (sound _ _) trivial ?_
      refine WA.block ?_
      refine WA.loop (fun m s_ => ∃ (v176 : List api_Range) (v177 : Nat) (v178 : Int), pickE s_.env [1, 5, 7, 12, 13, 14, 18, 19, 20] = [(1, one (.sl (v1.map e_api_Range))), (5, .val false [.arr 105 v177]), (7, .val false [.ptr 107 1 0 0]), (12, one (.sl (v0.map e_api_Range))), (13, one (.int .i64 (v0.length : Int))), (14, one (.int .i64 v158)), (18, one (.sl (v1.map e_api_Range))), (19, one (.int .i64 (v1.length : Int))), (20, one (.int .i64 v178))] ∧ pickE s_.os [105, 107] = [(105, .arr 2 (v176.map e_api_Range)), (107, .box (pvL (e_api_Range y160)))] ∧ v177 = (v176 : List _).length ∧ F76_l11 self8 v1 v158 y160 m v176 v178 = some r) k ⟨v156, v157, 0, by kernel_rfl, by kernel_rfl, (by first | omega | (simp only [zlm, zla, zlc, zln, zls, zlr, zlt, zld, lens_api_Re]; done) | (simp only [zlm, zla, zlc, zln, zls, zlr, zlt, zld, lens_api_Re]; omega) | (simp only [zlm, zla, zlc, zln, zls, zlr, zlt, zld, lens_api_Re] at *; omega)), hF⟩ ?_
      clear hF
      rintro m11 s_ ⟨v176, v177, v178, he, ho, hn_v177, hF⟩
      refine WA.keep _ _ he ho ?_
      clear he ho
      cases m11 with
      | zero => cases hF
      | succ m11 =>
        obtain ⟨self11, hself11⟩ : ∃ g, g = F76_l11 self8 v1 v158 y160 m11 := ⟨_, rfl⟩
        have hF : F76_b11 self8 self11 v1 v158 y160 v176 v178 = some r := by first | (rw [hself11]; exact hF) | exact hF
        refine WA.seq ?_
        refine WA.reg [1, 5, 7, 12, 13, 14, 18, 19, 20, 21] [105, 107] [] (env' := [(1, one (.sl (v1.map e_api_Range))), (5, .val false [.arr 105 v177]), (7, .val false [.ptr 107 1 0 0]), (12, one (.sl (v0.map e_api_Range))), (13, one (.int .i64 (v0.length : Int))), (14, one (.int .i64 v158)), (18, one (.sl (v1.map e_api_Range))), (19, one (.int .i64 (v1.length : Int))), (20, one (.int .i64 v178)), (21, one (.bool (decide (v178 < (v1.length : Int)))))]) (os' := [(105, .arr 2 (v176.map e_api_Range)), (107, .box (pvL (e_api_Range y160)))]) (O := []) (by kernel_rfl) (sound _ _) trivial ?_
        refine WA.seq ?_
        refine WA.cond (b := (decide (v178 < (v1.length : Int)))) rfl (fun hb179 => ?_) (fun hb179 => ?_)
        · have hF := cond_t hF hb179
          refine WA.skip ?_
          refine WA.join (fun s_ => ∃ (v183 : List api_Range) (v184 : Nat), pickE s_.env [1, 5, 7, 12, 13, 14, 18, 19, 20] = [(1, one (.sl (v1.map e_api_Range))), (5, .val false [.arr 105 v184]), (7, .val false [.ptr 107 1 0 0]), (12, one (.sl (v0.map e_api_Range))), (13, one (.int .i64 (v0.length : Int))), (14, one (.int .i64 v158)), (18, one (.sl (v1.map e_api_Range))), (19, one (.int .i64 (v1.length : Int))), (20, one (.int .i64 v178))] ∧ pickE s_.os [105, 107] = [(105, .arr 2 (v183.map e_api_Range)), (107, .box (pvL (e_api_Range y160)))] ∧ v184 = (v183 : List _).length ∧ F76_j12 self11 v178 v183 = some r) ?_ ?_
          · rintro s_ ⟨v183, v184, he, ho, hn_v184, hF⟩
            refine WA.keep _ _ he ho ?_
            clear he ho
            refine WA.reg [1, 5, 7, 12, 13, 14, 18, 19, 20] [105, 107] [] (env' := [(1, one (.sl (v1.map e_api_Range))), (5, .val false [.arr 105 v184]), (7, .val false [.ptr 107 1 0 0]), (12, one (.sl (v0.map e_api_Range))), (13, one (.int .i64 (v0.length : Int))), (14, one (.int .i64 v158)), (18, one (.sl (v1.map e_api_Range))), (19, one (.int .i64 (v1.length : Int))), (20, one (.int .i64 (w64 (v178 + 1))))]) (os' := [(105, .arr 2 (v183.map e_api_Range)), (107, .box (pvL (e_api_Range y160)))]) (O := []) (by kernel_rfl) (sound _ _) trivial ?_
            exact ⟨m11, Nat.lt_succ_self _, v183, v184, (w64 (v178 + 1)), by kernel_rfl, by kernel_rfl, (by first | omega | (simp only [zlm, zla, zlc, zln, zls, zlr, zlt, zld, lens_api_Re]; done) | (simp only [zlm, zla, zlc, zln, zls, zlr, zlt, zld, lens_api_Re]; omega) | (simp only [zlm, zla, zlc, zln, zls, zlr, zlt, zld, lens_api_Re] at *; omega)), by rw [hself11] at hF; exact hF⟩
          · refine WA.block ?_
            refine WA.seq ?_
            obtain ⟨y180, hy180, hF⟩ := bind_some hF
            refine WA.reg [1, 5, 7, 9, 12, 13, 14, 18, 19, 20] [105, 107, 109] [(0, .cells (e_api_Range y180)), (2, .obj 109)] (env' := [(1, one (.sl (v1.map e_api_Range))), (5, .val false [.arr 105 v177]), (7, .val false [.ptr 107 1 0 0]), (9, .val false [.ptr 109 1 0 0]), (12, one (.sl (v0.map e_api_Range))), (13, one (.int .i64 (v0.length : Int))), (14, one (.int .i64 v158)), (18, one (.sl (v1.map e_api_Range))), (19, one (.int .i64 (v1.length : Int))), (20, one (.int .i64 v178))]) (os' := [(105, .arr 2 (v176.map e_api_Range)), (107, .box (pvL (e_api_Range y160))), (109, .box (pvL (e_api_Range y180)))]) (O := [idxL (v1.map e_api_Range) v178 = some (e_api_Range y180)]) (by kernel_rfl) (sound _ _) ⟨(idx_map _ hy180), trivial⟩ ?_
            refine WA.seq ?_
            refine WA.regD (by kernel_rfl) [1, 5, 7, 10, 11, 12, 13, 14, 18, 19, 20] [105, 107] [] (env' := [(1, one (.sl (v1.map e_api_Range))), (5, .val false [.arr 105 v177]), (7, .val false [.ptr 107 1 0 0]), (10, one (.int .i64 (mx y160.f_Lo y180.f_Lo))), (11, one (.int .i64 (mn y160.f_Hi y180.f_Hi))), (12, one (.sl (v0.map e_api_Range))), (13, one (.int .i64 (v0.length : Int))), (14, one (.int .i64 v158)), (18, one (.sl (v1.map e_api_Range))), (19, one (.int .i64 (v1.length : Int))), (20, one (.int .i64 v178))]) (os' := [(105, .arr 2 (v176.map e_api_Range)), (107, .box (pvL (e_api_Range y160)))]) (O := []) (by kernel_rfl) (by kernel_rfl) (sound _ _) trivial ?_
            refine WA.seq ?_
            refine WA.reg [1, 5, 7, 10, 11, 12, 13, 14, 18, 19, 20, 36] [105, 107] [] (env' := [(1, one (.sl (v1.map e_api_Range))), (5, .val false [.arr 105 v177]), (7, .val false [.ptr 107 1 0 0]), (10, one (.int .i64 (mx y160.f_Lo y180.f_Lo))), (11, one (.int .i64 (mn y160.f_Hi y180.f_Hi))), (12, one (.sl (v0.map e_api_Range))), (13, one (.int .i64 (v0.length : Int))), (14, one (.int .i64 v158)), (18, one (.sl (v1.map e_api_Range))), (19, one (.int .i64 (v1.length : Int))), (20, one (.int .i64 v178)), (36, one (.bool (decide ((mx y160.f_Lo y180.f_Lo) ≤ (mn y160.f_Hi y180.f_Hi)))))]) (os' := [(105, .arr 2 (v176.map e_api_Range)), (107, .box (pvL (e_api_Range y160)))]) (O := []) (by kernel_rfl) (sound _ _) trivial ?_
            refine WA.cond (b := (decide ((mx y160.f_Lo y180.f_Lo) ≤ (mn y160.f_Hi y180.f_Hi)))) rfl (fun hb181 => ?_) (fun hb181 => ?_)
            · have hF := cond_t hF hb181
              obtain ⟨hc182, hF⟩ := if_some hF
              refine WA.regM (α := (List (List PV))) (raw := ((v176.map e_api_Range) ++ (([(⟨(mx y160.f_Lo y180.f_Lo), (mn y160.f_Hi y180.f_Hi)⟩ : api_Range)] : List api_Range).map e_api_Range))) (can := ((v176 ++ ([(⟨(mx y160.f_Lo y180.f_Lo), (mn y160.f_Hi y180.f_Hi)⟩ : api_Range)] : List api_Range)).map e_api_Range)) (fun m_ => ([(1, one (.sl (v1.map e_api_Range))), (5, .val false [.arr 105 (v177 + 1)]), (7, .val false [.ptr 107 1 0 0]), (12, one (.sl (v0.map e_api_Range))), (13, one (.int .i64 (v0.length : Int))), (14, one (.int .i64 v158)), (18, one (.sl (v1.map e_api_Range))), (19, one (.int .i64 (v1.length : Int))), (20, one (.int .i64 v178))], [(105, .arr 2 m_), (107, .box (pvL (e_api_Range y160)))], [v177 = (v176.map e_api_Range).length, (v176.map e_api_Range).length + (([(⟨(mx y160.f_Lo y180.f_Lo), (mn y160.f_Hi y180.f_Hi)⟩ : api_Range)] : List api_Range).map e_api_Range).length ≤ 1073741824, ∀ es, es ∈ (([(⟨(mx y160.f_Lo y180.f_Lo), (mn y160.f_Hi y180.f_Hi)⟩ : api_Range)] : List api_Range).map e_api_Range) → es.length = 2])) ((by first | (simp only [len_map, app_map, take_map, drop_map, set_map, rep_map, lens_api_Re, app_api_Re, take_api_Re, drop_api_Re, set_api_Re, es_api_Re, e0_eq_api_Re]; done) | (simp only [List.map_append, List.map_cons, List.map_nil, List.map_take, List.map_drop, List.map_set, List.map_replicate, List.length_map, es_map_api_Re, e0_eq_api_Re]; done))) [1, 5, 7, 12, 13, 14, 18, 19, 20] [105, 107] [] (env' := [(1, one (.sl (v1.map e_api_Range))), (5, .val false [.arr 105 (v177 + 1)]), (7, .val false [.ptr 107 1 0 0]), (12, one (.sl (v0.map e_api_Range))), (13, one (.int .i64 (v0.length : Int))), (14, one (.int .i64 v158)), (18, one (.sl (v1.map e_api_Range))), (19, one (.int .i64 (v1.length : Int))), (20, one (.int .i64 v178))]) (os' := [(105, .arr 2 ((v176 ++ ([(⟨(mx y160.f_Lo y180.f_Lo), (mn y160.f_Hi y180.f_Hi)⟩ : api_Range)] : List api_Range)).map e_api_Range)), (107, .box (pvL (e_api_Range y160)))]) (O := [v177 = (v176.map e_api_Range).length, (v176.map e_api_Range).length + (([(⟨(mx y160.f_Lo y180.f_Lo), (mn y160.f_Hi y180.f_Hi)⟩ : api_Range)] : List api_Range).map e_api_Range).length ≤ 1073741824, ∀ es, es ∈ (([(⟨(mx y160.f_Lo y180.f_Lo), (mn y160.f_Hi y180.f_Hi)⟩ : api_Range)] : List api_Range).map e_api_Range) → es.length = 2]) (by kernel_rfl) (by kernel_rfl) (sound _ _) ⟨(by first | omega | (simp only [zlm, zla, zlc, zln, zls, zlr, zlt, zld, lens_api_Re]; done) | (simp only [zlm, zla, zlc, zln, zls, zlr, zlt, zld, lens_api_Re]; omega) | (simp only [zlm, zla, zlc, zln, zls, zlr, zlt, zld, lens_api_Re] at *; omega)), (by first | exact hc182 | (simp only [List.length_map, lens_api_Re] ; exact hc182)), (len_api_Range ([(⟨(mx y160.f_Lo y180.f_Lo), (mn y160.f_Hi y180.f_Hi)⟩ : api_Range)] : List api_Range)), trivial⟩ ?_
              exact ⟨(v176 ++ ([(⟨(mx y160.f_Lo y180.f_Lo), (mn y160.f_Hi y180.f_Hi)⟩ : api_Range)] : List api_Range)), (v177 + 1), by kernel_rfl, by kernel_rfl, (by first | omega | (simp only [zlm, zla, zlc, zln, zls, zlr, zlt, zld, lens_api_Re]; done) | (simp only [zlm, zla, zlc, zln, zls, zlr, zlt, zld, lens_api_Re]; omega) | (simp only [zlm, zla, zlc, zln, zls, zlr, zlt, zld, lens_api_Re] at *; omega)), hF⟩
            · have hF := cond_f hF hb181
              refine WA.skip ?_
              exact ⟨v176, v177, by kernel_rfl, by kernel_rfl, (by first | omega | (simp only [zlm, zla, zlc, zln, zls, zlr, zlt, zld, lens_api_Re]; done) | (simp only [zlm, zla, zlc, zln, zls, zlr, zlt, zld, lens_api_Re]; omega) | (simp only [zlm, zla, zlc, zln, zls, zlr, zlt, zld, lens_api_Re] at *; omega)), hF⟩
        · have hF := cond_f hF hb179
          refine WA.exit ?_
          refine WA.reg [1, 5, 12, 13, 14] [105] [] (env' := [(1, one (.sl (v1.map e_api_Range))), (5, .val false [.arr 105 v177]), (12, one (.sl (v0.map e_api_Range))), (13, one (.int .i64 (v0.length : Int))), (14, one (.int .i64 (w64 (v158 + 1))))]) (os' := [(105, .arr 2 (v176.map e_api_Range))]) (O := []) (by kernel_rfl) (sound _ _) trivial ?_
          exact ⟨m8, Nat.lt_succ_self _, v176, v177, (w64 (v158 + 1)), by kernel_rfl, by kernel_rfl, (by first | omega | (simp only [zlm, zla, zlc, zln, zls, zlr, zlt, zld, lens_api_Re]; done) | (simp only [zlm, zla, zlc, zln, zls, zlr, zlt, zld, lens_api_Re]; omega) | (simp only [zlm, zla, zlc, zln, zls, zlr, zlt, zld, lens_api_Re] at *; omega)), by rw [hself8] at hF; exact hF⟩
    · have hF := cond_f hF hb159
      refine WA.exit ?_
      refine WA.seq ?_
      refine WA.freeze 105 5 (s := 2) (n := v157) (els := (v156.map e_api_Range)) rfl rfl (by first | omega | (simp only [zlm, zla, zlc, zln, zls, zlr, zlt, zld, lens_api_Re]; done) | (simp only [zlm, zla, zlc, zln, zls, zlr, zlt, zld, lens_api_Re]; omega) | (simp only [zlm, zla, zlc, zln, zls, zlr, zlt, zld, lens_api_Re] at *; omega)) ?_
      refine WA.keep [5] [] (env' := [(5, one (.sl (v156.map e_api_Range)))]) (os' := []) (by kernel_rfl) (by kernel_rfl) ?_
      obtain ⟨y185, hy185, hF⟩ := bind_some hF
      refine WA.reg [4] [] [(1, .callR [] (one (.sl (y185.map e_api_Range))))] (env' := [(4, one (.sl (y185.map e_api_Range)))]) (os' := []) (O := [Sim Tryz.prog GL0 77 [one (.sl (v156.map e_api_Range))] [] (one (.sl (y185.map e_api_Range))) [], ([] : List Nat).Nodup]) (by kernel_rfl) (sound _ _) ⟨(F77_ok k _ _ hy185), (by decide), trivial⟩ ?_
      refine WA.ret ?_
      obtain rfl := Option.some.inj hF
      exact out_ret (one (.sl (y185.map e_api_Range))) [] (by kernel_rfl) (by kernel_rfl) (by kernel_rfl) (by kernel_rfl) (by decide) rfl rfl
/-! entrepot rex.not -/
def F109_j3 (self2 : (List api_Range) → Int → Int → Option (List api_Range)) (v121 : Int) (y123 : api_Range) (v126 : List api_Range) : Option (List api_Range) :=
  (self2 v126 (w64 (y123.f_Hi + 1)) (w64 (v121 + 1)))
def F109_j4 (k : Nat) (v130 : List api_Range) : Option (List api_Range) :=
  (F59 k).bind fun y133 => (F76 k v130 y133).bind fun y134 => (some y134)
def F109_b2 (k : Nat) (self2 : (List api_Range) → Int → Int → Option (List api_Range)) (y101 : List api_Range) (v118 : List api_Range) (v120 : Int) (v121 : Int) : Option (List api_Range) :=
  (cond (decide (v121 < (y101.length : Int))) ((idxL y101 v121).bind fun y123 => ((cond (decide (y123.f_Lo > v120)) (if v118.length + ([(⟨v120, (w64 (y123.f_Lo - 1))⟩ : api_Range)] : List api_Range).length ≤ 1073741824 then (F109_j3 self2 v121 y123 (v118 ++ ([(⟨v120, (w64 (y123.f_Lo - 1))⟩ : api_Range)] : List api_Range))) else none) ((F109_j3 self2 v121 y123 v118))))) (((cond (decide (v120 ≤ 1114111)) (if v118.length + ([(⟨v120, 1114111⟩ : api_Range)] : List api_Range).length ≤ 1073741824 then (F109_j4 k (v118 ++ ([(⟨v120, 1114111⟩ : api_Range)] : List api_Range))) else none) ((F109_j4 k v118))))))
def F109_l2 (k : Nat) (y101 : List api_Range) : Nat → (List api_Range) → Int → Int → Option (List api_Range)
  | 0, _, _, _ => none
  | m_ + 1, v118, v120, v121 => F109_b2 k (F109_l2 k y101 m_) y101 v118 v120 v121
def F109 (k : Nat) (v0 : List api_Range) : Option (List api_Range) :=
  (((F77 k v0).bind fun y101 => (F109_l2 k y101 k ([] : List api_Range) 0 0)))
theorem F109_ok (k : Nat) (v0 : List api_Range) (r : List api_Range) (hF : F109 k v0 = some r) : Sim Tryz.prog GL0 109 [one (.sl (v0.map e_api_Range))] [] (one (.sl (r.map e_api_Range))) [] := by
  refine sim_of [] Tryz.func109 rfl (by kernel_rfl) (by kernel_rfl) ?_
  show WA _ _ 40 _ _ _
  refine WA.seq ?_
  refine WA.reg [0] [] [] (env' := [(0, one (.sl (v0.map e_api_Range)))]) (os' := []) (O := []) (by kernel_rfl) (sound _ _) trivial ?_
  refine WA.seq ?_
  refine WA.reg [0, 3] [103] [(0, .obj 103)] (env' := [(0, one (.sl (v0.map e_api_Range))), (3, .val false [.arr 103 0])]) (os' := [(103, .arr 2 (([] : List api_Range).map e_api_Range))]) (O := []) (by kernel_rfl) (sound _ _) trivial ?_
  refine WA.seq ?_
  refine WA.reg [0, 3, 4] [103] [] (env' := [(0, one (.sl (v0.map e_api_Range))), (3, .val false [.arr 103 0]), (4, one (.int .i64 0))]) (os' := [(103, .arr 2 (([] : List api_Range).map e_api_Range))]) (O := []) (by kernel_rfl) (sound _ _) trivial ?_
  refine WA.seq ?_
  refine WA.seq ?_
  obtain ⟨y101, hy101, hF⟩ := bind_some hF
  refine WA.regM (α := Int) (raw := ((y101.map e_api_Range).length : Int)) (can := (y101.length : Int)) (fun m_ => ([(3, .val false [.arr 103 0]), (4, one (.int .i64 0)), (8, one (.sl (y101.map e_api_Range))), (9, one (.int .i64 m_)), (10, one (.int .i64 0))], [(103, .arr 2 (([] : List api_Range).map e_api_Range))], [Sim Tryz.prog GL0 77 [one (.sl (v0.map e_api_Range))] [] (one (.sl (y101.map e_api_Range))) [], ([] : List Nat).Nodup])) ((by first | (simp only [zlm, zla, zlc, zln, zls, zlr, zlt, zld, lens_api_Re]; done) | (simp only [zlm, zla, zlc, zln, zls, zlr, zlt, zld, lens_api_Re]; omega) | omega)) [3, 4, 8, 9, 10] [103] [(1, .callR [] (one (.sl (y101.map e_api_Range))))] (env' := [(3, .val false [.arr 103 0]), (4, one (.int .i64 0)), (8, one (.sl (y101.map e_api_Range))), (9, one (.int .i64 (y101.length : Int))), (10, one (.int .i64 0))]) (os' := [(103, .arr 2 (([] : List api_Range).map e_api_Range))]) (O := [Sim Tryz.prog GL0 77 [one (.sl (v0.map e_api_Range))] [] (one (.sl (y101.map e_api_Range))) [], ([] : List Nat).Nodup]) (by kernel_rfl) (by kernel_rfl) (sound _ _) ⟨(F77_ok k _ _ hy101), (by decide), trivial⟩ ?_
  refine WA.block ?_
  refine WA.loop (fun m s_ => ∃ (v118 : List api_Range) (v119 : Nat) (v120 : Int) (v121 : Int), pickE s_.env [3, 4, 8, 9, 10] = [(3, .val false [.arr 103 v119]), (4, one (.int .i64 v120)), (8, one (.sl (y101.map e_api_Range))), (9, one (.int .i64 (y101.length : Int))), (10, one (.int .i64 v121))] ∧ pickE s_.os [103] = [(103, .arr 2 (v118.map e_api_Range))] ∧ v119 = (v118 : List _).length ∧ F109_l2 k y101 m v118 v120 v121 = some r) k ⟨([] : List api_Range), 0, 0, 0, by kernel_rfl, by kernel_rfl, (by first | omega | (simp only [zlm, zla, zlc, zln, zls, zlr, zlt, zld, lens_api_Re]; done) | (simp only [zlm, zla, zlc, zln, zls, zlr, zlt, zld, lens_api_Re]; omega) | (simp only [zlm, zla, zlc, zln, zls, zlr, zlt, zld, lens_api_Re] at *; omega)), hF⟩ ?_
  clear hF
  rintro m2 s_ ⟨v118, v119, v120, v121, he, ho, hn_v119, hF⟩
  refine WA.keep _ _ he ho ?_
  clear he ho
  cases m2 with
  | zero => cases hF
  | succ m2 =>
    obtain ⟨self2, hself2⟩ : ∃ g, g = F109_l2 k y101 m2 := ⟨_, rfl⟩
    have hF : F109_b2 k self2 y101 v118 v120 v121 = some r := by first | (rw [hself2]; exact hF) | exact hF
    refine WA.seq ?_
    refine WA.reg [3, 4, 8, 9, 10, 11] [103] [] (env' := [(3, .val false [.arr 103 v119]), (4, one (.int .i64 v120)), (8, one (.sl (y101.map e_api_Range))), (9, one (.int .i64 (y101.length : Int))), (10, one (.int .i64 v121)), (11, one (.bool (decide (v121 < (y101.length : Int)))))]) (os' := [(103, .arr 2 (v118.map e_api_Range))]) (O := []) (by kernel_rfl) (sound _ _) trivial ?_
    refine WA.seq ?_
    refine WA.cond (b := (decide (v121 < (y101.length : Int)))) rfl (fun hb122 => ?_) (fun hb122 => ?_)
    · have hF := cond_t hF hb122
      refine WA.skip ?_
      refine WA.seq ?_
      refine WA.block ?_
      refine WA.seq ?_
      obtain ⟨y123, hy123, hF⟩ := bind_some hF
      refine WA.reg [3, 4, 6, 8, 9, 10] [103, 106] [(0, .cells (e_api_Range y123)), (2, .obj 106)] (env' := [(3, .val false [.arr 103 v119]), (4, one (.int .i64 v120)), (6, .val false [.ptr 106 1 0 0]), (8, one (.sl (y101.map e_api_Range))), (9, one (.int .i64 (y101.length : Int))), (10, one (.int .i64 v121))]) (os' := [(103, .arr 2 (v118.map e_api_Range)), (106, .box (pvL (e_api_Range y123)))]) (O := [idxL (y101.map e_api_Range) v121 = some (e_api_Range y123)]) (by kernel_rfl) (sound _ _) ⟨(idx_map _ hy123), trivial⟩ ?_
      refine WA.join (fun s_ => ∃ (v126 : List api_Range) (v127 : Nat), pickE s_.env [3, 6, 8, 9, 10] = [(3, .val false [.arr 103 v127]), (6, .val false [.ptr 106 1 0 0]), (8, one (.sl (y101.map e_api_Range))), (9, one (.int .i64 (y101.length : Int))), (10, one (.int .i64 v121))] ∧ pickE s_.os [103, 106] = [(103, .arr 2 (v126.map e_api_Range)), (106, .box (pvL (e_api_Range y123)))] ∧ v127 = (v126 : List _).length ∧ F109_j3 self2 v121 y123 v126 = some r) ?_ ?_
      · rintro s_ ⟨v126, v127, he, ho, hn_v127, hF⟩
        refine WA.keep _ _ he ho ?_
        clear he ho
        refine WA.reg [3, 4, 8, 9, 10] [103] [] (env' := [(3, .val false [.arr 103 v127]), (4, one (.int .i64 (w64 (y123.f_Hi + 1)))), (8, one (.sl (y101.map e_api_Range))), (9, one (.int .i64 (y101.length : Int))), (10, one (.int .i64 v121))]) (os' := [(103, .arr 2 (v126.map e_api_Range))]) (O := []) (by kernel_rfl) (sound _ _) trivial ?_
        refine WA.reg [3, 4, 8, 9, 10] [103] [] (env' := [(3, .val false [.arr 103 v127]), (4, one (.int .i64 (w64 (y123.f_Hi + 1)))), (8, one (.sl (y101.map e_api_Range))), (9, one (.int .i64 (y101.length : Int))), (10, one (.int .i64 (w64 (v121 + 1))))]) (os' := [(103, .arr 2 (v126.map e_api_Range))]) (O := []) (by kernel_rfl) (sound _ _) trivial ?_
        exact ⟨m2, Nat.lt_succ_self _, v126, v127, (w64 (y123.f_Hi + 1)), (w64 (v121 + 1)), by kernel_rfl, by kernel_rfl, (by first | omega | (simp only [zlm, zla, zlc, zln, zls, zlr, zlt, zld, lens_api_Re]; done) | (simp only [zlm, zla, zlc, zln, zls, zlr, zlt, zld, lens_api_Re]; omega) | (simp only [zlm, zla, zlc, zln, zls, zlr, zlt, zld, lens_api_Re] at *; omega)), by rw [hself2] at hF; exact hF⟩
      · refine WA.seq ?_
        refine WA.reg [3, 4, 6, 8, 9, 10, 17] [103, 106] [] (env' := [(3, .val false [.arr 103 v119]), (4, one (.int .i64 v120)), (6, .val false [.ptr 106 1 0 0]), (8, one (.sl (y101.map e_api_Range))), (9, one (.int .i64 (y101.length : Int))), (10, one (.int .i64 v121)), (17, one (.bool (decide (y123.f_Lo > v120))))]) (os' := [(103, .arr 2 (v118.map e_api_Range)), (106, .box (pvL (e_api_Range y123)))]) (O := []) (by kernel_rfl) (sound _ _) trivial ?_
        refine WA.cond (b := (decide (y123.f_Lo > v120))) rfl (fun hb124 => ?_) (fun hb124 => ?_)
        · have hF := cond_t hF hb124
          obtain ⟨hc125, hF⟩ := if_some hF
          refine WA.regM (α := (List (List PV))) (raw := ((v118.map e_api_Range) ++ (([(⟨v120, (w64 (y123.f_Lo - 1))⟩ : api_Range)] : List api_Range).map e_api_Range))) (can := ((v118 ++ ([(⟨v120, (w64 (y123.f_Lo - 1))⟩ : api_Range)] : List api_Range)).map e_api_Range)) (fun m_ => ([(3, .val false [.arr 103 (v119 + 1)]), (6, .val false [.ptr 106 1 0 0]), (8, one (.sl (y101.map e_api_Range))), (9, one (.int .i64 (y101.length : Int))), (10, one (.int .i64 v121))], [(103, .arr 2 m_), (106, .box (pvL (e_api_Range y123)))], [v119 = (v118.map e_api_Range).length, (v118.map e_api_Range).length + (([(⟨v120, (w64 (y123.f_Lo - 1))⟩ : api_Range)] : List api_Range).map e_api_Range).length ≤ 1073741824, ∀ es, es ∈ (([(⟨v120, (w64 (y123.f_Lo - 1))⟩ : api_Range)] : List api_Range).map e_api_Range) → es.length = 2])) ((by first | (simp only [len_map, app_map, take_map, drop_map, set_map, rep_map, lens_api_Re, app_api_Re, take_api_Re, drop_api_Re, set_api_Re, es_api_Re, e0_eq_api_Re]; done) | (simp only [List.map_append, List.map_cons, List.map_nil, List.map_take, List.map_drop, List.map_set, List.map_replicate, List.length_map, es_map_api_Re, e0_eq_api_Re]; done))) [3, 6, 8, 9, 10] [103, 106] [] (env' := [(3, .val false [.arr 103 (v119 + 1)]), (6, .val false [.ptr 106 1 0 0]), (8, one (.sl (y101.map e_api_Range))), (9, one (.int .i64 (y101.length : Int))), (10, one (.int .i64 v121))]) (os' := [(103, .arr 2 ((v118 ++ ([(⟨v120, (w64 (y123.f_Lo - 1))⟩ : api_Range)] : List api_Range)).map e_api_Range)), (106, .box (pvL (e_api_Range y123)))]) (O := [v119 = (v118.map e_api_Range).length, (v118.map e_api_Range).length + (([(⟨v120, (w64 (y123.f_Lo - 1))⟩ : api_Range)] : List api_Range).map e_api_Range).length ≤ 1073741824, ∀ es, es ∈ (([(⟨v120, (w64 (y123.f_Lo - 1))⟩ : api_Range)] : List api_Range).map e_api_Range) → es.length = 2]) (by kernel_rfl) (by kernel_rfl) (sound _ _) ⟨(by first | omega | (simp only [zlm, zla, zlc, zln, zls, zlr, zlt, zld, lens_api_Re]; done) | (simp only [zlm, zla, zlc, zln, zls, zlr, zlt, zld, lens_api_Re]; omega) | (simp only [zlm, zla, zlc, zln, zls, zlr, zlt, zld, lens_api_Re] at *; omega)), (by first | exact hc125 | (simp only [List.length_map, lens_api_Re] ; exact hc125)), (len_api_Range ([(⟨v120, (w64 (y123.f_Lo - 1))⟩ : api_Range)] : List api_Range)), trivial⟩ ?_
          exact ⟨(v118 ++ ([(⟨v120, (w64 (y123.f_Lo - 1))⟩ : api_Range)] : List api_Range)), (v119 + 1), by kernel_rfl, by kernel_rfl, (by first | omega | (simp only [zlm, zla, zlc, zln, zls, zlr, zlt, zld, lens_api_Re]; done) | (simp only [zlm, zla, zlc, zln, zls, zlr, zlt, zld, lens_api_Re]; omega) | (simp only [zlm, zla, zlc, zln, zls, zlr, zlt, zld, lens_api_Re] at *; omega)), hF⟩
        · have hF := cond_f hF hb124
          refine WA.skip ?_
          exact ⟨v118, v119, by kernel_rfl, by kernel_rfl, (by first | omega | (simp only [zlm, zla, zlc, zln, zls, zlr, zlt, zld, lens_api_Re]; done) | (simp only [zlm, zla, zlc, zln, zls, zlr, zlt, zld, lens_api_Re]; omega) | (simp only [zlm, zla, zlc, zln, zls, zlr, zlt, zld, lens_api_Re] at *; omega)), hF⟩
    · have hF := cond_f hF hb122
      refine WA.exit ?_
      refine WA.join (fun s_ => ∃ (v130 : List api_Range) (v131 : Nat), pickE s_.env [3] = [(3, .val false [.arr 103 v131])] ∧ pickE s_.os [103] = [(103, .arr 2 (v130.map e_api_Range))] ∧ v131 = (v130 : List _).length ∧ F109_j4 k v130 = some r) ?_ ?_
      · rintro s_ ⟨v130, v131, he, ho, hn_v131, hF⟩
        refine WA.keep _ _ he ho ?_
        clear he ho
        refine WA.seq ?_
        refine WA.freeze 103 3 (s := 2) (n := v131) (els := (v130.map e_api_Range)) rfl rfl (by first | omega | (simp only [zlm, zla, zlc, zln, zls, zlr, zlt, zld, lens_api_Re]; done) | (simp only [zlm, zla, zlc, zln, zls, zlr, zlt, zld, lens_api_Re]; omega) | (simp only [zlm, zla, zlc, zln, zls, zlr, zlt, zld, lens_api_Re] at *; omega)) ?_
        refine WA.keep [3] [] (env' := [(3, one (.sl (v130.map e_api_Range)))]) (os' := []) (by kernel_rfl) (by kernel_rfl) ?_
        obtain ⟨y133, hy133, hF⟩ := bind_some hF
        obtain ⟨y134, hy134, hF⟩ := bind_some hF
        refine WA.reg [2] [] [(1, .callR [] (one (.sl (y133.map e_api_Range)))), (2, .callR [] (one (.sl (y134.map e_api_Range))))] (env' := [(2, one (.sl (y134.map e_api_Range)))]) (os' := []) (O := [Sim Tryz.prog GL0 59 [] [] (one (.sl (y133.map e_api_Range))) [], ([] : List Nat).Nodup, Sim Tryz.prog GL0 76 [one (.sl (v130.map e_api_Range)), one (.sl (y133.map e_api_Range))] [] (one (.sl (y134.map e_api_Range))) [], ([] : List Nat).Nodup]) (by kernel_rfl) (sound _ _) ⟨(F59_ok k _ hy133), (by decide), (F76_ok k _ _ _ hy134), (by decide), trivial⟩ ?_
        refine WA.ret ?_
        obtain rfl := Option.some.inj hF
        exact out_ret (one (.sl (y134.map e_api_Range))) [] (by kernel_rfl) (by kernel_rfl) (by kernel_rfl) (by kernel_rfl) (by decide) rfl rfl
      · refine WA.seq ?_
        refine WA.reg [3, 4, 31] [103] [] (env' := [(3, .val false [.arr 103 v119]), (4, one (.int .i64 v120)), (31, one (.bool (decide (v120 ≤ 1114111))))]) (os' := [(103, .arr 2 (v118.map e_api_Range))]) (O := []) (by kernel_rfl) (sound _ _) trivial ?_
        refine WA.cond (b := (decide (v120 ≤ 1114111))) rfl (fun hb128 => ?_) (fun hb128 => ?_)
        · have hF := cond_t hF hb128
          obtain ⟨hc129, hF⟩ := if_some hF
          refine WA.regM (α := (List (List PV))) (raw := ((v118.map e_api_Range) ++ (([(⟨v120, 1114111⟩ : api_Range)] : List api_Range).map e_api_Range))) (can := ((v118 ++ ([(⟨v120, 1114111⟩ : api_Range)] : List api_Range)).map e_api_Range)) (fun m_ => ([(3, .val false [.arr 103 (v119 + 1)])], [(103, .arr 2 m_)], [v119 = (v118.map e_api_Range).length, (v118.map e_api_Range).length + (([(⟨v120, 1114111⟩ : api_Range)] : List api_Range).map e_api_Range).length ≤ 1073741824, ∀ es, es ∈ (([(⟨v120, 1114111⟩ : api_Range)] : List api_Range).map e_api_Range) → es.length = 2])) ((by first | (simp only [len_map, app_map, take_map, drop_map, set_map, rep_map, lens_api_Re, app_api_Re, take_api_Re, drop_api_Re, set_api_Re, es_api_Re, e0_eq_api_Re]; done) | (simp only [List.map_append, List.map_cons, List.map_nil, List.map_take, List.map_drop, List.map_set, List.map_replicate, List.length_map, es_map_api_Re, e0_eq_api_Re]; done))) [3] [103] [] (env' := [(3, .val false [.arr 103 (v119 + 1)])]) (os' := [(103, .arr 2 ((v118 ++ ([(⟨v120, 1114111⟩ : api_Range)] : List api_Range)).map e_api_Range))]) (O := [v119 = (v118.map e_api_Range).length, (v118.map e_api_Range).length + (([(⟨v120, 1114111⟩ : api_Range)] : List api_Range).map e_api_Range).length ≤ 1073741824, ∀ es, es ∈ (([(⟨v120, 1114111⟩ : api_Range)] : List api_Range).map e_api_Range) → es.length = 2]) (by kernel_rfl) (by kernel_rfl) (sound _ _) ⟨(by first | omega | (simp only [zlm, zla, zlc, zln, zls, zlr, zlt, zld, lens_api_Re]; done) | (simp only [zlm, zla, zlc, zln, zls, zlr, zlt, zld, lens_api_Re]; omega) | (simp only [zlm, zla, zlc, zln, zls, zlr, zlt, zld, lens_api_Re] at *; omega)), (by first | exact hc129 | (simp only [List.length_map, lens_api_Re] ; exact hc129)), (len_api_Range ([(⟨v120, 1114111⟩ : api_Range)] : List api_Range)), trivial⟩ ?_
          exact ⟨(v118 ++ ([(⟨v120, 1114111⟩ : api_Range)] : List api_Range)), (v119 + 1), by kernel_rfl, by kernel_rfl, (by first | omega | (simp only [zlm, zla, zlc, zln, zls, zlr, zlt, zld, lens_api_Re]; done) | (simp only [zlm, zla, zlc, zln, zls, zlr, zlt, zld, lens_api_Re]; omega) | (simp only [zlm, zla, zlc, zln, zls, zlr, zlt, zld, lens_api_Re] at *; omega)), hF⟩
        · have hF := cond_f hF hb128
          refine WA.skip ?_
          exact ⟨v118, v119, by kernel_rfl, by kernel_rfl, (by first | omega | (simp only [zlm, zla, zlc, zln, zls, zlr, zlt, zld, lens_api_Re]; done) | (simp only [zlm, zla, zlc, zln, zls, zlr, zlt, zld, lens_api_Re]; omega) | (simp only [zlm, zla, zlc, zln, zls, zlr, zlt, zld, lens_api_Re] at *; omega)), hF⟩
/-! entrepot rex.may -/
def F52_j2 (v125 : Bool) : Option Bool :=
  some v125
def F52_j3 (v129 : Bool) : Option Bool :=
  some v129
def F52_j4 (v133 : Bool) : Option Bool :=
  some v133
def F52_j5 (v141 : Bool) : Option Bool :=
  some v141
def F52_j1 (k : Nat) (v0 : api_Re) (v117 : Bool) : Option Bool :=
  ((cond (v0.f_Kind == 1) (cond v117 (cond ((v0.f_L.length : Int) == 0) ((F77 k v0.f_Set).bind fun y121 => (F59 k).bind fun y122 => (F76 k y121 y122).bind fun y123 => (F75 k y123 v0.f_Set).bind fun y124 => (F52_j2 y124)) ((F52_j2 false))) ((F52_j2 false))) ((cond (v0.f_Kind == 2) (cond v117 (cond ((v0.f_L.length : Int) != 1) ((F52_j3 ((v0.f_Set.length : Int) == 0))) ((F52_j3 false))) ((F52_j3 false))) ((cond (v0.f_Kind == 3) (cond v117 (cond (decide ((v0.f_L.length : Int) > 1)) ((F52_j4 ((v0.f_Set.length : Int) == 0))) ((F52_j4 false))) ((F52_j4 false))) ((cond (v0.f_Kind == 4) (cond ((v0.f_L.length : Int) == 1) (cond ((v0.f_Set.length : Int) == 0) (cond (decide (v0.f_Min ≥ 0)) (cond (decide (v0.f_Min ≤ 20)) (cond (decide (v0.f_Max ≤ 20)) (cond (v0.f_Max == (-1)) ((F52_j5 true)) ((F52_j5 (decide (v0.f_Max ≥ v0.f_Min))))) ((F52_j5 false))) ((F52_j5 false))) ((F52_j5 false))) ((F52_j5 false))) ((F52_j5 false))) (((some false)))))))))))
def F52_b0 (R52 : api_Re → Int → Option Bool) (k : Nat) (self0 : Int → Option Bool) (v0 : api_Re) (v1 : Int) (v111 : Int) : Option Bool :=
  (cond (decide (v111 < (v0.f_L.length : Int))) ((idxL v0.f_L v111).bind fun y113 => (R52 y113 (w64 (v1 - 1))).bind fun y114 => (cond (!y114) ((some false)) ((self0 (w64 (v111 + 1)))))) ((cond (v0.f_Min == 0) ((F52_j1 k v0 (v0.f_Max == 0))) ((F52_j1 k v0 false)))))
def F52_l0 (R52 : api_Re → Int → Option Bool) (k : Nat) (v0 : api_Re) (v1 : Int) : Nat → Int → Option Bool
  | 0, _ => none
  | m_ + 1, v111 => F52_b0 R52 k (F52_l0 R52 k v0 v1 m_) v0 v1 v111
def F52_b (R52 : api_Re → Int → Option Bool) (k : Nat) (v0 : api_Re) (v1 : Int) : Option Bool :=
  ((cond (v1 == 0) ((some false)) (((F52_l0 R52 k v0 v1 k 0)))))
theorem F52_b_ok (R52 : api_Re → Int → Option Bool) (IH52 : ∀ (v0 : api_Re) (v1 : Int) (r : Bool), R52 v0 v1 = some r → Sim Tryz.prog GL0 52 [.val true (pvL (e_api_Re v0)), one (.int .i64 v1)] [] (one (.bool r)) []) (k : Nat) (v0 : api_Re) (v1 : Int) (r : Bool) (hF : F52_b R52 k v0 v1 = some r) : Sim Tryz.prog GL0 52 [.val true (pvL (e_api_Re v0)), one (.int .i64 v1)] [] (one (.bool r)) [] := by
  refine sim_of [] Tryz.func52 rfl (by kernel_rfl) (by kernel_rfl) ?_
  show WA _ _ 121 _ _ _
  refine WA.seq ?_
  refine WA.reg [1, 2] [102] [(0, .obj 102)] (env' := [(1, one (.int .i64 v1)), (2, .val false [.ptr 102 1 0 0])]) (os' := [(102, .box (pvL (e_api_Re v0)))]) (O := []) (by kernel_rfl) (sound _ _) trivial ?_
  refine WA.seq ?_
  refine WA.seq ?_
  refine WA.reg [1, 2, 9] [102] [] (env' := [(1, one (.int .i64 v1)), (2, .val false [.ptr 102 1 0 0]), (9, one (.bool (v1 == 0)))]) (os' := [(102, .box (pvL (e_api_Re v0)))]) (O := []) (by kernel_rfl) (sound _ _) trivial ?_
  refine WA.cond (b := (v1 == 0)) rfl (fun hb101 => ?_) (fun hb101 => ?_)
  · have hF := cond_t hF hb101
    refine WA.seq ?_
    refine WA.reg [4] [] [] (env' := [(4, one (.bool false))]) (os' := []) (O := []) (by kernel_rfl) (sound _ _) trivial ?_
    refine WA.ret ?_
    obtain rfl := Option.some.inj hF
    exact out_ret (one (.bool false)) [] (by kernel_rfl) (by kernel_rfl) (by kernel_rfl) (by kernel_rfl) (by decide) rfl rfl
  · have hF := cond_f hF hb101
    refine WA.skip ?_
    refine WA.seq ?_
    refine WA.seq ?_
    refine WA.regM (α := Int) (raw := ((es_api_Re v0.f_L).length : Int)) (can := (v0.f_L.length : Int)) (fun m_ => ([(1, one (.int .i64 v1)), (2, .val false [.ptr 102 1 0 0]), (11, one (.sl (es_api_Re v0.f_L))), (12, one (.int .i64 m_)), (13, one (.int .i64 0))], [(102, .box (pvL (e_api_Re v0)))], [])) ((by first | (simp only [zlm, zla, zlc, zln, zls, zlr, zlt, zld, lens_api_Re]; done) | (simp only [zlm, zla, zlc, zln, zls, zlr, zlt, zld, lens_api_Re]; omega) | omega)) [1, 2, 11, 12, 13] [102] [] (env' := [(1, one (.int .i64 v1)), (2, .val false [.ptr 102 1 0 0]), (11, one (.sl (es_api_Re v0.f_L))), (12, one (.int .i64 (v0.f_L.length : Int))), (13, one (.int .i64 0))]) (os' := [(102, .box (pvL (e_api_Re v0)))]) (O := []) (by kernel_rfl) (by kernel_rfl) (sound _ _) trivial ?_
    refine WA.block ?_
    refine WA.loop (fun m s_ => ∃ (v111 : Int), pickE s_.env [1, 2, 11, 12, 13] = [(1, one (.int .i64 v1)), (2, .val false [.ptr 102 1 0 0]), (11, one (.sl (es_api_Re v0.f_L))), (12, one (.int .i64 (v0.f_L.length : Int))), (13, one (.int .i64 v111))] ∧ pickE s_.os [102] = [(102, .box (pvL (e_api_Re v0)))] ∧ F52_l0 R52 k v0 v1 m v111 = some r) k ⟨0, by kernel_rfl, by kernel_rfl, hF⟩ ?_
    clear hF
    rintro m0 s_ ⟨v111, he, ho, hF⟩
    refine WA.keep _ _ he ho ?_
    clear he ho
    cases m0 with
    | zero => cases hF
    | succ m0 =>
      obtain ⟨self0, hself0⟩ : ∃ g, g = F52_l0 R52 k v0 v1 m0 := ⟨_, rfl⟩
      have hF : F52_b0 R52 k self0 v0 v1 v111 = some r := by first | (rw [hself0]; exact hF) | exact hF
      refine WA.seq ?_
      refine WA.reg [1, 2, 11, 12, 13, 14] [102] [] (env' := [(1, one (.int .i64 v1)), (2, .val false [.ptr 102 1 0 0]), (11, one (.sl (es_api_Re v0.f_L))), (12, one (.int .i64 (v0.f_L.length : Int))), (13, one (.int .i64 v111)), (14, one (.bool (decide (v111 < (v0.f_L.length : Int)))))]) (os' := [(102, .box (pvL (e_api_Re v0)))]) (O := []) (by kernel_rfl) (sound _ _) trivial ?_
      refine WA.seq ?_
      refine WA.cond (b := (decide (v111 < (v0.f_L.length : Int)))) rfl (fun hb112 => ?_) (fun hb112 => ?_)
      · have hF := cond_t hF hb112
        refine WA.skip ?_
        refine WA.seq ?_
        refine WA.block ?_
        refine WA.seq ?_
        obtain ⟨y113, hy113, hF⟩ := bind_some hF
        refine WA.reg [1, 2, 6, 11, 12, 13] [102, 106] [(0, .cells (e_api_Re y113)), (2, .obj 106)] (env' := [(1, one (.int .i64 v1)), (2, .val false [.ptr 102 1 0 0]), (6, .val false [.ptr 106 1 0 0]), (11, one (.sl (es_api_Re v0.f_L))), (12, one (.int .i64 (v0.f_L.length : Int))), (13, one (.int .i64 v111))]) (os' := [(102, .box (pvL (e_api_Re v0))), (106, .box (pvL (e_api_Re y113)))]) (O := [idxL (es_api_Re v0.f_L) v111 = some (e_api_Re y113)]) (by kernel_rfl) (sound _ _) ⟨(idx_api_Re hy113), trivial⟩ ?_
        refine WA.seq ?_
        obtain ⟨y114, hy114, hF⟩ := bind_some hF
        refine WA.reg [1, 2, 11, 12, 13, 21] [102] [(3, .callR [] (one (.bool y114)))] (env' := [(1, one (.int .i64 v1)), (2, .val false [.ptr 102 1 0 0]), (11, one (.sl (es_api_Re v0.f_L))), (12, one (.int .i64 (v0.f_L.length : Int))), (13, one (.int .i64 v111)), (21, one (.bool (!y114)))]) (os' := [(102, .box (pvL (e_api_Re v0)))]) (O := [Sim Tryz.prog GL0 52 [.val true (pvL (e_api_Re y113)), one (.int .i64 (w64 (v1 - 1)))] [] (one (.bool y114)) [], ([] : List Nat).Nodup]) (by kernel_rfl) (sound _ _) ⟨(IH52 _ _ _ hy114), (by decide), trivial⟩ ?_
        refine WA.cond (b := (!y114)) rfl (fun hb115 => ?_) (fun hb115 => ?_)
        · have hF := cond_t hF hb115
          refine WA.seq ?_
          refine WA.reg [4] [] [] (env' := [(4, one (.bool false))]) (os' := []) (O := []) (by kernel_rfl) (sound _ _) trivial ?_
          refine WA.ret ?_
          obtain rfl := Option.some.inj hF
          exact out_ret (one (.bool false)) [] (by kernel_rfl) (by kernel_rfl) (by kernel_rfl) (by kernel_rfl) (by decide) rfl rfl
        · have hF := cond_f hF hb115
          refine WA.skip ?_
          refine WA.reg [1, 2, 11, 12, 13] [102] [] (env' := [(1, one (.int .i64 v1)), (2, .val false [.ptr 102 1 0 0]), (11, one (.sl (es_api_Re v0.f_L))), (12, one (.int .i64 (v0.f_L.length : Int))), (13, one (.int .i64 (w64 (v111 + 1))))]) (os' := [(102, .box (pvL (e_api_Re v0)))]) (O := []) (by kernel_rfl) (sound _ _) trivial ?_
          exact ⟨m0, Nat.lt_succ_self _, (w64 (v111 + 1)), by kernel_rfl, by kernel_rfl, by rw [hself0] at hF; exact hF⟩
      · have hF := cond_f hF hb112
        refine WA.exit ?_
        refine WA.join (fun s_ => ∃ (v117 : Bool), pickE s_.env [2, 7] = [(2, .val false [.ptr 102 1 0 0]), (7, one (.bool v117))] ∧ pickE s_.os [102] = [(102, .box (pvL (e_api_Re v0)))] ∧ F52_j1 k v0 v117 = some r) ?_ ?_
        · rintro s_ ⟨v117, he, ho, hF⟩
          refine WA.keep _ _ he ho ?_
          clear he ho
          refine WA.seq ?_
          refine WA.seq ?_
          refine WA.reg [2, 7, 32] [102] [] (env' := [(2, .val false [.ptr 102 1 0 0]), (7, one (.bool v117)), (32, one (.int .i64 v0.f_Kind))]) (os' := [(102, .box (pvL (e_api_Re v0)))]) (O := []) (by kernel_rfl) (sound _ _) trivial ?_
          refine WA.block ?_
          refine WA.seq ?_
          refine WA.reg [2, 7, 32, 33] [102] [] (env' := [(2, .val false [.ptr 102 1 0 0]), (7, one (.bool v117)), (32, one (.int .i64 v0.f_Kind)), (33, one (.bool (v0.f_Kind == 1)))]) (os' := [(102, .box (pvL (e_api_Re v0)))]) (O := []) (by kernel_rfl) (sound _ _) trivial ?_
          refine WA.cond (b := (v0.f_Kind == 1)) rfl (fun hb118 => ?_) (fun hb118 => ?_)
          · have hF := cond_t hF hb118
            refine WA.join (fun s_ => ∃ (v125 : Bool), pickE s_.env [4] = [(4, one (.bool v125))] ∧ pickE s_.os [] = [] ∧ F52_j2 v125 = some r) ?_ ?_
            · rintro s_ ⟨v125, he, ho, hF⟩
              refine WA.keep _ _ he ho ?_
              clear he ho
              refine WA.ret ?_
              obtain rfl := Option.some.inj hF
              exact out_ret (one (.bool v125)) [] (by kernel_rfl) (by kernel_rfl) (by kernel_rfl) (by kernel_rfl) (by decide) rfl rfl
            · rcases Bool.eq_false_or_eq_true v117 with hb119 | hb119
              · have hF := cond_t hF hb119
                rcases Bool.eq_false_or_eq_true ((v0.f_L.length : Int) == 0) with hb120 | hb120
                · have hF := cond_t hF hb120
                  obtain ⟨y121, hy121, hF⟩ := bind_some hF
                  obtain ⟨y122, hy122, hF⟩ := bind_some hF
                  obtain ⟨y123, hy123, hF⟩ := bind_some hF
                  obtain ⟨y124, hy124, hF⟩ := bind_some hF
                  refine WA.regDM (α := Int) (raw := ((es_api_Re v0.f_L).length : Int)) (can := (v0.f_L.length : Int)) (fun m_ => ([(4, one (.bool y124))], [], [v117 = true, (m_ == 0) = true, Sim Tryz.prog GL0 77 [one (.sl (v0.f_Set.map e_api_Range))] [] (one (.sl (y121.map e_api_Range))) [], ([] : List Nat).Nodup, Sim Tryz.prog GL0 59 [] [] (one (.sl (y122.map e_api_Range))) [], ([] : List Nat).Nodup, Sim Tryz.prog GL0 76 [one (.sl (y121.map e_api_Range)), one (.sl (y122.map e_api_Range))] [] (one (.sl (y123.map e_api_Range))) [], ([] : List Nat).Nodup, Sim Tryz.prog GL0 75 [one (.sl (y123.map e_api_Range)), one (.sl (v0.f_Set.map e_api_Range))] [] (one (.bool y124)) [], ([] : List Nat).Nodup])) ((by first | (simp only [zlm, zla, zlc, zln, zls, zlr, zlt, zld, lens_api_Re]; done) | (simp only [zlm, zla, zlc, zln, zls, zlr, zlt, zld, lens_api_Re]; omega) | omega)) [4] [] [(1, .bool true), (7, .bool true), (10, .callR [] (one (.sl (y121.map e_api_Range)))), (11, .callR [] (one (.sl (y122.map e_api_Range)))), (12, .callR [] (one (.sl (y123.map e_api_Range)))), (15, .callR [] (one (.bool y124)))] (env' := [(4, one (.bool y124))]) (os' := []) (O := [v117 = true, ((v0.f_L.length : Int) == 0) = true, Sim Tryz.prog GL0 77 [one (.sl (v0.f_Set.map e_api_Range))] [] (one (.sl (y121.map e_api_Range))) [], ([] : List Nat).Nodup, Sim Tryz.prog GL0 59 [] [] (one (.sl (y122.map e_api_Range))) [], ([] : List Nat).Nodup, Sim Tryz.prog GL0 76 [one (.sl (y121.map e_api_Range)), one (.sl (y122.map e_api_Range))] [] (one (.sl (y123.map e_api_Range))) [], ([] : List Nat).Nodup, Sim Tryz.prog GL0 75 [one (.sl (y123.map e_api_Range)), one (.sl (v0.f_Set.map e_api_Range))] [] (one (.bool y124)) [], ([] : List Nat).Nodup]) (by kernel_rfl) (by kernel_rfl) (by kernel_rfl) (by kernel_rfl) (sound _ _) ⟨hb119, hb120, (F77_ok k _ _ hy121), (by decide), (F59_ok k _ hy122), (by decide), (F76_ok k _ _ _ hy123), (by decide), (F75_ok k _ _ _ hy124), (by decide), trivial⟩ ?_
                  exact ⟨y124, by kernel_rfl, by kernel_rfl, hF⟩
                · have hF := cond_f hF hb120
                  refine WA.regDM (α := Int) (raw := ((es_api_Re v0.f_L).length : Int)) (can := (v0.f_L.length : Int)) (fun m_ => ([(4, one (.bool false))], [], [v117 = true, (m_ == 0) = false])) ((by first | (simp only [zlm, zla, zlc, zln, zls, zlr, zlt, zld, lens_api_Re]; done) | (simp only [zlm, zla, zlc, zln, zls, zlr, zlt, zld, lens_api_Re]; omega) | omega)) [4] [] [(1, .bool true), (7, .bool false), (10, .callR [] (.tup [])), (11, .callR [] (.tup [])), (12, .callR [] (.tup [])), (15, .callR [] (.tup []))] (env' := [(4, one (.bool false))]) (os' := []) (O := [v117 = true, ((v0.f_L.length : Int) == 0) = false]) (by kernel_rfl) (by kernel_rfl) (by kernel_rfl) (by kernel_rfl) (sound _ _) ⟨hb119, hb120, trivial⟩ ?_
                  exact ⟨false, by kernel_rfl, by kernel_rfl, hF⟩
              · have hF := cond_f hF hb119
                refine WA.regD (by kernel_rfl) [4] [] [(1, .bool false), (10, .callR [] (.tup [])), (11, .callR [] (.tup [])), (12, .callR [] (.tup [])), (15, .callR [] (.tup []))] (env' := [(4, one (.bool false))]) (os' := []) (O := [v117 = false]) (by kernel_rfl) (by kernel_rfl) (sound _ _) ⟨hb119, trivial⟩ ?_
                exact ⟨false, by kernel_rfl, by kernel_rfl, hF⟩
          · have hF := cond_f hF hb118
            refine WA.seq ?_
            refine WA.reg [2, 7, 32, 52] [102] [] (env' := [(2, .val false [.ptr 102 1 0 0]), (7, one (.bool v117)), (32, one (.int .i64 v0.f_Kind)), (52, one (.bool (v0.f_Kind == 2)))]) (os' := [(102, .box (pvL (e_api_Re v0)))]) (O := []) (by kernel_rfl) (sound _ _) trivial ?_
            refine WA.cond (b := (v0.f_Kind == 2)) rfl (fun hb126 => ?_) (fun hb126 => ?_)
            · have hF := cond_t hF hb126
              refine WA.join (fun s_ => ∃ (v129 : Bool), pickE s_.env [4] = [(4, one (.bool v129))] ∧ pickE s_.os [] = [] ∧ F52_j3 v129 = some r) ?_ ?_
              · rintro s_ ⟨v129, he, ho, hF⟩
                refine WA.keep _ _ he ho ?_
                clear he ho
                refine WA.ret ?_
                obtain rfl := Option.some.inj hF
                exact out_ret (one (.bool v129)) [] (by kernel_rfl) (by kernel_rfl) (by kernel_rfl) (by kernel_rfl) (by decide) rfl rfl
              · rcases Bool.eq_false_or_eq_true v117 with hb127 | hb127
                · have hF := cond_t hF hb127
                  rcases Bool.eq_false_or_eq_true ((v0.f_L.length : Int) != 1) with hb128 | hb128
                  · have hF := cond_t hF hb128
                    refine WA.regM (α := Int × Int) (raw := (((v0.f_Set.map e_api_Range).length : Int), ((es_api_Re v0.f_L).length : Int))) (can := ((v0.f_Set.length : Int), (v0.f_L.length : Int))) (fun m_ => ([(4, one (.bool (m_.1 == 0)))], [], [v117 = true, (m_.2 != 1) = true])) (pair_eq (by first | (simp only [zlm, zla, zlc, zln, zls, zlr, zlt, zld, lens_api_Re]; done) | (simp only [zlm, zla, zlc, zln, zls, zlr, zlt, zld, lens_api_Re]; omega) | omega) (by first | (simp only [zlm, zla, zlc, zln, zls, zlr, zlt, zld, lens_api_Re]; done) | (simp only [zlm, zla, zlc, zln, zls, zlr, zlt, zld, lens_api_Re]; omega) | omega)) [4] [] [(1, .bool true), (7, .bool true)] (env' := [(4, one (.bool ((v0.f_Set.length : Int) == 0)))]) (os' := []) (O := [v117 = true, ((v0.f_L.length : Int) != 1) = true]) (by kernel_rfl) (by kernel_rfl) (sound _ _) ⟨hb127, hb128, trivial⟩ ?_
                    exact ⟨((v0.f_Set.length : Int) == 0), by kernel_rfl, by kernel_rfl, hF⟩
                  · have hF := cond_f hF hb128
                    refine WA.regM (α := Int) (raw := ((es_api_Re v0.f_L).length : Int)) (can := (v0.f_L.length : Int)) (fun m_ => ([(4, one (.bool false))], [], [v117 = true, (m_ != 1) = false])) ((by first | (simp only [zlm, zla, zlc, zln, zls, zlr, zlt, zld, lens_api_Re]; done) | (simp only [zlm, zla, zlc, zln, zls, zlr, zlt, zld, lens_api_Re]; omega) | omega)) [4] [] [(1, .bool true), (7, .bool false)] (env' := [(4, one (.bool false))]) (os' := []) (O := [v117 = true, ((v0.f_L.length : Int) != 1) = false]) (by kernel_rfl) (by kernel_rfl) (sound _ _) ⟨hb127, hb128, trivial⟩ ?_
                    exact ⟨false, by kernel_rfl, by kernel_rfl, hF⟩
                · have hF := cond_f hF hb127
                  refine WA.reg [4] [] [(1, .bool false)] (env' := [(4, one (.bool false))]) (os' := []) (O := [v117 = false]) (by kernel_rfl) (sound _ _) ⟨hb127, trivial⟩ ?_
                  exact ⟨false, by kernel_rfl, by kernel_rfl, hF⟩
            · have hF := cond_f hF hb126
              refine WA.seq ?_
              refine WA.reg [2, 7, 32, 67] [102] [] (env' := [(2, .val false [.ptr 102 1 0 0]), (7, one (.bool v117)), (32, one (.int .i64 v0.f_Kind)), (67, one (.bool (v0.f_Kind == 3)))]) (os' := [(102, .box (pvL (e_api_Re v0)))]) (O := []) (by kernel_rfl) (sound _ _) trivial ?_
              refine WA.cond (b := (v0.f_Kind == 3)) rfl (fun hb130 => ?_) (fun hb130 => ?_)
              · have hF := cond_t hF hb130
                refine WA.join (fun s_ => ∃ (v133 : Bool), pickE s_.env [4] = [(4, one (.bool v133))] ∧ pickE s_.os [] = [] ∧ F52_j4 v133 = some r) ?_ ?_
                · rintro s_ ⟨v133, he, ho, hF⟩
                  refine WA.keep _ _ he ho ?_
                  clear he ho
                  refine WA.ret ?_
                  obtain rfl := Option.some.inj hF
                  exact out_ret (one (.bool v133)) [] (by kernel_rfl) (by kernel_rfl) (by kernel_rfl) (by kernel_rfl) (by decide) rfl rfl
                · rcases Bool.eq_false_or_eq_true v117 with hb131 | hb131
                  · have hF := cond_t hF hb131
                    rcases Bool.eq_false_or_eq_true (decide ((v0.f_L.length : Int) > 1)) with hb132 | hb132
                    · have hF := cond_t hF hb132
                      refine WA.regM (α := Int × Int) (raw := (((v0.f_Set.map e_api_Range).length : Int), ((es_api_Re v0.f_L).length : Int))) (can := ((v0.f_Set.length : Int), (v0.f_L.length : Int))) (fun m_ => ([(4, one (.bool (m_.1 == 0)))], [], [v117 = true, (decide (m_.2 > 1)) = true])) (pair_eq (by first | (simp only [zlm, zla, zlc, zln, zls, zlr, zlt, zld, lens_api_Re]; done) | (simp only [zlm, zla, zlc, zln, zls, zlr, zlt, zld, lens_api_Re]; omega) | omega) (by first | (simp only [zlm, zla, zlc, zln, zls, zlr, zlt, zld, lens_api_Re]; done) | (simp only [zlm, zla, zlc, zln, zls, zlr, zlt, zld, lens_api_Re]; omega) | omega)) [4] [] [(1, .bool true), (7, .bool true)] (env' := [(4, one (.bool ((v0.f_Set.length : Int) == 0)))]) (os' := []) (O := [v117 = true, (decide ((v0.f_L.length : Int) > 1)) = true]) (by kernel_rfl) (by kernel_rfl) (sound _ _) ⟨hb131, hb132, trivial⟩ ?_
                      exact ⟨((v0.f_Set.length : Int) == 0), by kernel_rfl, by kernel_rfl, hF⟩
                    · have hF := cond_f hF hb132
                      refine WA.regM (α := Int) (raw := ((es_api_Re v0.f_L).length : Int)) (can := (v0.f_L.length : Int)) (fun m_ => ([(4, one (.bool false))], [], [v117 = true, (decide (m_ > 1)) = false])) ((by first | (simp only [zlm, zla, zlc, zln, zls, zlr, zlt, zld, lens_api_Re]; done) | (simp only [zlm, zla, zlc, zln, zls, zlr, zlt, zld, lens_api_Re]; omega) | omega)) [4] [] [(1, .bool true), (7, .bool false)] (env' := [(4, one (.bool false))]) (os' := []) (O := [v117 = true, (decide ((v0.f_L.length : Int) > 1)) = false]) (by kernel_rfl) (by kernel_rfl) (sound _ _) ⟨hb131, hb132, trivial⟩ ?_
                      exact ⟨false, by kernel_rfl, by kernel_rfl, hF⟩
                  · have hF := cond_f hF hb131
                    refine WA.reg [4] [] [(1, .bool false)] (env' := [(4, one (.bool false))]) (os' := []) (O := [v117 = false]) (by kernel_rfl) (sound _ _) ⟨hb131, trivial⟩ ?_
                    exact ⟨false, by kernel_rfl, by kernel_rfl, hF⟩
              · have hF := cond_f hF hb130
                refine WA.seq ?_
                refine WA.reg [2, 82] [102] [] (env' := [(2, .val false [.ptr 102 1 0 0]), (82, one (.bool (v0.f_Kind == 4)))]) (os' := [(102, .box (pvL (e_api_Re v0)))]) (O := []) (by kernel_rfl) (sound _ _) trivial ?_
                refine WA.cond (b := (v0.f_Kind == 4)) rfl (fun hb134 => ?_) (fun hb134 => ?_)
                · have hF := cond_t hF hb134
                  refine WA.join (fun s_ => ∃ (v141 : Bool), pickE s_.env [4] = [(4, one (.bool v141))] ∧ pickE s_.os [] = [] ∧ F52_j5 v141 = some r) ?_ ?_
                  · rintro s_ ⟨v141, he, ho, hF⟩
                    refine WA.keep _ _ he ho ?_
                    clear he ho
                    refine WA.ret ?_
                    obtain rfl := Option.some.inj hF
                    exact out_ret (one (.bool v141)) [] (by kernel_rfl) (by kernel_rfl) (by kernel_rfl) (by kernel_rfl) (by decide) rfl rfl
                  · rcases Bool.eq_false_or_eq_true ((v0.f_L.length : Int) == 1) with hb135 | hb135
                    · have hF := cond_t hF hb135
                      rcases Bool.eq_false_or_eq_true ((v0.f_Set.length : Int) == 0) with hb136 | hb136
                      · have hF := cond_t hF hb136
                        rcases Bool.eq_false_or_eq_true (decide (v0.f_Min ≥ 0)) with hb137 | hb137
                        · have hF := cond_t hF hb137
                          rcases Bool.eq_false_or_eq_true (decide (v0.f_Min ≤ 20)) with hb138 | hb138
                          · have hF := cond_t hF hb138
                            rcases Bool.eq_false_or_eq_true (decide (v0.f_Max ≤ 20)) with hb139 | hb139
                            · have hF := cond_t hF hb139
                              rcases Bool.eq_false_or_eq_true (v0.f_Max == (-1)) with hb140 | hb140
                              · have hF := cond_t hF hb140
                                refine WA.regM (α := Int × Int) (raw := (((es_api_Re v0.f_L).length : Int), ((v0.f_Set.map e_api_Range).length : Int))) (can := ((v0.f_L.length : Int), (v0.f_Set.length : Int))) (fun m_ => ([(4, one (.bool true))], [], [(m_.1 == 1) = true, (m_.2 == 0) = true, (decide (v0.f_Min ≥ 0)) = true, (decide (v0.f_Min ≤ 20)) = true, (decide (v0.f_Max ≤ 20)) = true, (v0.f_Max == (-1)) = true])) (pair_eq (by first | (simp only [zlm, zla, zlc, zln, zls, zlr, zlt, zld, lens_api_Re]; done) | (simp only [zlm, zla, zlc, zln, zls, zlr, zlt, zld, lens_api_Re]; omega) | omega) (by first | (simp only [zlm, zla, zlc, zln, zls, zlr, zlt, zld, lens_api_Re]; done) | (simp only [zlm, zla, zlc, zln, zls, zlr, zlt, zld, lens_api_Re]; omega) | omega)) [4] [] [(4, .bool true), (10, .bool true), (15, .bool true), (20, .bool true), (25, .bool true), (29, .bool true)] (env' := [(4, one (.bool true))]) (os' := []) (O := [((v0.f_L.length : Int) == 1) = true, ((v0.f_Set.length : Int) == 0) = true, (decide (v0.f_Min ≥ 0)) = true, (decide (v0.f_Min ≤ 20)) = true, (decide (v0.f_Max ≤ 20)) = true, (v0.f_Max == (-1)) = true]) (by kernel_rfl) (by kernel_rfl) (sound _ _) ⟨hb135, hb136, hb137, hb138, hb139, hb140, trivial⟩ ?_
                                exact ⟨true, by kernel_rfl, by kernel_rfl, hF⟩
                              · have hF := cond_f hF hb140
                                refine WA.regM (α := Int × Int) (raw := (((es_api_Re v0.f_L).length : Int), ((v0.f_Set.map e_api_Range).length : Int))) (can := ((v0.f_L.length : Int), (v0.f_Set.length : Int))) (fun m_ => ([(4, one (.bool (decide (v0.f_Max ≥ v0.f_Min))))], [], [(m_.1 == 1) = true, (m_.2 == 0) = true, (decide (v0.f_Min ≥ 0)) = true, (decide (v0.f_Min ≤ 20)) = true, (decide (v0.f_Max ≤ 20)) = true, (v0.f_Max == (-1)) = false])) (pair_eq (by first | (simp only [zlm, zla, zlc, zln, zls, zlr, zlt, zld, lens_api_Re]; done) | (simp only [zlm, zla, zlc, zln, zls, zlr, zlt, zld, lens_api_Re]; omega) | omega) (by first | (simp only [zlm, zla, zlc, zln, zls, zlr, zlt, zld, lens_api_Re]; done) | (simp only [zlm, zla, zlc, zln, zls, zlr, zlt, zld, lens_api_Re]; omega) | omega)) [4] [] [(4, .bool true), (10, .bool true), (15, .bool true), (20, .bool true), (25, .bool true), (29, .bool false)] (env' := [(4, one (.bool (decide (v0.f_Max ≥ v0.f_Min))))]) (os' := []) (O := [((v0.f_L.length : Int) == 1) = true, ((v0.f_Set.length : Int) == 0) = true, (decide (v0.f_Min ≥ 0)) = true, (decide (v0.f_Min ≤ 20)) = true, (decide (v0.f_Max ≤ 20)) = true, (v0.f_Max == (-1)) = false]) (by kernel_rfl) (by kernel_rfl) (sound _ _) ⟨hb135, hb136, hb137, hb138, hb139, hb140, trivial⟩ ?_
                                exact ⟨(decide (v0.f_Max ≥ v0.f_Min)), by kernel_rfl, by kernel_rfl, hF⟩
                            · have hF := cond_f hF hb139
                              refine WA.regM (α := Int × Int) (raw := (((es_api_Re v0.f_L).length : Int), ((v0.f_Set.map e_api_Range).length : Int))) (can := ((v0.f_L.length : Int), (v0.f_Set.length : Int))) (fun m_ => ([(4, one (.bool false))], [], [(m_.1 == 1) = true, (m_.2 == 0) = true, (decide (v0.f_Min ≥ 0)) = true, (decide (v0.f_Min ≤ 20)) = true, (decide (v0.f_Max ≤ 20)) = false])) (pair_eq (by first | (simp only [zlm, zla, zlc, zln, zls, zlr, zlt, zld, lens_api_Re]; done) | (simp only [zlm, zla, zlc, zln, zls, zlr, zlt, zld, lens_api_Re]; omega) | omega) (by first | (simp only [zlm, zla, zlc, zln, zls, zlr, zlt, zld, lens_api_Re]; done) | (simp only [zlm, zla, zlc, zln, zls, zlr, zlt, zld, lens_api_Re]; omega) | omega)) [4] [] [(4, .bool true), (10, .bool true), (15, .bool true), (20, .bool true), (25, .bool false)] (env' := [(4, one (.bool false))]) (os' := []) (O := [((v0.f_L.length : Int) == 1) = true, ((v0.f_Set.length : Int) == 0) = true, (decide (v0.f_Min ≥ 0)) = true, (decide (v0.f_Min ≤ 20)) = true, (decide (v0.f_Max ≤ 20)) = false]) (by kernel_rfl) (by kernel_rfl) (sound _ _) ⟨hb135, hb136, hb137, hb138, hb139, trivial⟩ ?_
                              exact ⟨false, by kernel_rfl, by kernel_rfl, hF⟩
                          · have hF := cond_f hF hb138
                            refine WA.regM (α := Int × Int) (raw := (((es_api_Re v0.f_L).length : Int), ((v0.f_Set.map e_api_Range).length : Int))) (can := ((v0.f_L.length : Int), (v0.f_Set.length : Int))) (fun m_ => ([(4, one (.bool false))], [], [(m_.1 == 1) = true, (m_.2 == 0) = true, (decide (v0.f_Min ≥ 0)) = true, (decide (v0.f_Min ≤ 20)) = false])) (pair_eq (by first | (simp only [zlm, zla, zlc, zln, zls, zlr, zlt, zld, lens_api_Re]; done) | (simp only [zlm, zla, zlc, zln, zls, zlr, zlt, zld, lens_api_Re]; omega) | omega) (by first | (simp only [zlm, zla, zlc, zln, zls, zlr, zlt, zld, lens_api_Re]; done) | (simp only [zlm, zla, zlc, zln, zls, zlr, zlt, zld, lens_api_Re]; omega) | omega)) [4] [] [(4, .bool true), (10, .bool true), (15, .bool true), (20, .bool false)] (env' := [(4, one (.bool false))]) (os' := []) (O := [((v0.f_L.length : Int) == 1) = true, ((v0.f_Set.length : Int) == 0) = true, (decide (v0.f_Min ≥ 0)) = true, (decide (v0.f_Min ≤ 20)) = false]) (by kernel_rfl) (by kernel_rfl) (sound _ _) ⟨hb135, hb136, hb137, hb138, trivial⟩ ?_
                            exact ⟨false, by kernel_rfl, by kernel_rfl, hF⟩
                        · have hF := cond_f hF hb137
                          refine WA.regM (α := Int × Int) (raw := (((es_api_Re v0.f_L).length : Int), ((v0.f_Set.map e_api_Range).length : Int))) (can := ((v0.f_L.length : Int), (v0.f_Set.length : Int))) (fun m_ => ([(4, one (.bool false))], [], [(m_.1 == 1) = true, (m_.2 == 0) = true, (decide (v0.f_Min ≥ 0)) = false])) (pair_eq (by first | (simp only [zlm, zla, zlc, zln, zls, zlr, zlt, zld, lens_api_Re]; done) | (simp only [zlm, zla, zlc, zln, zls, zlr, zlt, zld, lens_api_Re]; omega) | omega) (by first | (simp only [zlm, zla, zlc, zln, zls, zlr, zlt, zld, lens_api_Re]; done) | (simp only [zlm, zla, zlc, zln, zls, zlr, zlt, zld, lens_api_Re]; omega) | omega)) [4] [] [(4, .bool true), (10, .bool true), (15, .bool false)] (env' := [(4, one (.bool false))]) (os' := []) (O := [((v0.f_L.length : Int) == 1) = true, ((v0.f_Set.length : Int) == 0) = true, (decide (v0.f_Min ≥ 0)) = false]) (by kernel_rfl) (by kernel_rfl) (sound _ _) ⟨hb135, hb136, hb137, trivial⟩ ?_
                          exact ⟨false, by kernel_rfl, by kernel_rfl, hF⟩
                      · have hF := cond_f hF hb136
                        refine WA.regM (α := Int × Int) (raw := (((es_api_Re v0.f_L).length : Int), ((v0.f_Set.map e_api_Range).length : Int))) (can := ((v0.f_L.length : Int), (v0.f_Set.length : Int))) (fun m_ => ([(4, one (.bool false))], [], [(m_.1 == 1) = true, (m_.2 == 0) = false])) (pair_eq (by first | (simp only [zlm, zla, zlc, zln, zls, zlr, zlt, zld, lens_api_Re]; done) | (simp only [zlm, zla, zlc, zln, zls, zlr, zlt, zld, lens_api_Re]; omega) | omega) (by first | (simp only [zlm, zla, zlc, zln, zls, zlr, zlt, zld, lens_api_Re]; done) | (simp only [zlm, zla, zlc, zln, zls, zlr, zlt, zld, lens_api_Re]; omega) | omega)) [4] [] [(4, .bool true), (10, .bool false)] (env' := [(4, one (.bool false))]) (os' := []) (O := [((v0.f_L.length : Int) == 1) = true, ((v0.f_Set.length : Int) == 0) = false]) (by kernel_rfl) (by kernel_rfl) (sound _ _) ⟨hb135, hb136, trivial⟩ ?_
                        exact ⟨false, by kernel_rfl, by kernel_rfl, hF⟩
                    · have hF := cond_f hF hb135
                      refine WA.regM (α := Int) (raw := ((es_api_Re v0.f_L).length : Int)) (can := (v0.f_L.length : Int)) (fun m_ => ([(4, one (.bool false))], [], [(m_ == 1) = false])) ((by first | (simp only [zlm, zla, zlc, zln, zls, zlr, zlt, zld, lens_api_Re]; done) | (simp only [zlm, zla, zlc, zln, zls, zlr, zlt, zld, lens_api_Re]; omega) | omega)) [4] [] [(4, .bool false)] (env' := [(4, one (.bool false))]) (os' := []) (O := [((v0.f_L.length : Int) == 1) = false]) (by kernel_rfl) (by kernel_rfl) (sound _ _) ⟨hb135, trivial⟩ ?_
                      exact ⟨false, by kernel_rfl, by kernel_rfl, hF⟩
                · have hF := cond_f hF hb134
                  refine WA.skip ?_
                  refine WA.seq ?_
                  refine WA.reg [4] [] [] (env' := [(4, one (.bool false))]) (os' := []) (O := []) (by kernel_rfl) (sound _ _) trivial ?_
                  refine WA.ret ?_
                  obtain rfl := Option.some.inj hF
                  exact out_ret (one (.bool false)) [] (by kernel_rfl) (by kernel_rfl) (by kernel_rfl) (by kernel_rfl) (by decide) rfl rfl
        · rcases Bool.eq_false_or_eq_true (v0.f_Min == 0) with hb116 | hb116
          · have hF := cond_t hF hb116
            refine WA.reg [2, 7] [102] [(3, .bool true)] (env' := [(2, .val false [.ptr 102 1 0 0]), (7, one (.bool (v0.f_Max == 0)))]) (os' := [(102, .box (pvL (e_api_Re v0)))]) (O := [(v0.f_Min == 0) = true]) (by kernel_rfl) (sound _ _) ⟨hb116, trivial⟩ ?_
            exact ⟨(v0.f_Max == 0), by kernel_rfl, by kernel_rfl, hF⟩
          · have hF := cond_f hF hb116
            refine WA.reg [2, 7] [102] [(3, .bool false)] (env' := [(2, .val false [.ptr 102 1 0 0]), (7, one (.bool false))]) (os' := [(102, .box (pvL (e_api_Re v0)))]) (O := [(v0.f_Min == 0) = false]) (by kernel_rfl) (sound _ _) ⟨hb116, trivial⟩ ?_
            exact ⟨false, by kernel_rfl, by kernel_rfl, hF⟩
def F52 : Nat → api_Re → Int → Option Bool
  | 0, _, _ => none
  | k + 1, v0, v1 => F52_b (F52 k) k v0 v1
theorem F52_ok : ∀ (k : Nat), ∀ (v0 : api_Re) (v1 : Int) (r : Bool), F52 k v0 v1 = some r → Sim Tryz.prog GL0 52 [.val true (pvL (e_api_Re v0)), one (.int .i64 v1)] [] (one (.bool r)) []
  | 0 => fun _ _ _ hF => by cases hF
  | k + 1 => fun v0 v1 r hF => F52_b_ok (F52 k) (F52_ok k) k v0 v1 r hF
/-! entrepot rex.May -/
def F30_j0 (v104 : Bool) : Option Bool :=
  some v104
def F30 (k : Nat) (v0 : api_Re) : Option Bool :=
  (F52 k v0 16).bind fun y101 => cond y101 ((F32 k v0).bind fun y103 => (F30_j0 (decide (y103 ≤ 200)))) ((F30_j0 false))
theorem F30_ok (k : Nat) (v0 : api_Re) (r : Bool) (hF : F30 k v0 = some r) : Sim Tryz.prog GL0 30 [.val true (pvL (e_api_Re v0))] [] (one (.bool r)) [] := by
  refine sim_of [] Tryz.func30 rfl (by kernel_rfl) (by kernel_rfl) ?_
  show WA _ _ 10 _ _ _
  refine WA.seq ?_
  refine WA.reg [1] [101] [(0, .obj 101)] (env' := [(1, .val false [.ptr 101 1 0 0])]) (os' := [(101, .box (pvL (e_api_Re v0)))]) (O := []) (by kernel_rfl) (sound _ _) trivial ?_
  refine WA.join (fun s_ => ∃ (v104 : Bool), pickE s_.env [2] = [(2, one (.bool v104))] ∧ pickE s_.os [] = [] ∧ F30_j0 v104 = some r) ?_ ?_
  · rintro s_ ⟨v104, he, ho, hF⟩
    refine WA.keep _ _ he ho ?_
    clear he ho
    refine WA.ret ?_
    obtain rfl := Option.some.inj hF
    exact out_ret (one (.bool v104)) [] (by kernel_rfl) (by kernel_rfl) (by kernel_rfl) (by kernel_rfl) (by decide) rfl rfl
  · obtain ⟨y101, hy101, hF⟩ := bind_some hF
    rcases Bool.eq_false_or_eq_true y101 with hb102 | hb102
    · have hF := cond_t hF hb102
      obtain ⟨y103, hy103, hF⟩ := bind_some hF
      refine WA.reg [2] [] [(1, .callR [] (one (.bool y101))), (2, .bool true), (4, .callR [] (one (.int .i64 y103)))] (env' := [(2, one (.bool (decide (y103 ≤ 200))))]) (os' := []) (O := [Sim Tryz.prog GL0 52 [.val true (pvL (e_api_Re v0)), one (.int .i64 16)] [] (one (.bool y101)) [], ([] : List Nat).Nodup, y101 = true, Sim Tryz.prog GL0 32 [.val true (pvL (e_api_Re v0))] [] (one (.int .i64 y103)) [], ([] : List Nat).Nodup]) (by kernel_rfl) (sound _ _) ⟨(F52_ok k _ _ _ hy101), (by decide), hb102, (F32_ok k _ _ hy103), (by decide), trivial⟩ ?_
      exact ⟨(decide (y103 ≤ 200)), by kernel_rfl, by kernel_rfl, hF⟩
    · have hF := cond_f hF hb102
      refine WA.reg [2] [] [(1, .callR [] (one (.bool y101))), (2, .bool false)] (env' := [(2, one (.bool false))]) (os' := []) (O := [Sim Tryz.prog GL0 52 [.val true (pvL (e_api_Re v0)), one (.int .i64 16)] [] (one (.bool y101)) [], ([] : List Nat).Nodup, y101 = false]) (by kernel_rfl) (sound _ _) ⟨(F52_ok k _ _ _ hy101), (by decide), hb102, trivial⟩ ?_
      exact ⟨false, by kernel_rfl, by kernel_rfl, hF⟩
end Go.Proofs.YthilboheomikjaaGreatDoor
end

section
namespace Go.Proofs.YthilboheomikjaaGreatDoor
open Go.AL
set_option linter.unusedVariables false

/-- f_x: the capacity of f_next is its length (while a machine is built) -/
structure rex_node where
  f_set : List api_Range
  f_some : Bool
  f_next : List Int
  f_x : Bool
def e_rex_node (x : rex_node) : List PV := [.sl (x.f_set.map e_api_Range), .bool x.f_some, .sl (x.f_next.map (eInt .i64))]
def eg_rex_node (x : rex_node) : List PV := [.sl (x.f_set.map e_api_Range), .bool x.f_some, cond x.f_x (.slc (x.f_next.map (eInt .i64))) (.sl (x.f_next.map (eInt .i64)))]
theorem len_rex_node (l : List rex_node) : ∀ es, es ∈ l.map e_rex_node → es.length = 3 := fun es h => by obtain ⟨y, _, rfl⟩ := List.mem_map.1 h; rfl
theorem leng_rex_node (l : List rex_node) : ∀ es, es ∈ l.map eg_rex_node → es.length = 3 := fun es h => by obtain ⟨y, _, rfl⟩ := List.mem_map.1 h; rfl
structure rex_Machine where
  f_nodes : List rex_node
  f_first : Int
def e_rex_Machine (x : rex_Machine) : List PV := [.sl (x.f_nodes.map e_rex_node), .int .i64 x.f_first]
end Go.Proofs.YthilboheomikjaaGreatDoor
end

section
namespace Go.Proofs.YthilboheomikjaaGreatDoor
open Go.AL
set_option linter.unusedVariables false
set_option linter.unusedSimpArgs false
set_option maxRecDepth 100000

/-!   entrepot rex.Machine .put -/
def F105 (k : Nat) (v0 : rex_Machine) (v1 : rex_node) : Option (Int × rex_Machine) :=
  (if v0.f_nodes.length + ([v1] : List rex_node).length ≤ 1073741824 then ((some ((w64 (((v0.f_nodes ++ ([v1] : List rex_node)).length : Int) - 1)), ({ v0 with f_nodes := (v0.f_nodes ++ ([v1] : List rex_node)) } : rex_Machine)))) else none)
theorem F105_ok (k : Nat) (v0 : rex_Machine) (v1 : rex_node) (r : Int × rex_Machine) (hF : F105 k v0 v1 = some r) : Sim Tryz.prog GL0 105 [.val false [.ptr 0 1 0 0], .val true (pvL (eg_rex_node v1))] [.box [.arr 1 v0.f_nodes.length, .pv (.int .i64 v0.f_first)], .arr 3 (v0.f_nodes.map eg_rex_node)] (one (.int .i64 r.1)) [.box [.arr 1 r.2.f_nodes.length, .pv (.int .i64 r.2.f_first)], .arr 3 (r.2.f_nodes.map eg_rex_node)] := by
  refine sim_of [0, 1] Tryz.func105 rfl (by kernel_rfl) (by kernel_rfl) ?_
  show WA _ _ 21 _ _ _
  refine WA.seq ?_
  refine WA.reg [0, 3] [0, 1, 103] [(0, .obj 103)] (env' := [(0, .val false [.ptr 0 1 0 0]), (3, .val false [.ptr 103 1 0 0])]) (os' := [(0, .box [.arr 1 v0.f_nodes.length, .pv (.int .i64 v0.f_first)]), (1, .arr 3 (v0.f_nodes.map eg_rex_node)), (103, .box (pvL (eg_rex_node v1)))]) (O := []) (by kernel_rfl) (sound _ _) trivial ?_
  refine WA.seq ?_
  obtain ⟨hc101, hF⟩ := if_some hF
  refine WA.regDM (α := Nat × (List (List PV))) (raw := ((v0.f_nodes.length + 1), ((v0.f_nodes.map eg_rex_node) ++ (([v1] : List rex_node).map eg_rex_node)))) (can := ((v0.f_nodes ++ ([v1] : List rex_node)).length, ((v0.f_nodes ++ ([v1] : List rex_node)).map eg_rex_node))) (fun m_ => ([(0, .val false [.ptr 0 1 0 0])], [(0, .box [.arr 1 m_.1, .pv (.int .i64 v0.f_first)]), (1, .arr 3 m_.2)], [v0.f_nodes.length = (v0.f_nodes.map eg_rex_node).length, (v0.f_nodes.map eg_rex_node).length + (([v1] : List rex_node).map eg_rex_node).length ≤ 1073741824, ∀ es, es ∈ (([v1] : List rex_node).map eg_rex_node) → es.length = 3])) (pair_eq (by first | (simp only [zlm, zla, zlc, zln, zls, zlr, zlt, zld, lens_api_Re]; done) | (simp only [zlm, zla, zlc, zln, zls, zlr, zlt, zld, lens_api_Re]; omega) | omega) (by first | (simp only [len_map, app_map, take_map, drop_map, set_map, rep_map, lens_api_Re, app_api_Re, take_api_Re, drop_api_Re, set_api_Re, es_api_Re, e0_eq_api_Re]; done) | (simp only [List.map_append, List.map_cons, List.map_nil, List.map_take, List.map_drop, List.map_set, List.map_replicate, List.length_map, es_map_api_Re, e0_eq_api_Re]; done) | (simp only [List.map_append, List.map_cons, List.map_nil, List.map_take, List.map_drop, List.map_set, List.map_replicate, List.length_map, es_map_api_Re, e0_eq_api_Re, eg_rex_node, cond]; done))) [0] [0, 1] [] (env' := [(0, .val false [.ptr 0 1 0 0])]) (os' := [(0, .box [.arr 1 ((v0.f_nodes ++ ([v1] : List rex_node)).length), .pv (.int .i64 v0.f_first)]), (1, .arr 3 ((v0.f_nodes ++ ([v1] : List rex_node)).map eg_rex_node))]) (O := [v0.f_nodes.length = (v0.f_nodes.map eg_rex_node).length, (v0.f_nodes.map eg_rex_node).length + (([v1] : List rex_node).map eg_rex_node).length ≤ 1073741824, ∀ es, es ∈ (([v1] : List rex_node).map eg_rex_node) → es.length = 3]) (by kernel_rfl) (by kernel_rfl) (by kernel_rfl) (by kernel_rfl) (sound _ _) ⟨(by first | omega | (simp only [zlm, zla, zlc, zln, zls, zlr, zlt, zld, lens_api_Re]; done) | (simp only [zlm, zla, zlc, zln, zls, zlr, zlt, zld, lens_api_Re]; omega) | (simp only [zlm, zla, zlc, zln, zls, zlr, zlt, zld, lens_api_Re] at *; omega)), (by first | exact hc101 | (simp only [List.length_map, lens_api_Re] ; exact hc101)), (leng_rex_node ([v1] : List rex_node)), trivial⟩ ?_
  refine WA.seq ?_
  refine WA.regM (α := Int) (raw := ((((v0.f_nodes ++ ([v1] : List rex_node)).length) : Nat) : Int)) (can := ((v0.f_nodes ++ ([v1] : List rex_node)).length : Int)) (fun m_ => ([(4, one (.int .i64 (w64 (m_ - 1))))], [(0, .box [.arr 1 ((v0.f_nodes ++ ([v1] : List rex_node)).length), .pv (.int .i64 v0.f_first)]), (1, .arr 3 ((v0.f_nodes ++ ([v1] : List rex_node)).map eg_rex_node))], [])) ((by first | (simp only [zlm, zla, zlc, zln, zls, zlr, zlt, zld, lens_api_Re]; done) | (simp only [zlm, zla, zlc, zln, zls, zlr, zlt, zld, lens_api_Re]; omega) | omega)) [4] [0, 1] [] (env' := [(4, one (.int .i64 (w64 (((v0.f_nodes ++ ([v1] : List rex_node)).length : Int) - 1))))]) (os' := [(0, .box [.arr 1 ((v0.f_nodes ++ ([v1] : List rex_node)).length), .pv (.int .i64 v0.f_first)]), (1, .arr 3 ((v0.f_nodes ++ ([v1] : List rex_node)).map eg_rex_node))]) (O := []) (by kernel_rfl) (by kernel_rfl) (sound _ _) trivial ?_
  refine WA.ret ?_
  obtain rfl := Option.some.inj hF
  exact out_ret (one (.int .i64 (w64 (((v0.f_nodes ++ ([v1] : List rex_node)).length : Int) - 1)))) [.box [.arr 1 ((v0.f_nodes ++ ([v1] : List rex_node)).length), .pv (.int .i64 v0.f_first)], .arr 3 ((v0.f_nodes ++ ([v1] : List rex_node)).map eg_rex_node)] (by kernel_rfl) (by kernel_rfl) (by kernel_rfl) (by kernel_rfl) (by decide) rfl rfl
/-!   entrepot rex.Machine .add -/
def F78_b0 (R78 : rex_Machine → api_Re → Int → Option (Int × rex_Machine)) (self0 : rex_Machine → Int → Int → Option (Int × rex_Machine)) (v1 : api_Re) (v113 : rex_Machine) (v114 : Int) (v115 : Int) : Option (Int × rex_Machine) :=
  (cond (decide (v115 ≥ 0)) ((idxL v1.f_L v115).bind fun y117 => (R78 v113 y117 v114).bind fun y118 => (self0 y118.2 y118.1 (w64 (v115 - 1)))) (((some (v114, v113)))))
def F78_l0 (R78 : rex_Machine → api_Re → Int → Option (Int × rex_Machine)) (v1 : api_Re) : Nat → rex_Machine → Int → Int → Option (Int × rex_Machine)
  | 0, _, _, _ => none
  | m_ + 1, v113, v114, v115 => F78_b0 R78 (F78_l0 R78 v1 m_) v1 v113 v114 v115
def F78_b1 (R78 : rex_Machine → api_Re → Int → Option (Int × rex_Machine)) (k : Nat) (self1 : rex_Machine → (List Int) → Int → Option (Int × rex_Machine)) (v1 : api_Re) (v2 : Int) (v132 : rex_Machine) (v133 : List Int) (v135 : Int) : Option (Int × rex_Machine) :=
  (cond (decide (v135 < (v1.f_L.length : Int))) ((idxL v1.f_L v135).bind fun y137 => (R78 v132 y137 v2).bind fun y138 => if v133.length + ([y138.1] : List Int).length ≤ 1073741824 then (self1 y138.2 (v133 ++ ([y138.1] : List Int)) (w64 (v135 + 1))) else none) ((F105 k v132 (⟨([] : List api_Range), false, v133, false⟩ : rex_node)).bind fun y140 => (some (y140.1, y140.2))))
def F78_l1 (R78 : rex_Machine → api_Re → Int → Option (Int × rex_Machine)) (k : Nat) (v1 : api_Re) (v2 : Int) : Nat → rex_Machine → (List Int) → Int → Option (Int × rex_Machine)
  | 0, _, _, _ => none
  | m_ + 1, v132, v133, v135 => F78_b1 R78 k (F78_l1 R78 k v1 v2 m_) v1 v2 v132 v133 v135
def F78_b4 (R78 : rex_Machine → api_Re → Int → Option (Int × rex_Machine)) (self4 : rex_Machine → Int → Int → Option (Int × rex_Machine)) (v1 : api_Re) (v180 : rex_Machine) (v181 : Int) (v182 : Int) : Option (Int × rex_Machine) :=
  (cond (decide (v182 < v1.f_Min)) ((idxL v1.f_L 0).bind fun y184 => (R78 v180 y184 v181).bind fun y185 => (self4 y185.2 y185.1 (w64 (v182 + 1)))) (((some (v181, v180)))))
def F78_l4 (R78 : rex_Machine → api_Re → Int → Option (Int × rex_Machine)) (v1 : api_Re) : Nat → rex_Machine → Int → Int → Option (Int × rex_Machine)
  | 0, _, _, _ => none
  | m_ + 1, v180, v181, v182 => F78_b4 R78 (F78_l4 R78 v1 m_) v1 v180 v181 v182
def F78_j3 (R78 : rex_Machine → api_Re → Int → Option (Int × rex_Machine)) (k : Nat) (v1 : api_Re) (v169 : rex_Machine) (v170 : Int) : Option (Int × rex_Machine) :=
  (F78_l4 R78 v1 k v169 v170 0)
def F78_b2 (R78 : rex_Machine → api_Re → Int → Option (Int × rex_Machine)) (k : Nat) (self2 : rex_Machine → Int → Int → Option (Int × rex_Machine)) (v1 : api_Re) (v2 : Int) (v162 : rex_Machine) (v163 : Int) (v164 : Int) : Option (Int × rex_Machine) :=
  (cond (decide (v164 < (w64 (v1.f_Max - v1.f_Min)))) ((idxL v1.f_L 0).bind fun y166 => (R78 v162 y166 v163).bind fun y167 => (F105 k y167.2 (⟨([] : List api_Range), false, ([v2, y167.1] : List Int), false⟩ : rex_node)).bind fun y168 => (self2 y168.2 y168.1 (w64 (v164 + 1)))) ((F78_j3 R78 k v1 v162 v163)))
def F78_l2 (R78 : rex_Machine → api_Re → Int → Option (Int × rex_Machine)) (k : Nat) (v1 : api_Re) (v2 : Int) : Nat → rex_Machine → Int → Int → Option (Int × rex_Machine)
  | 0, _, _, _ => none
  | m_ + 1, v162, v163, v164 => F78_b2 R78 k (F78_l2 R78 k v1 v2 m_) v1 v2 v162 v163 v164
def F78_b (R78 : rex_Machine → api_Re → Int → Option (Int × rex_Machine)) (k : Nat) (v0 : rex_Machine) (v1 : api_Re) (v2 : Int) : Option (Int × rex_Machine) :=
  (((cond (v1.f_Kind == 1) ((F105 k v0 (⟨v1.f_Set, true, ([v2] : List Int), false⟩ : rex_node)).bind fun y102 => (some (y102.1, y102.2))) ((cond (v1.f_Kind == 2) ((F78_l0 R78 v1 k v0 v2 (w64 ((v1.f_L.length : Int) - 1)))) ((cond (v1.f_Kind == 3) (((F78_l1 R78 k v1 v2 k v0 ([] : List Int) 0))) (((cond (decide (v1.f_Max < 0)) ((F105 k v0 (⟨([] : List api_Range), false, ([v2] : List Int), true⟩ : rex_node)).bind fun y142 => (idxL v1.f_L 0).bind fun y143 => (R78 y142.2 y143 y142.1).bind fun y144 => (if (0 : Int) ≤ y142.1 ∧ y142.1 < (y144.2.f_nodes.length : Int) then (idxL y144.2.f_nodes y142.1).bind fun y146 => if y146.f_x = true then if y146.f_next.length + ([y144.1] : List Int).length ≤ 1073741824 then if (0 : Int) ≤ y142.1 ∧ y142.1 < (y144.2.f_nodes.length : Int) then (idxL y144.2.f_nodes y142.1).bind fun y150 => ((F78_j3 R78 k v1 ({ y144.2 with f_nodes := (y144.2.f_nodes.set (Int.toNat y142.1) ({ y150 with f_next := (y146.f_next ++ ([y144.1] : List Int)), f_x := false } : rex_node)) } : rex_Machine) y142.1)) else none else none else none else none)) (((F78_l2 R78 k v1 v2 k v0 v2 0)))))))))))))
theorem F78_b_ok (R78 : rex_Machine → api_Re → Int → Option (Int × rex_Machine)) (IH78 : ∀ (v0 : rex_Machine) (v1 : api_Re) (v2 : Int) (r : Int × rex_Machine), R78 v0 v1 v2 = some r → Sim Tryz.prog GL0 78 [.val false [.ptr 0 1 0 0], .val true (pvL (e_api_Re v1)), one (.int .i64 v2)] [.box [.arr 1 v0.f_nodes.length, .pv (.int .i64 v0.f_first)], .arr 3 (v0.f_nodes.map eg_rex_node)] (one (.int .i64 r.1)) [.box [.arr 1 r.2.f_nodes.length, .pv (.int .i64 r.2.f_first)], .arr 3 (r.2.f_nodes.map eg_rex_node)]) (k : Nat) (v0 : rex_Machine) (v1 : api_Re) (v2 : Int) (r : Int × rex_Machine) (hF : F78_b R78 k v0 v1 v2 = some r) : Sim Tryz.prog GL0 78 [.val false [.ptr 0 1 0 0], .val true (pvL (e_api_Re v1)), one (.int .i64 v2)] [.box [.arr 1 v0.f_nodes.length, .pv (.int .i64 v0.f_first)], .arr 3 (v0.f_nodes.map eg_rex_node)] (one (.int .i64 r.1)) [.box [.arr 1 r.2.f_nodes.length, .pv (.int .i64 r.2.f_first)], .arr 3 (r.2.f_nodes.map eg_rex_node)] := by
  refine sim_of [0, 1] Tryz.func78 rfl (by kernel_rfl) (by kernel_rfl) ?_
  show WA _ _ 133 _ _ _
  refine WA.seq ?_
  refine WA.reg [0, 2, 4] [0, 1, 104] [(0, .obj 104)] (env' := [(0, .val false [.ptr 0 1 0 0]), (2, one (.int .i64 v2)), (4, .val false [.ptr 104 1 0 0])]) (os' := [(0, .box [.arr 1 v0.f_nodes.length, .pv (.int .i64 v0.f_first)]), (1, .arr 3 (v0.f_nodes.map eg_rex_node)), (104, .box (pvL (e_api_Re v1)))]) (O := []) (by kernel_rfl) (sound _ _) trivial ?_
  refine WA.seq ?_
  refine WA.seq ?_
  refine WA.reg [0, 2, 4, 15] [0, 1, 104] [] (env' := [(0, .val false [.ptr 0 1 0 0]), (2, one (.int .i64 v2)), (4, .val false [.ptr 104 1 0 0]), (15, one (.int .i64 v1.f_Kind))]) (os' := [(0, .box [.arr 1 v0.f_nodes.length, .pv (.int .i64 v0.f_first)]), (1, .arr 3 (v0.f_nodes.map eg_rex_node)), (104, .box (pvL (e_api_Re v1)))]) (O := []) (by kernel_rfl) (sound _ _) trivial ?_
  refine WA.block ?_
  refine WA.seq ?_
  refine WA.reg [0, 2, 4, 15, 16] [0, 1, 104] [] (env' := [(0, .val false [.ptr 0 1 0 0]), (2, one (.int .i64 v2)), (4, .val false [.ptr 104 1 0 0]), (15, one (.int .i64 v1.f_Kind)), (16, one (.bool (v1.f_Kind == 1)))]) (os' := [(0, .box [.arr 1 v0.f_nodes.length, .pv (.int .i64 v0.f_first)]), (1, .arr 3 (v0.f_nodes.map eg_rex_node)), (104, .box (pvL (e_api_Re v1)))]) (O := []) (by kernel_rfl) (sound _ _) trivial ?_
  refine WA.cond (b := (v1.f_Kind == 1)) rfl (fun hb101 => ?_) (fun hb101 => ?_)
  · have hF := cond_t hF hb101
    refine WA.seq ?_
    obtain ⟨y102, hy102, hF⟩ := bind_some hF
    refine WA.reg [6] [0, 1] [(6, .call [0, 1] (one (.int .i64 y102.1)) [.box [.arr 1 y102.2.f_nodes.length, .pv (.int .i64 y102.2.f_first)], .arr 3 (y102.2.f_nodes.map eg_rex_node)] [])] (env' := [(6, one (.int .i64 y102.1))]) (os' := [(0, .box [.arr 1 y102.2.f_nodes.length, .pv (.int .i64 y102.2.f_first)]), (1, .arr 3 (y102.2.f_nodes.map eg_rex_node))]) (O := [Sim Tryz.prog GL0 105 [.val false [.ptr 0 1 0 0], .val true (pvL (eg_rex_node (⟨v1.f_Set, true, ([v2] : List Int), false⟩ : rex_node)))] [.box [.arr 1 v0.f_nodes.length, .pv (.int .i64 v0.f_first)], .arr 3 (v0.f_nodes.map eg_rex_node)] (one (.int .i64 y102.1)) [.box [.arr 1 y102.2.f_nodes.length, .pv (.int .i64 y102.2.f_first)], .arr 3 (y102.2.f_nodes.map eg_rex_node)], ([0, 1] : List Nat).Nodup]) (by kernel_rfl) (sound _ _) ⟨(F105_ok k _ _ _ hy102), (by decide), trivial⟩ ?_
    refine WA.ret ?_
    obtain rfl := Option.some.inj hF
    exact out_ret (one (.int .i64 y102.1)) [.box [.arr 1 y102.2.f_nodes.length, .pv (.int .i64 y102.2.f_first)], .arr 3 (y102.2.f_nodes.map eg_rex_node)] (by kernel_rfl) (by kernel_rfl) (by kernel_rfl) (by kernel_rfl) (by decide) rfl rfl
  · have hF := cond_f hF hb101
    refine WA.seq ?_
    refine WA.reg [0, 2, 4, 15, 25] [0, 1, 104] [] (env' := [(0, .val false [.ptr 0 1 0 0]), (2, one (.int .i64 v2)), (4, .val false [.ptr 104 1 0 0]), (15, one (.int .i64 v1.f_Kind)), (25, one (.bool (v1.f_Kind == 2)))]) (os' := [(0, .box [.arr 1 v0.f_nodes.length, .pv (.int .i64 v0.f_first)]), (1, .arr 3 (v0.f_nodes.map eg_rex_node)), (104, .box (pvL (e_api_Re v1)))]) (O := []) (by kernel_rfl) (sound _ _) trivial ?_
    refine WA.cond (b := (v1.f_Kind == 2)) rfl (fun hb103 => ?_) (fun hb103 => ?_)
    · have hF := cond_t hF hb103
      refine WA.seq ?_
      refine WA.seq ?_
      refine WA.regM (α := Int) (raw := ((es_api_Re v1.f_L).length : Int)) (can := (v1.f_L.length : Int)) (fun m_ => ([(0, .val false [.ptr 0 1 0 0]), (2, one (.int .i64 v2)), (4, .val false [.ptr 104 1 0 0]), (7, one (.int .i64 (w64 (m_ - 1))))], [(0, .box [.arr 1 v0.f_nodes.length, .pv (.int .i64 v0.f_first)]), (1, .arr 3 (v0.f_nodes.map eg_rex_node)), (104, .box (pvL (e_api_Re v1)))], [])) ((by first | (simp only [zlm, zla, zlc, zln, zls, zlr, zlt, zld, lens_api_Re]; done) | (simp only [zlm, zla, zlc, zln, zls, zlr, zlt, zld, lens_api_Re]; omega) | omega)) [0, 2, 4, 7] [0, 1, 104] [] (env' := [(0, .val false [.ptr 0 1 0 0]), (2, one (.int .i64 v2)), (4, .val false [.ptr 104 1 0 0]), (7, one (.int .i64 (w64 ((v1.f_L.length : Int) - 1))))]) (os' := [(0, .box [.arr 1 v0.f_nodes.length, .pv (.int .i64 v0.f_first)]), (1, .arr 3 (v0.f_nodes.map eg_rex_node)), (104, .box (pvL (e_api_Re v1)))]) (O := []) (by kernel_rfl) (by kernel_rfl) (sound _ _) trivial ?_
      refine WA.block ?_
      refine WA.loop (fun m s_ => ∃ (v113 : rex_Machine) (v114 : Int) (v115 : Int), pickE s_.env [0, 2, 4, 7] = [(0, .val false [.ptr 0 1 0 0]), (2, one (.int .i64 v114)), (4, .val false [.ptr 104 1 0 0]), (7, one (.int .i64 v115))] ∧ pickE s_.os [0, 1, 104] = [(0, .box [.arr 1 v113.f_nodes.length, .pv (.int .i64 v113.f_first)]), (1, .arr 3 (v113.f_nodes.map eg_rex_node)), (104, .box (pvL (e_api_Re v1)))] ∧ F78_l0 R78 v1 m v113 v114 v115 = some r) k ⟨v0, v2, (w64 ((v1.f_L.length : Int) - 1)), by kernel_rfl, by kernel_rfl, hF⟩ ?_
      clear hF
      rintro m0 s_ ⟨v113, v114, v115, he, ho, hF⟩
      refine WA.keep _ _ he ho ?_
      clear he ho
      cases m0 with
      | zero => cases hF
      | succ m0 =>
        obtain ⟨self0, hself0⟩ : ∃ g, g = F78_l0 R78 v1 m0 := ⟨_, rfl⟩
        have hF : F78_b0 R78 self0 v1 v113 v114 v115 = some r := by first | (rw [hself0]; exact hF) | exact hF
        refine WA.seq ?_
        refine WA.seq ?_
        refine WA.reg [0, 2, 4, 7, 32] [0, 1, 104] [] (env' := [(0, .val false [.ptr 0 1 0 0]), (2, one (.int .i64 v114)), (4, .val false [.ptr 104 1 0 0]), (7, one (.int .i64 v115)), (32, one (.bool (decide (v115 ≥ 0))))]) (os' := [(0, .box [.arr 1 v113.f_nodes.length, .pv (.int .i64 v113.f_first)]), (1, .arr 3 (v113.f_nodes.map eg_rex_node)), (104, .box (pvL (e_api_Re v1)))]) (O := []) (by kernel_rfl) (sound _ _) trivial ?_
        refine WA.cond (b := (decide (v115 ≥ 0))) rfl (fun hb116 => ?_) (fun hb116 => ?_)
        · have hF := cond_t hF hb116
          refine WA.skip ?_
          refine WA.seq ?_
          refine WA.block ?_
          obtain ⟨y117, hy117, hF⟩ := bind_some hF
          obtain ⟨y118, hy118, hF⟩ := bind_some hF
          refine WA.reg [0, 2, 4, 7] [0, 1, 104] [(4, .cells (e_api_Re y117)), (7, .call [0, 1] (one (.int .i64 y118.1)) [.box [.arr 1 y118.2.f_nodes.length, .pv (.int .i64 y118.2.f_first)], .arr 3 (y118.2.f_nodes.map eg_rex_node)] [])] (env' := [(0, .val false [.ptr 0 1 0 0]), (2, one (.int .i64 y118.1)), (4, .val false [.ptr 104 1 0 0]), (7, one (.int .i64 v115))]) (os' := [(0, .box [.arr 1 y118.2.f_nodes.length, .pv (.int .i64 y118.2.f_first)]), (1, .arr 3 (y118.2.f_nodes.map eg_rex_node)), (104, .box (pvL (e_api_Re v1)))]) (O := [idxL (es_api_Re v1.f_L) v115 = some (e_api_Re y117), Sim Tryz.prog GL0 78 [.val false [.ptr 0 1 0 0], .val true (pvL (e_api_Re y117)), one (.int .i64 v114)] [.box [.arr 1 v113.f_nodes.length, .pv (.int .i64 v113.f_first)], .arr 3 (v113.f_nodes.map eg_rex_node)] (one (.int .i64 y118.1)) [.box [.arr 1 y118.2.f_nodes.length, .pv (.int .i64 y118.2.f_first)], .arr 3 (y118.2.f_nodes.map eg_rex_node)], ([0, 1] : List Nat).Nodup]) (by kernel_rfl) (sound _ _) ⟨(idx_api_Re hy117), (IH78 _ _ _ _ hy118), (by decide), trivial⟩ ?_
          refine WA.reg [0, 2, 4, 7] [0, 1, 104] [] (env' := [(0, .val false [.ptr 0 1 0 0]), (2, one (.int .i64 y118.1)), (4, .val false [.ptr 104 1 0 0]), (7, one (.int .i64 (w64 (v115 - 1))))]) (os' := [(0, .box [.arr 1 y118.2.f_nodes.length, .pv (.int .i64 y118.2.f_first)]), (1, .arr 3 (y118.2.f_nodes.map eg_rex_node)), (104, .box (pvL (e_api_Re v1)))]) (O := []) (by kernel_rfl) (sound _ _) trivial ?_
          exact ⟨m0, Nat.lt_succ_self _, y118.2, y118.1, (w64 (v115 - 1)), by kernel_rfl, by kernel_rfl, by rw [hself0] at hF; exact hF⟩
        · have hF := cond_f hF hb116
          refine WA.exit ?_
          refine WA.seq ?_
          refine WA.reg [6] [0, 1] [] (env' := [(6, one (.int .i64 v114))]) (os' := [(0, .box [.arr 1 v113.f_nodes.length, .pv (.int .i64 v113.f_first)]), (1, .arr 3 (v113.f_nodes.map eg_rex_node))]) (O := []) (by kernel_rfl) (sound _ _) trivial ?_
          refine WA.ret ?_
          obtain rfl := Option.some.inj hF
          exact out_ret (one (.int .i64 v114)) [.box [.arr 1 v113.f_nodes.length, .pv (.int .i64 v113.f_first)], .arr 3 (v113.f_nodes.map eg_rex_node)] (by kernel_rfl) (by kernel_rfl) (by kernel_rfl) (by kernel_rfl) (by decide) rfl rfl
    · have hF := cond_f hF hb103
      refine WA.seq ?_
      refine WA.reg [0, 2, 4, 44] [0, 1, 104] [] (env' := [(0, .val false [.ptr 0 1 0 0]), (2, one (.int .i64 v2)), (4, .val false [.ptr 104 1 0 0]), (44, one (.bool (v1.f_Kind == 3)))]) (os' := [(0, .box [.arr 1 v0.f_nodes.length, .pv (.int .i64 v0.f_first)]), (1, .arr 3 (v0.f_nodes.map eg_rex_node)), (104, .box (pvL (e_api_Re v1)))]) (O := []) (by kernel_rfl) (sound _ _) trivial ?_
      refine WA.cond (b := (v1.f_Kind == 3)) rfl (fun hb119 => ?_) (fun hb119 => ?_)
      · have hF := cond_t hF hb119
        refine WA.seq ?_
        refine WA.reg [0, 2, 4, 8] [0, 1, 104, 108] [(0, .obj 108)] (env' := [(0, .val false [.ptr 0 1 0 0]), (2, one (.int .i64 v2)), (4, .val false [.ptr 104 1 0 0]), (8, .val false [.arr 108 0])]) (os' := [(0, .box [.arr 1 v0.f_nodes.length, .pv (.int .i64 v0.f_first)]), (1, .arr 3 (v0.f_nodes.map eg_rex_node)), (104, .box (pvL (e_api_Re v1))), (108, .arr 1 (([] : List Int).map (eInt .i64)))]) (O := []) (by kernel_rfl) (sound _ _) trivial ?_
        refine WA.seq ?_
        refine WA.seq ?_
        refine WA.regM (α := Int) (raw := ((es_api_Re v1.f_L).length : Int)) (can := (v1.f_L.length : Int)) (fun m_ => ([(0, .val false [.ptr 0 1 0 0]), (2, one (.int .i64 v2)), (8, .val false [.arr 108 0]), (47, one (.sl (es_api_Re v1.f_L))), (48, one (.int .i64 m_)), (49, one (.int .i64 0))], [(0, .box [.arr 1 v0.f_nodes.length, .pv (.int .i64 v0.f_first)]), (1, .arr 3 (v0.f_nodes.map eg_rex_node)), (108, .arr 1 (([] : List Int).map (eInt .i64)))], [])) ((by first | (simp only [zlm, zla, zlc, zln, zls, zlr, zlt, zld, lens_api_Re]; done) | (simp only [zlm, zla, zlc, zln, zls, zlr, zlt, zld, lens_api_Re]; omega) | omega)) [0, 2, 8, 47, 48, 49] [0, 1, 108] [] (env' := [(0, .val false [.ptr 0 1 0 0]), (2, one (.int .i64 v2)), (8, .val false [.arr 108 0]), (47, one (.sl (es_api_Re v1.f_L))), (48, one (.int .i64 (v1.f_L.length : Int))), (49, one (.int .i64 0))]) (os' := [(0, .box [.arr 1 v0.f_nodes.length, .pv (.int .i64 v0.f_first)]), (1, .arr 3 (v0.f_nodes.map eg_rex_node)), (108, .arr 1 (([] : List Int).map (eInt .i64)))]) (O := []) (by kernel_rfl) (by kernel_rfl) (sound _ _) trivial ?_
        refine WA.block ?_
        refine WA.loop (fun m s_ => ∃ (v132 : rex_Machine) (v133 : List Int) (v134 : Nat) (v135 : Int), pickE s_.env [0, 2, 8, 47, 48, 49] = [(0, .val false [.ptr 0 1 0 0]), (2, one (.int .i64 v2)), (8, .val false [.arr 108 v134]), (47, one (.sl (es_api_Re v1.f_L))), (48, one (.int .i64 (v1.f_L.length : Int))), (49, one (.int .i64 v135))] ∧ pickE s_.os [0, 1, 108] = [(0, .box [.arr 1 v132.f_nodes.length, .pv (.int .i64 v132.f_first)]), (1, .arr 3 (v132.f_nodes.map eg_rex_node)), (108, .arr 1 (v133.map (eInt .i64)))] ∧ v134 = (v133 : List _).length ∧ F78_l1 R78 k v1 v2 m v132 v133 v135 = some r) k ⟨v0, ([] : List Int), 0, 0, by kernel_rfl, by kernel_rfl, (by first | omega | (simp only [zlm, zla, zlc, zln, zls, zlr, zlt, zld, lens_api_Re]; done) | (simp only [zlm, zla, zlc, zln, zls, zlr, zlt, zld, lens_api_Re]; omega) | (simp only [zlm, zla, zlc, zln, zls, zlr, zlt, zld, lens_api_Re] at *; omega)), hF⟩ ?_
        clear hF
        rintro m1 s_ ⟨v132, v133, v134, v135, he, ho, hn_v134, hF⟩
        refine WA.keep _ _ he ho ?_
        clear he ho
        cases m1 with
        | zero => cases hF
        | succ m1 =>
          obtain ⟨self1, hself1⟩ : ∃ g, g = F78_l1 R78 k v1 v2 m1 := ⟨_, rfl⟩
          have hF : F78_b1 R78 k self1 v1 v2 v132 v133 v135 = some r := by first | (rw [hself1]; exact hF) | exact hF
          refine WA.seq ?_
          refine WA.reg [0, 2, 8, 47, 48, 49, 50] [0, 1, 108] [] (env' := [(0, .val false [.ptr 0 1 0 0]), (2, one (.int .i64 v2)), (8, .val false [.arr 108 v134]), (47, one (.sl (es_api_Re v1.f_L))), (48, one (.int .i64 (v1.f_L.length : Int))), (49, one (.int .i64 v135)), (50, one (.bool (decide (v135 < (v1.f_L.length : Int)))))]) (os' := [(0, .box [.arr 1 v132.f_nodes.length, .pv (.int .i64 v132.f_first)]), (1, .arr 3 (v132.f_nodes.map eg_rex_node)), (108, .arr 1 (v133.map (eInt .i64)))]) (O := []) (by kernel_rfl) (sound _ _) trivial ?_
          refine WA.seq ?_
          refine WA.cond (b := (decide (v135 < (v1.f_L.length : Int)))) rfl (fun hb136 => ?_) (fun hb136 => ?_)
          · have hF := cond_t hF hb136
            refine WA.skip ?_
            refine WA.seq ?_
            refine WA.block ?_
            refine WA.seq ?_
            obtain ⟨y137, hy137, hF⟩ := bind_some hF
            refine WA.reg [0, 2, 8, 10, 47, 48, 49] [0, 1, 108, 110] [(0, .cells (e_api_Re y137)), (2, .obj 110)] (env' := [(0, .val false [.ptr 0 1 0 0]), (2, one (.int .i64 v2)), (8, .val false [.arr 108 v134]), (10, .val false [.ptr 110 1 0 0]), (47, one (.sl (es_api_Re v1.f_L))), (48, one (.int .i64 (v1.f_L.length : Int))), (49, one (.int .i64 v135))]) (os' := [(0, .box [.arr 1 v132.f_nodes.length, .pv (.int .i64 v132.f_first)]), (1, .arr 3 (v132.f_nodes.map eg_rex_node)), (108, .arr 1 (v133.map (eInt .i64))), (110, .box (pvL (e_api_Re y137)))]) (O := [idxL (es_api_Re v1.f_L) v135 = some (e_api_Re y137)]) (by kernel_rfl) (sound _ _) ⟨(idx_api_Re hy137), trivial⟩ ?_
            obtain ⟨y138, hy138, hF⟩ := bind_some hF
            obtain ⟨hc139, hF⟩ := if_some hF
            refine WA.regM (α := (List (List PV))) (raw := ((v133.map (eInt .i64)) ++ (([y138.1] : List Int).map (eInt .i64)))) (can := ((v133 ++ ([y138.1] : List Int)).map (eInt .i64))) (fun m_ => ([(0, .val false [.ptr 0 1 0 0]), (2, one (.int .i64 v2)), (8, .val false [.arr 108 (v134 + 1)]), (47, one (.sl (es_api_Re v1.f_L))), (48, one (.int .i64 (v1.f_L.length : Int))), (49, one (.int .i64 v135))], [(0, .box [.arr 1 y138.2.f_nodes.length, .pv (.int .i64 y138.2.f_first)]), (1, .arr 3 (y138.2.f_nodes.map eg_rex_node)), (108, .arr 1 m_)], [Sim Tryz.prog GL0 78 [.val false [.ptr 0 1 0 0], .val true (pvL (e_api_Re y137)), one (.int .i64 v2)] [.box [.arr 1 v132.f_nodes.length, .pv (.int .i64 v132.f_first)], .arr 3 (v132.f_nodes.map eg_rex_node)] (one (.int .i64 y138.1)) [.box [.arr 1 y138.2.f_nodes.length, .pv (.int .i64 y138.2.f_first)], .arr 3 (y138.2.f_nodes.map eg_rex_node)], ([0, 1] : List Nat).Nodup, v134 = (v133.map (eInt .i64)).length, (v133.map (eInt .i64)).length + (([y138.1] : List Int).map (eInt .i64)).length ≤ 1073741824, ∀ es, es ∈ (([y138.1] : List Int).map (eInt .i64)) → es.length = 1])) ((by first | (simp only [len_map, app_map, take_map, drop_map, set_map, rep_map, lens_api_Re, app_api_Re, take_api_Re, drop_api_Re, set_api_Re, es_api_Re, e0_eq_api_Re]; done) | (simp only [List.map_append, List.map_cons, List.map_nil, List.map_take, List.map_drop, List.map_set, List.map_replicate, List.length_map, es_map_api_Re, e0_eq_api_Re]; done) | (simp only [List.map_append, List.map_cons, List.map_nil, List.map_take, List.map_drop, List.map_set, List.map_replicate, List.length_map, es_map_api_Re, e0_eq_api_Re, eg_rex_node, cond]; done))) [0, 2, 8, 47, 48, 49] [0, 1, 108] [(4, .call [0, 1] (one (.int .i64 y138.1)) [.box [.arr 1 y138.2.f_nodes.length, .pv (.int .i64 y138.2.f_first)], .arr 3 (y138.2.f_nodes.map eg_rex_node)] [])] (env' := [(0, .val false [.ptr 0 1 0 0]), (2, one (.int .i64 v2)), (8, .val false [.arr 108 (v134 + 1)]), (47, one (.sl (es_api_Re v1.f_L))), (48, one (.int .i64 (v1.f_L.length : Int))), (49, one (.int .i64 v135))]) (os' := [(0, .box [.arr 1 y138.2.f_nodes.length, .pv (.int .i64 y138.2.f_first)]), (1, .arr 3 (y138.2.f_nodes.map eg_rex_node)), (108, .arr 1 ((v133 ++ ([y138.1] : List Int)).map (eInt .i64)))]) (O := [Sim Tryz.prog GL0 78 [.val false [.ptr 0 1 0 0], .val true (pvL (e_api_Re y137)), one (.int .i64 v2)] [.box [.arr 1 v132.f_nodes.length, .pv (.int .i64 v132.f_first)], .arr 3 (v132.f_nodes.map eg_rex_node)] (one (.int .i64 y138.1)) [.box [.arr 1 y138.2.f_nodes.length, .pv (.int .i64 y138.2.f_first)], .arr 3 (y138.2.f_nodes.map eg_rex_node)], ([0, 1] : List Nat).Nodup, v134 = (v133.map (eInt .i64)).length, (v133.map (eInt .i64)).length + (([y138.1] : List Int).map (eInt .i64)).length ≤ 1073741824, ∀ es, es ∈ (([y138.1] : List Int).map (eInt .i64)) → es.length = 1]) (by kernel_rfl) (by kernel_rfl) (sound _ _) ⟨(IH78 _ _ _ _ hy138), (by decide), (by first | omega | (simp only [zlm, zla, zlc, zln, zls, zlr, zlt, zld, lens_api_Re]; done) | (simp only [zlm, zla, zlc, zln, zls, zlr, zlt, zld, lens_api_Re]; omega) | (simp only [zlm, zla, zlc, zln, zls, zlr, zlt, zld, lens_api_Re] at *; omega)), (by first | exact hc139 | (simp only [List.length_map, lens_api_Re] ; exact hc139)), (len_one _ _ _ (fun _ => rfl)), trivial⟩ ?_
            refine WA.reg [0, 2, 8, 47, 48, 49] [0, 1, 108] [] (env' := [(0, .val false [.ptr 0 1 0 0]), (2, one (.int .i64 v2)), (8, .val false [.arr 108 (v134 + 1)]), (47, one (.sl (es_api_Re v1.f_L))), (48, one (.int .i64 (v1.f_L.length : Int))), (49, one (.int .i64 (w64 (v135 + 1))))]) (os' := [(0, .box [.arr 1 y138.2.f_nodes.length, .pv (.int .i64 y138.2.f_first)]), (1, .arr 3 (y138.2.f_nodes.map eg_rex_node)), (108, .arr 1 ((v133 ++ ([y138.1] : List Int)).map (eInt .i64)))]) (O := []) (by kernel_rfl) (sound _ _) trivial ?_
            exact ⟨m1, Nat.lt_succ_self _, y138.2, (v133 ++ ([y138.1] : List Int)), (v134 + 1), (w64 (v135 + 1)), by kernel_rfl, by kernel_rfl, (by first | omega | (simp only [zlm, zla, zlc, zln, zls, zlr, zlt, zld, lens_api_Re]; done) | (simp only [zlm, zla, zlc, zln, zls, zlr, zlt, zld, lens_api_Re]; omega) | (simp only [zlm, zla, zlc, zln, zls, zlr, zlt, zld, lens_api_Re] at *; omega)), by rw [hself1] at hF; exact hF⟩
          · have hF := cond_f hF hb136
            refine WA.exit ?_
            refine WA.seq ?_
            refine WA.freeze 108 8 (s := 1) (n := v134) (els := (v133.map (eInt .i64))) rfl rfl (by first | omega | (simp only [zlm, zla, zlc, zln, zls, zlr, zlt, zld, lens_api_Re]; done) | (simp only [zlm, zla, zlc, zln, zls, zlr, zlt, zld, lens_api_Re]; omega) | (simp only [zlm, zla, zlc, zln, zls, zlr, zlt, zld, lens_api_Re] at *; omega)) ?_
            refine WA.keep [0, 8] [0, 1] (env' := [(0, .val false [.ptr 0 1 0 0]), (8, one (.sl (v133.map (eInt .i64))))]) (os' := [(0, .box [.arr 1 v132.f_nodes.length, .pv (.int .i64 v132.f_first)]), (1, .arr 3 (v132.f_nodes.map eg_rex_node))]) (by kernel_rfl) (by kernel_rfl) ?_
            obtain ⟨y140, hy140, hF⟩ := bind_some hF
            refine WA.reg [6] [0, 1] [(3, .call [0, 1] (one (.int .i64 y140.1)) [.box [.arr 1 y140.2.f_nodes.length, .pv (.int .i64 y140.2.f_first)], .arr 3 (y140.2.f_nodes.map eg_rex_node)] [])] (env' := [(6, one (.int .i64 y140.1))]) (os' := [(0, .box [.arr 1 y140.2.f_nodes.length, .pv (.int .i64 y140.2.f_first)]), (1, .arr 3 (y140.2.f_nodes.map eg_rex_node))]) (O := [Sim Tryz.prog GL0 105 [.val false [.ptr 0 1 0 0], .val true (pvL (eg_rex_node (⟨([] : List api_Range), false, v133, false⟩ : rex_node)))] [.box [.arr 1 v132.f_nodes.length, .pv (.int .i64 v132.f_first)], .arr 3 (v132.f_nodes.map eg_rex_node)] (one (.int .i64 y140.1)) [.box [.arr 1 y140.2.f_nodes.length, .pv (.int .i64 y140.2.f_first)], .arr 3 (y140.2.f_nodes.map eg_rex_node)], ([0, 1] : List Nat).Nodup]) (by kernel_rfl) (sound _ _) ⟨(F105_ok k _ _ _ hy140), (by decide), trivial⟩ ?_
            refine WA.ret ?_
            obtain rfl := Option.some.inj hF
            exact out_ret (one (.int .i64 y140.1)) [.box [.arr 1 y140.2.f_nodes.length, .pv (.int .i64 y140.2.f_first)], .arr 3 (y140.2.f_nodes.map eg_rex_node)] (by kernel_rfl) (by kernel_rfl) (by kernel_rfl) (by kernel_rfl) (by decide) rfl rfl
      · have hF := cond_f hF hb119
        refine WA.skip ?_
        refine WA.join (fun s_ => ∃ (v169 : rex_Machine) (v170 : Int), pickE s_.env [0, 2, 4] = [(0, .val false [.ptr 0 1 0 0]), (2, one (.int .i64 v170)), (4, .val false [.ptr 104 1 0 0])] ∧ pickE s_.os [0, 1, 104] = [(0, .box [.arr 1 v169.f_nodes.length, .pv (.int .i64 v169.f_first)]), (1, .arr 3 (v169.f_nodes.map eg_rex_node)), (104, .box (pvL (e_api_Re v1)))] ∧ F78_j3 R78 k v1 v169 v170 = some r) ?_ ?_
        · rintro s_ ⟨v169, v170, he, ho, hF⟩
          refine WA.keep _ _ he ho ?_
          clear he ho
          refine WA.seq ?_
          refine WA.seq ?_
          refine WA.reg [0, 2, 4, 121, 122] [0, 1, 104] [] (env' := [(0, .val false [.ptr 0 1 0 0]), (2, one (.int .i64 v170)), (4, .val false [.ptr 104 1 0 0]), (121, one (.int .i64 v1.f_Min)), (122, one (.int .i64 0))]) (os' := [(0, .box [.arr 1 v169.f_nodes.length, .pv (.int .i64 v169.f_first)]), (1, .arr 3 (v169.f_nodes.map eg_rex_node)), (104, .box (pvL (e_api_Re v1)))]) (O := []) (by kernel_rfl) (sound _ _) trivial ?_
          refine WA.block ?_
          refine WA.loop (fun m s_ => ∃ (v180 : rex_Machine) (v181 : Int) (v182 : Int), pickE s_.env [0, 2, 4, 121, 122] = [(0, .val false [.ptr 0 1 0 0]), (2, one (.int .i64 v181)), (4, .val false [.ptr 104 1 0 0]), (121, one (.int .i64 v1.f_Min)), (122, one (.int .i64 v182))] ∧ pickE s_.os [0, 1, 104] = [(0, .box [.arr 1 v180.f_nodes.length, .pv (.int .i64 v180.f_first)]), (1, .arr 3 (v180.f_nodes.map eg_rex_node)), (104, .box (pvL (e_api_Re v1)))] ∧ F78_l4 R78 v1 m v180 v181 v182 = some r) k ⟨v169, v170, 0, by kernel_rfl, by kernel_rfl, hF⟩ ?_
          clear hF
          rintro m4 s_ ⟨v180, v181, v182, he, ho, hF⟩
          refine WA.keep _ _ he ho ?_
          clear he ho
          cases m4 with
          | zero => cases hF
          | succ m4 =>
            obtain ⟨self4, hself4⟩ : ∃ g, g = F78_l4 R78 v1 m4 := ⟨_, rfl⟩
            have hF : F78_b4 R78 self4 v1 v180 v181 v182 = some r := by first | (rw [hself4]; exact hF) | exact hF
            refine WA.seq ?_
            refine WA.reg [0, 2, 4, 121, 122, 123] [0, 1, 104] [] (env' := [(0, .val false [.ptr 0 1 0 0]), (2, one (.int .i64 v181)), (4, .val false [.ptr 104 1 0 0]), (121, one (.int .i64 v1.f_Min)), (122, one (.int .i64 v182)), (123, one (.bool (decide (v182 < v1.f_Min))))]) (os' := [(0, .box [.arr 1 v180.f_nodes.length, .pv (.int .i64 v180.f_first)]), (1, .arr 3 (v180.f_nodes.map eg_rex_node)), (104, .box (pvL (e_api_Re v1)))]) (O := []) (by kernel_rfl) (sound _ _) trivial ?_
            refine WA.seq ?_
            refine WA.cond (b := (decide (v182 < v1.f_Min))) rfl (fun hb183 => ?_) (fun hb183 => ?_)
            · have hF := cond_t hF hb183
              refine WA.skip ?_
              refine WA.seq ?_
              refine WA.block ?_
              obtain ⟨y184, hy184, hF⟩ := bind_some hF
              obtain ⟨y185, hy185, hF⟩ := bind_some hF
              refine WA.reg [0, 2, 4, 121, 122] [0, 1, 104] [(3, .cells (e_api_Re y184)), (6, .call [0, 1] (one (.int .i64 y185.1)) [.box [.arr 1 y185.2.f_nodes.length, .pv (.int .i64 y185.2.f_first)], .arr 3 (y185.2.f_nodes.map eg_rex_node)] [])] (env' := [(0, .val false [.ptr 0 1 0 0]), (2, one (.int .i64 y185.1)), (4, .val false [.ptr 104 1 0 0]), (121, one (.int .i64 v1.f_Min)), (122, one (.int .i64 v182))]) (os' := [(0, .box [.arr 1 y185.2.f_nodes.length, .pv (.int .i64 y185.2.f_first)]), (1, .arr 3 (y185.2.f_nodes.map eg_rex_node)), (104, .box (pvL (e_api_Re v1)))]) (O := [idxL (es_api_Re v1.f_L) 0 = some (e_api_Re y184), Sim Tryz.prog GL0 78 [.val false [.ptr 0 1 0 0], .val true (pvL (e_api_Re y184)), one (.int .i64 v181)] [.box [.arr 1 v180.f_nodes.length, .pv (.int .i64 v180.f_first)], .arr 3 (v180.f_nodes.map eg_rex_node)] (one (.int .i64 y185.1)) [.box [.arr 1 y185.2.f_nodes.length, .pv (.int .i64 y185.2.f_first)], .arr 3 (y185.2.f_nodes.map eg_rex_node)], ([0, 1] : List Nat).Nodup]) (by kernel_rfl) (sound _ _) ⟨(idx_api_Re hy184), (IH78 _ _ _ _ hy185), (by decide), trivial⟩ ?_
              refine WA.reg [0, 2, 4, 121, 122] [0, 1, 104] [] (env' := [(0, .val false [.ptr 0 1 0 0]), (2, one (.int .i64 y185.1)), (4, .val false [.ptr 104 1 0 0]), (121, one (.int .i64 v1.f_Min)), (122, one (.int .i64 (w64 (v182 + 1))))]) (os' := [(0, .box [.arr 1 y185.2.f_nodes.length, .pv (.int .i64 y185.2.f_first)]), (1, .arr 3 (y185.2.f_nodes.map eg_rex_node)), (104, .box (pvL (e_api_Re v1)))]) (O := []) (by kernel_rfl) (sound _ _) trivial ?_
              exact ⟨m4, Nat.lt_succ_self _, y185.2, y185.1, (w64 (v182 + 1)), by kernel_rfl, by kernel_rfl, by rw [hself4] at hF; exact hF⟩
            · have hF := cond_f hF hb183
              refine WA.exit ?_
              refine WA.seq ?_
              refine WA.reg [6] [0, 1] [] (env' := [(6, one (.int .i64 v181))]) (os' := [(0, .box [.arr 1 v180.f_nodes.length, .pv (.int .i64 v180.f_first)]), (1, .arr 3 (v180.f_nodes.map eg_rex_node))]) (O := []) (by kernel_rfl) (sound _ _) trivial ?_
              refine WA.ret ?_
              obtain rfl := Option.some.inj hF
              exact out_ret (one (.int .i64 v181)) [.box [.arr 1 v180.f_nodes.length, .pv (.int .i64 v180.f_first)], .arr 3 (v180.f_nodes.map eg_rex_node)] (by kernel_rfl) (by kernel_rfl) (by kernel_rfl) (by kernel_rfl) (by decide) rfl rfl
        · refine WA.seq ?_
          refine WA.reg [0, 2, 4, 67] [0, 1, 104] [] (env' := [(0, .val false [.ptr 0 1 0 0]), (2, one (.int .i64 v2)), (4, .val false [.ptr 104 1 0 0]), (67, one (.bool (decide (v1.f_Max < 0))))]) (os' := [(0, .box [.arr 1 v0.f_nodes.length, .pv (.int .i64 v0.f_first)]), (1, .arr 3 (v0.f_nodes.map eg_rex_node)), (104, .box (pvL (e_api_Re v1)))]) (O := []) (by kernel_rfl) (sound _ _) trivial ?_
          refine WA.cond (b := (decide (v1.f_Max < 0))) rfl (fun hb141 => ?_) (fun hb141 => ?_)
          · have hF := cond_t hF hb141
            refine WA.seq ?_
            obtain ⟨y142, hy142, hF⟩ := bind_some hF
            refine WA.reg [0, 4, 11] [0, 1, 104] [(2, .num 0), (4, .call [0, 1] (one (.int .i64 y142.1)) [.box [.arr 1 y142.2.f_nodes.length, .pv (.int .i64 y142.2.f_first)], .arr 3 (y142.2.f_nodes.map eg_rex_node)] [])] (env' := [(0, .val false [.ptr 0 1 0 0]), (4, .val false [.ptr 104 1 0 0]), (11, one (.int .i64 y142.1))]) (os' := [(0, .box [.arr 1 y142.2.f_nodes.length, .pv (.int .i64 y142.2.f_first)]), (1, .arr 3 (y142.2.f_nodes.map eg_rex_node)), (104, .box (pvL (e_api_Re v1)))]) (O := [Sim Tryz.prog GL0 105 [.val false [.ptr 0 1 0 0], .val true (pvL (eg_rex_node (⟨([] : List api_Range), false, ([v2] : List Int), true⟩ : rex_node)))] [.box [.arr 1 v0.f_nodes.length, .pv (.int .i64 v0.f_first)], .arr 3 (v0.f_nodes.map eg_rex_node)] (one (.int .i64 y142.1)) [.box [.arr 1 y142.2.f_nodes.length, .pv (.int .i64 y142.2.f_first)], .arr 3 (y142.2.f_nodes.map eg_rex_node)], ([0, 1] : List Nat).Nodup]) (by kernel_rfl) (sound _ _) ⟨(F105_ok k _ _ _ hy142), (by decide), trivial⟩ ?_
            refine WA.seq ?_
            obtain ⟨y143, hy143, hF⟩ := bind_some hF
            obtain ⟨y144, hy144, hF⟩ := bind_some hF
            refine WA.reg [0, 4, 11, 12] [0, 1, 104] [(3, .cells (e_api_Re y143)), (6, .call [0, 1] (one (.int .i64 y144.1)) [.box [.arr 1 y144.2.f_nodes.length, .pv (.int .i64 y144.2.f_first)], .arr 3 (y144.2.f_nodes.map eg_rex_node)] [])] (env' := [(0, .val false [.ptr 0 1 0 0]), (4, .val false [.ptr 104 1 0 0]), (11, one (.int .i64 y142.1)), (12, one (.int .i64 y144.1))]) (os' := [(0, .box [.arr 1 y144.2.f_nodes.length, .pv (.int .i64 y144.2.f_first)]), (1, .arr 3 (y144.2.f_nodes.map eg_rex_node)), (104, .box (pvL (e_api_Re v1)))]) (O := [idxL (es_api_Re v1.f_L) 0 = some (e_api_Re y143), Sim Tryz.prog GL0 78 [.val false [.ptr 0 1 0 0], .val true (pvL (e_api_Re y143)), one (.int .i64 y142.1)] [.box [.arr 1 y142.2.f_nodes.length, .pv (.int .i64 y142.2.f_first)], .arr 3 (y142.2.f_nodes.map eg_rex_node)] (one (.int .i64 y144.1)) [.box [.arr 1 y144.2.f_nodes.length, .pv (.int .i64 y144.2.f_first)], .arr 3 (y144.2.f_nodes.map eg_rex_node)], ([0, 1] : List Nat).Nodup]) (by kernel_rfl) (sound _ _) ⟨(idx_api_Re hy143), (IH78 _ _ _ _ hy144), (by decide), trivial⟩ ?_
            refine WA.seq ?_
            obtain ⟨hc145, hF⟩ := if_some hF
            obtain ⟨y146, hy146, hF⟩ := bind_some hF
            obtain ⟨hx147, hF⟩ := if_some hF
            obtain ⟨hc148, hF⟩ := if_some hF
            obtain ⟨hc149, hF⟩ := if_some hF
            obtain ⟨y150, hy150, hF⟩ := bind_some hF
            refine WA.regDM (α := Nat × (List (List PV))) (raw := (y144.2.f_nodes.length, ((y144.2.f_nodes.map eg_rex_node).set (Int.toNat y142.1) [.sl (y150.f_set.map e_api_Range), .bool y150.f_some, .sl ((y146.f_next.map (eInt .i64)) ++ (([y144.1] : List Int).map (eInt .i64)))]))) (can := ((y144.2.f_nodes.set (Int.toNat y142.1) ({ y150 with f_next := (y146.f_next ++ ([y144.1] : List Int)), f_x := false } : rex_node)).length, ((y144.2.f_nodes.set (Int.toNat y142.1) ({ y150 with f_next := (y146.f_next ++ ([y144.1] : List Int)), f_x := false } : rex_node)).map eg_rex_node))) (fun m_ => ([(0, .val false [.ptr 0 1 0 0]), (4, .val false [.ptr 104 1 0 0]), (11, one (.int .i64 y142.1))], [(0, .box [.arr 1 m_.1, .pv (.int .i64 y144.2.f_first)]), (1, .arr 3 m_.2), (104, .box (pvL (e_api_Re v1)))], [y144.2.f_nodes.length = (y144.2.f_nodes.map eg_rex_node).length, (0 : Int) ≤ y142.1, y142.1 < ((y144.2.f_nodes.length : Nat) : Int), y144.2.f_nodes.length = (y144.2.f_nodes.map eg_rex_node).length, 0 < y144.2.f_nodes.length, y144.2.f_nodes.length = (y144.2.f_nodes.map eg_rex_node).length, (y144.2.f_nodes.map eg_rex_node)[Int.toNat y142.1]? = some [.sl (y146.f_set.map e_api_Range), .bool y146.f_some, .slc (y146.f_next.map (eInt .i64))], (y146.f_next.map (eInt .i64)).length + (([y144.1] : List Int).map (eInt .i64)).length ≤ 1073741824, ∀ es, es ∈ (y146.f_next.map (eInt .i64)) → es.length = 1, ∀ es, es ∈ (([y144.1] : List Int).map (eInt .i64)) → es.length = 1, y144.2.f_nodes.length = (y144.2.f_nodes.map eg_rex_node).length, (0 : Int) ≤ y142.1, y142.1 < ((y144.2.f_nodes.length : Nat) : Int), y144.2.f_nodes.length = (y144.2.f_nodes.map eg_rex_node).length, 0 < y144.2.f_nodes.length, y144.2.f_nodes.length = (y144.2.f_nodes.map eg_rex_node).length, (y144.2.f_nodes.map eg_rex_node)[Int.toNat y142.1]? = some (eg_rex_node y150)])) (pair_eq (by first | (simp only [zlm, zla, zlc, zln, zls, zlr, zlt, zld, lens_api_Re]; done) | (simp only [zlm, zla, zlc, zln, zls, zlr, zlt, zld, lens_api_Re]; omega) | omega) (by first | (simp only [len_map, app_map, take_map, drop_map, set_map, rep_map, lens_api_Re, app_api_Re, take_api_Re, drop_api_Re, set_api_Re, es_api_Re, e0_eq_api_Re]; done) | (simp only [List.map_append, List.map_cons, List.map_nil, List.map_take, List.map_drop, List.map_set, List.map_replicate, List.length_map, es_map_api_Re, e0_eq_api_Re]; done) | (simp only [List.map_append, List.map_cons, List.map_nil, List.map_take, List.map_drop, List.map_set, List.map_replicate, List.length_map, es_map_api_Re, e0_eq_api_Re, eg_rex_node, cond]; done))) [0, 4, 11] [0, 1, 104] [(12, .cells [.sl (y146.f_set.map e_api_Range), .bool y146.f_some, .slc (y146.f_next.map (eInt .i64))]), (18, .cells (eg_rex_node y150))] (env' := [(0, .val false [.ptr 0 1 0 0]), (4, .val false [.ptr 104 1 0 0]), (11, one (.int .i64 y142.1))]) (os' := [(0, .box [.arr 1 ((y144.2.f_nodes.set (Int.toNat y142.1) ({ y150 with f_next := (y146.f_next ++ ([y144.1] : List Int)), f_x := false } : rex_node)).length), .pv (.int .i64 y144.2.f_first)]), (1, .arr 3 ((y144.2.f_nodes.set (Int.toNat y142.1) ({ y150 with f_next := (y146.f_next ++ ([y144.1] : List Int)), f_x := false } : rex_node)).map eg_rex_node)), (104, .box (pvL (e_api_Re v1)))]) (O := [y144.2.f_nodes.length = (y144.2.f_nodes.map eg_rex_node).length, (0 : Int) ≤ y142.1, y142.1 < ((y144.2.f_nodes.length : Nat) : Int), y144.2.f_nodes.length = (y144.2.f_nodes.map eg_rex_node).length, 0 < y144.2.f_nodes.length, y144.2.f_nodes.length = (y144.2.f_nodes.map eg_rex_node).length, (y144.2.f_nodes.map eg_rex_node)[Int.toNat y142.1]? = some [.sl (y146.f_set.map e_api_Range), .bool y146.f_some, .slc (y146.f_next.map (eInt .i64))], (y146.f_next.map (eInt .i64)).length + (([y144.1] : List Int).map (eInt .i64)).length ≤ 1073741824, ∀ es, es ∈ (y146.f_next.map (eInt .i64)) → es.length = 1, ∀ es, es ∈ (([y144.1] : List Int).map (eInt .i64)) → es.length = 1, y144.2.f_nodes.length = (y144.2.f_nodes.map eg_rex_node).length, (0 : Int) ≤ y142.1, y142.1 < ((y144.2.f_nodes.length : Nat) : Int), y144.2.f_nodes.length = (y144.2.f_nodes.map eg_rex_node).length, 0 < y144.2.f_nodes.length, y144.2.f_nodes.length = (y144.2.f_nodes.map eg_rex_node).length, (y144.2.f_nodes.map eg_rex_node)[Int.toNat y142.1]? = some (eg_rex_node y150)]) (by kernel_rfl) (by kernel_rfl) (by kernel_rfl) (by kernel_rfl) (sound _ _) ⟨(by first | omega | (simp only [zlm, zla, zlc, zln, zls, zlr, zlt, zld, lens_api_Re]; done) | (simp only [zlm, zla, zlc, zln, zls, zlr, zlt, zld, lens_api_Re]; omega) | (simp only [zlm, zla, zlc, zln, zls, zlr, zlt, zld, lens_api_Re] at *; omega)), hc145.1, (by have h_ := hc145.2; (try simp only [zlm, zla, zlc, zln, zls, zlr, zlt, zld, lens_api_Re] at h_ ⊢); omega), (by first | omega | (simp only [zlm, zla, zlc, zln, zls, zlr, zlt, zld, lens_api_Re]; done) | (simp only [zlm, zla, zlc, zln, zls, zlr, zlt, zld, lens_api_Re]; omega) | (simp only [zlm, zla, zlc, zln, zls, zlr, zlt, zld, lens_api_Re] at *; omega)), (by omega), (by first | omega | (simp only [zlm, zla, zlc, zln, zls, zlr, zlt, zld, lens_api_Re]; done) | (simp only [zlm, zla, zlc, zln, zls, zlr, zlt, zld, lens_api_Re]; omega) | (simp only [zlm, zla, zlc, zln, zls, zlr, zlt, zld, lens_api_Re] at *; omega)), (by have h_ := get_of_idx (idx_map eg_rex_node hy146); simp only [eg_rex_node, hx147, cond] at h_; exact h_), (by first | exact hc148 | (simp only [List.length_map, lens_api_Re] ; exact hc148)), (len_one _ _ _ (fun _ => rfl)), (len_one _ _ _ (fun _ => rfl)), (by first | omega | (simp only [zlm, zla, zlc, zln, zls, zlr, zlt, zld, lens_api_Re]; done) | (simp only [zlm, zla, zlc, zln, zls, zlr, zlt, zld, lens_api_Re]; omega) | (simp only [zlm, zla, zlc, zln, zls, zlr, zlt, zld, lens_api_Re] at *; omega)), hc149.1, (by have h_ := hc149.2; (try simp only [zlm, zla, zlc, zln, zls, zlr, zlt, zld, lens_api_Re] at h_ ⊢); omega), (by first | omega | (simp only [zlm, zla, zlc, zln, zls, zlr, zlt, zld, lens_api_Re]; done) | (simp only [zlm, zla, zlc, zln, zls, zlr, zlt, zld, lens_api_Re]; omega) | (simp only [zlm, zla, zlc, zln, zls, zlr, zlt, zld, lens_api_Re] at *; omega)), (by omega), (by first | omega | (simp only [zlm, zla, zlc, zln, zls, zlr, zlt, zld, lens_api_Re]; done) | (simp only [zlm, zla, zlc, zln, zls, zlr, zlt, zld, lens_api_Re]; omega) | (simp only [zlm, zla, zlc, zln, zls, zlr, zlt, zld, lens_api_Re] at *; omega)), (get_of_idx (idx_map _ hy150)), trivial⟩ ?_
            refine WA.reg [0, 2, 4] [0, 1, 104] [] (env' := [(0, .val false [.ptr 0 1 0 0]), (2, one (.int .i64 y142.1)), (4, .val false [.ptr 104 1 0 0])]) (os' := [(0, .box [.arr 1 ((y144.2.f_nodes.set (Int.toNat y142.1) ({ y150 with f_next := (y146.f_next ++ ([y144.1] : List Int)), f_x := false } : rex_node)).length), .pv (.int .i64 y144.2.f_first)]), (1, .arr 3 ((y144.2.f_nodes.set (Int.toNat y142.1) ({ y150 with f_next := (y146.f_next ++ ([y144.1] : List Int)), f_x := false } : rex_node)).map eg_rex_node)), (104, .box (pvL (e_api_Re v1)))]) (O := []) (by kernel_rfl) (sound _ _) trivial ?_
            exact ⟨({ y144.2 with f_nodes := (y144.2.f_nodes.set (Int.toNat y142.1) ({ y150 with f_next := (y146.f_next ++ ([y144.1] : List Int)), f_x := false } : rex_node)) } : rex_Machine), y142.1, by kernel_rfl, by kernel_rfl, hF⟩
          · have hF := cond_f hF hb141
            refine WA.seq ?_
            refine WA.reg [0, 2, 4, 13] [0, 1, 104] [] (env' := [(0, .val false [.ptr 0 1 0 0]), (2, one (.int .i64 v2)), (4, .val false [.ptr 104 1 0 0]), (13, one (.int .i64 v2))]) (os' := [(0, .box [.arr 1 v0.f_nodes.length, .pv (.int .i64 v0.f_first)]), (1, .arr 3 (v0.f_nodes.map eg_rex_node)), (104, .box (pvL (e_api_Re v1)))]) (O := []) (by kernel_rfl) (sound _ _) trivial ?_
            refine WA.seq ?_
            refine WA.reg [0, 2, 4, 13, 104, 105] [0, 1, 104] [] (env' := [(0, .val false [.ptr 0 1 0 0]), (2, one (.int .i64 v2)), (4, .val false [.ptr 104 1 0 0]), (13, one (.int .i64 v2)), (104, one (.int .i64 (w64 (v1.f_Max - v1.f_Min)))), (105, one (.int .i64 0))]) (os' := [(0, .box [.arr 1 v0.f_nodes.length, .pv (.int .i64 v0.f_first)]), (1, .arr 3 (v0.f_nodes.map eg_rex_node)), (104, .box (pvL (e_api_Re v1)))]) (O := []) (by kernel_rfl) (sound _ _) trivial ?_
            refine WA.block ?_
            refine WA.loop (fun m s_ => ∃ (v162 : rex_Machine) (v163 : Int) (v164 : Int), pickE s_.env [0, 2, 4, 13, 104, 105] = [(0, .val false [.ptr 0 1 0 0]), (2, one (.int .i64 v163)), (4, .val false [.ptr 104 1 0 0]), (13, one (.int .i64 v2)), (104, one (.int .i64 (w64 (v1.f_Max - v1.f_Min)))), (105, one (.int .i64 v164))] ∧ pickE s_.os [0, 1, 104] = [(0, .box [.arr 1 v162.f_nodes.length, .pv (.int .i64 v162.f_first)]), (1, .arr 3 (v162.f_nodes.map eg_rex_node)), (104, .box (pvL (e_api_Re v1)))] ∧ F78_l2 R78 k v1 v2 m v162 v163 v164 = some r) k ⟨v0, v2, 0, by kernel_rfl, by kernel_rfl, hF⟩ ?_
            clear hF
            rintro m2 s_ ⟨v162, v163, v164, he, ho, hF⟩
            refine WA.keep _ _ he ho ?_
            clear he ho
            cases m2 with
            | zero => cases hF
            | succ m2 =>
              obtain ⟨self2, hself2⟩ : ∃ g, g = F78_l2 R78 k v1 v2 m2 := ⟨_, rfl⟩
              have hF : F78_b2 R78 k self2 v1 v2 v162 v163 v164 = some r := by first | (rw [hself2]; exact hF) | exact hF
              refine WA.seq ?_
              refine WA.reg [0, 2, 4, 13, 104, 105, 106] [0, 1, 104] [] (env' := [(0, .val false [.ptr 0 1 0 0]), (2, one (.int .i64 v163)), (4, .val false [.ptr 104 1 0 0]), (13, one (.int .i64 v2)), (104, one (.int .i64 (w64 (v1.f_Max - v1.f_Min)))), (105, one (.int .i64 v164)), (106, one (.bool (decide (v164 < (w64 (v1.f_Max - v1.f_Min))))))]) (os' := [(0, .box [.arr 1 v162.f_nodes.length, .pv (.int .i64 v162.f_first)]), (1, .arr 3 (v162.f_nodes.map eg_rex_node)), (104, .box (pvL (e_api_Re v1)))]) (O := []) (by kernel_rfl) (sound _ _) trivial ?_
              refine WA.seq ?_
              refine WA.cond (b := (decide (v164 < (w64 (v1.f_Max - v1.f_Min))))) rfl (fun hb165 => ?_) (fun hb165 => ?_)
              · have hF := cond_t hF hb165
                refine WA.skip ?_
                refine WA.seq ?_
                refine WA.block ?_
                obtain ⟨y166, hy166, hF⟩ := bind_some hF
                obtain ⟨y167, hy167, hF⟩ := bind_some hF
                obtain ⟨y168, hy168, hF⟩ := bind_some hF
                refine WA.reg [0, 2, 4, 13, 104, 105] [0, 1, 104] [(5, .cells (e_api_Re y166)), (8, .call [0, 1] (one (.int .i64 y167.1)) [.box [.arr 1 y167.2.f_nodes.length, .pv (.int .i64 y167.2.f_first)], .arr 3 (y167.2.f_nodes.map eg_rex_node)] []), (11, .call [0, 1] (one (.int .i64 y168.1)) [.box [.arr 1 y168.2.f_nodes.length, .pv (.int .i64 y168.2.f_first)], .arr 3 (y168.2.f_nodes.map eg_rex_node)] [])] (env' := [(0, .val false [.ptr 0 1 0 0]), (2, one (.int .i64 y168.1)), (4, .val false [.ptr 104 1 0 0]), (13, one (.int .i64 v2)), (104, one (.int .i64 (w64 (v1.f_Max - v1.f_Min)))), (105, one (.int .i64 v164))]) (os' := [(0, .box [.arr 1 y168.2.f_nodes.length, .pv (.int .i64 y168.2.f_first)]), (1, .arr 3 (y168.2.f_nodes.map eg_rex_node)), (104, .box (pvL (e_api_Re v1)))]) (O := [idxL (es_api_Re v1.f_L) 0 = some (e_api_Re y166), Sim Tryz.prog GL0 78 [.val false [.ptr 0 1 0 0], .val true (pvL (e_api_Re y166)), one (.int .i64 v163)] [.box [.arr 1 v162.f_nodes.length, .pv (.int .i64 v162.f_first)], .arr 3 (v162.f_nodes.map eg_rex_node)] (one (.int .i64 y167.1)) [.box [.arr 1 y167.2.f_nodes.length, .pv (.int .i64 y167.2.f_first)], .arr 3 (y167.2.f_nodes.map eg_rex_node)], ([0, 1] : List Nat).Nodup, Sim Tryz.prog GL0 105 [.val false [.ptr 0 1 0 0], .val true (pvL (eg_rex_node (⟨([] : List api_Range), false, ([v2, y167.1] : List Int), false⟩ : rex_node)))] [.box [.arr 1 y167.2.f_nodes.length, .pv (.int .i64 y167.2.f_first)], .arr 3 (y167.2.f_nodes.map eg_rex_node)] (one (.int .i64 y168.1)) [.box [.arr 1 y168.2.f_nodes.length, .pv (.int .i64 y168.2.f_first)], .arr 3 (y168.2.f_nodes.map eg_rex_node)], ([0, 1] : List Nat).Nodup]) (by kernel_rfl) (sound _ _) ⟨(idx_api_Re hy166), (IH78 _ _ _ _ hy167), (by decide), (F105_ok k _ _ _ hy168), (by decide), trivial⟩ ?_
                refine WA.reg [0, 2, 4, 13, 104, 105] [0, 1, 104] [] (env' := [(0, .val false [.ptr 0 1 0 0]), (2, one (.int .i64 y168.1)), (4, .val false [.ptr 104 1 0 0]), (13, one (.int .i64 v2)), (104, one (.int .i64 (w64 (v1.f_Max - v1.f_Min)))), (105, one (.int .i64 (w64 (v164 + 1))))]) (os' := [(0, .box [.arr 1 y168.2.f_nodes.length, .pv (.int .i64 y168.2.f_first)]), (1, .arr 3 (y168.2.f_nodes.map eg_rex_node)), (104, .box (pvL (e_api_Re v1)))]) (O := []) (by kernel_rfl) (sound _ _) trivial ?_
                exact ⟨m2, Nat.lt_succ_self _, y168.2, y168.1, (w64 (v164 + 1)), by kernel_rfl, by kernel_rfl, by rw [hself2] at hF; exact hF⟩
              · have hF := cond_f hF hb165
                refine WA.exit ?_
                exact ⟨v162, v163, by kernel_rfl, by kernel_rfl, hF⟩
def F78 : Nat → rex_Machine → api_Re → Int → Option (Int × rex_Machine)
  | 0, _, _, _ => none
  | k + 1, v0, v1, v2 => F78_b (F78 k) k v0 v1 v2
theorem F78_ok : ∀ (k : Nat), ∀ (v0 : rex_Machine) (v1 : api_Re) (v2 : Int) (r : Int × rex_Machine), F78 k v0 v1 v2 = some r → Sim Tryz.prog GL0 78 [.val false [.ptr 0 1 0 0], .val true (pvL (e_api_Re v1)), one (.int .i64 v2)] [.box [.arr 1 v0.f_nodes.length, .pv (.int .i64 v0.f_first)], .arr 3 (v0.f_nodes.map eg_rex_node)] (one (.int .i64 r.1)) [.box [.arr 1 r.2.f_nodes.length, .pv (.int .i64 r.2.f_first)], .arr 3 (r.2.f_nodes.map eg_rex_node)]
  | 0 => fun _ _ _ _ hF => by cases hF
  | k + 1 => fun v0 v1 v2 r hF => F78_b_ok (F78 k) (F78_ok k) k v0 v1 v2 r hF
end Go.Proofs.YthilboheomikjaaGreatDoor
end

section
namespace Go.Proofs.YthilboheomikjaaGreatDoor
open Go.AL
set_option linter.unusedVariables false
set_option linter.unusedSimpArgs false
set_option maxRecDepth 100000

/-!   entrepot rex.Machine .close -/
def F79_b1 (R79 : rex_Machine → (List Int) → (List Bool) → Int → Option ((List Int) × (List Bool))) (self1 : (List Int) → (List Bool) → Int → Option ((List Int) × (List Bool))) (v0 : rex_Machine) (y106 : rex_node) (v123 : List Int) (v124 : List Bool) (v127 : Int) : Option ((List Int) × (List Bool)) :=
  (cond (decide (v127 < (y106.f_next.length : Int))) ((idxL y106.f_next v127).bind fun y129 => (R79 v0 v123 v124 y129).bind fun y130 => if y130.2.length = v124.length then (self1 y130.1 y130.2 (w64 (v127 + 1))) else none) (((some (v123, v124)))))
def F79_l1 (R79 : rex_Machine → (List Int) → (List Bool) → Int → Option ((List Int) × (List Bool))) (v0 : rex_Machine) (y106 : rex_node) : Nat → (List Int) → (List Bool) → Int → Option ((List Int) × (List Bool))
  | 0, _, _, _ => none
  | m_ + 1, v123, v124, v127 => F79_b1 R79 (F79_l1 R79 v0 y106 m_) v0 y106 v123 v124 v127
def F79_j0 (R79 : rex_Machine → (List Int) → (List Bool) → Int → Option ((List Int) × (List Bool))) (k : Nat) (v0 : rex_Machine) (v1 : List Int) (v2 : List Bool) (v3 : Int) (y106 : rex_node) (v108 : Bool) : Option ((List Int) × (List Bool)) :=
  cond v108 ((F79_l1 R79 v0 y106 k v1 (v2.set (Int.toNat v3) true) 0)) ((if v1.length + ([v3] : List Int).length ≤ 1073741824 then (some ((v1 ++ ([v3] : List Int)), (v2.set (Int.toNat v3) true))) else none))
def F79_b (R79 : rex_Machine → (List Int) → (List Bool) → Int → Option ((List Int) × (List Bool))) (k : Nat) (v0 : rex_Machine) (v1 : List Int) (v2 : List Bool) (v3 : Int) : Option ((List Int) × (List Bool)) :=
  (if (0 : Int) ≤ v3 ∧ v3 < (v2.length : Int) then (idxL v2 v3).bind fun y102 => (cond y102 ((some (v1, v2))) ((if (0 : Int) ≤ v3 ∧ v3 < (v2.length : Int) then (idxL v2 v3).bind fun y105 => (idxL v0.f_nodes v3).bind fun y106 => (cond (!y106.f_some) ((F79_j0 R79 k v0 v1 v2 v3 y106 (v3 != 0))) ((F79_j0 R79 k v0 v1 v2 v3 y106 false))) else none))) else none)
theorem F79_b_ok (R79 : rex_Machine → (List Int) → (List Bool) → Int → Option ((List Int) × (List Bool))) (IH79 : ∀ (v0 : rex_Machine) (v1 : List Int) (v2 : List Bool) (v3 : Int) (r : (List Int) × (List Bool)), R79 v0 v1 v2 v3 = some r → ∀ {n1 : Nat}, n1 = v1.length → ∀ {n2 : Nat}, n2 = v2.length → Sim Tryz.prog GL0 79 [.val false [.vp (e_rex_Machine v0)], .val false [.arr 0 n1], .val false [.arr 1 n2], one (.int .i64 v3)] [.arr 1 (v1.map (eInt .i64)), .arr 1 (v2.map eBool)] (.val false [.arr 0 r.1.length]) [.arr 1 (r.1.map (eInt .i64)), .arr 1 (r.2.map eBool)]) (k : Nat) (v0 : rex_Machine) (v1 : List Int) (v2 : List Bool) (v3 : Int) (r : (List Int) × (List Bool)) (hF : F79_b R79 k v0 v1 v2 v3 = some r) {n1 : Nat} (hn_n1 : n1 = v1.length) {n2 : Nat} (hn_n2 : n2 = v2.length) : Sim Tryz.prog GL0 79 [.val false [.vp (e_rex_Machine v0)], .val false [.arr 0 n1], .val false [.arr 1 n2], one (.int .i64 v3)] [.arr 1 (v1.map (eInt .i64)), .arr 1 (v2.map eBool)] (.val false [.arr 0 r.1.length]) [.arr 1 (r.1.map (eInt .i64)), .arr 1 (r.2.map eBool)] := by
  refine sim_of [0, 1] Tryz.func79 rfl (by kernel_rfl) (by kernel_rfl) ?_
  show WA _ _ 52 _ _ _
  refine WA.seq ?_
  refine WA.reg [0, 1, 2, 3] [0, 1] [] (env' := [(0, .val false [.vp (e_rex_Machine v0)]), (1, .val false [.arr 0 n1]), (2, .val false [.arr 1 n2]), (3, one (.int .i64 v3))]) (os' := [(0, .arr 1 (v1.map (eInt .i64))), (1, .arr 1 (v2.map eBool))]) (O := []) (by kernel_rfl) (sound _ _) trivial ?_
  refine WA.seq ?_
  refine WA.seq ?_
  obtain ⟨hc101, hF⟩ := if_some hF
  obtain ⟨y102, hy102, hF⟩ := bind_some hF
  refine WA.reg [0, 1, 2, 3, 15] [0, 1] [(3, .cells [.bool y102])] (env' := [(0, .val false [.vp (e_rex_Machine v0)]), (1, .val false [.arr 0 n1]), (2, .val false [.arr 1 n2]), (3, one (.int .i64 v3)), (15, one (.bool y102))]) (os' := [(0, .arr 1 (v1.map (eInt .i64))), (1, .arr 1 (v2.map eBool))]) (O := [n2 = (v2.map eBool).length, (0 : Int) ≤ v3, v3 < ((n2 : Nat) : Int), n2 = (v2.map eBool).length, (v2.map eBool)[Int.toNat v3]? = some [.bool y102]]) (by kernel_rfl) (sound _ _) ⟨(by first | omega | (simp only [zlm, zla, zlc, zln, zls, zlr, zlt, zld, lens_api_Re]; done) | (simp only [zlm, zla, zlc, zln, zls, zlr, zlt, zld, lens_api_Re]; omega) | (simp only [zlm, zla, zlc, zln, zls, zlr, zlt, zld, lens_api_Re] at *; omega)), hc101.1, (by have h_ := hc101.2; (try simp only [zlm, zla, zlc, zln, zls, zlr, zlt, zld, lens_api_Re] at h_ ⊢); omega), (by first | omega | (simp only [zlm, zla, zlc, zln, zls, zlr, zlt, zld, lens_api_Re]; done) | (simp only [zlm, zla, zlc, zln, zls, zlr, zlt, zld, lens_api_Re]; omega) | (simp only [zlm, zla, zlc, zln, zls, zlr, zlt, zld, lens_api_Re] at *; omega)), (get_of_idx (idx_map _ hy102)), trivial⟩ ?_
  refine WA.cond (b := y102) rfl (fun hb103 => ?_) (fun hb103 => ?_)
  · have hF := cond_t hF hb103
    refine WA.seq ?_
    refine WA.reg [8] [0, 1] [] (env' := [(8, .val false [.arr 0 n1])]) (os' := [(0, .arr 1 (v1.map (eInt .i64))), (1, .arr 1 (v2.map eBool))]) (O := []) (by kernel_rfl) (sound _ _) trivial ?_
    refine WA.ret ?_
    obtain rfl := Option.some.inj hF
    exact out_ret (.val false [.arr 0 n1]) [.arr 1 (v1.map (eInt .i64)), .arr 1 (v2.map eBool)] (by kernel_rfl) (by have h0_ : n1 = (v1 : List _).length := (by first | omega | (simp only [zlm, zla, zlc, zln, zls, zlr, zlt, zld, lens_api_Re]; done) | (simp only [zlm, zla, zlc, zln, zls, zlr, zlt, zld, lens_api_Re]; omega) | (simp only [zlm, zla, zlc, zln, zls, zlr, zlt, zld, lens_api_Re] at *; omega)); rw [h0_] <;> rfl) (by kernel_rfl) (by kernel_rfl) (by decide) rfl rfl
  · have hF := cond_f hF hb103
    refine WA.skip ?_
    refine WA.seq ?_
    obtain ⟨hc104, hF⟩ := if_some hF
    obtain ⟨y105, hy105, hF⟩ := bind_some hF
    refine WA.regM (α := (List (List PV))) (raw := ((v2.map eBool).set (Int.toNat v3) (eBool true))) (can := ((v2.set (Int.toNat v3) true).map eBool)) (fun m_ => ([(0, .val false [.vp (e_rex_Machine v0)]), (1, .val false [.arr 0 n1]), (2, .val false [.arr 1 n2]), (3, one (.int .i64 v3))], [(0, .arr 1 (v1.map (eInt .i64))), (1, .arr 1 m_)], [n2 = (v2.map eBool).length, (0 : Int) ≤ v3, v3 < ((n2 : Nat) : Int), n2 = (v2.map eBool).length, (v2.map eBool)[Int.toNat v3]? = some [.bool y105]])) ((by first | (simp only [len_map, app_map, take_map, drop_map, set_map, rep_map, lens_api_Re, app_api_Re, take_api_Re, drop_api_Re, set_api_Re, es_api_Re, e0_eq_api_Re]; done) | (simp only [List.map_append, List.map_cons, List.map_nil, List.map_take, List.map_drop, List.map_set, List.map_replicate, List.length_map, es_map_api_Re, e0_eq_api_Re]; done))) [0, 1, 2, 3] [0, 1] [(3, .cells [.bool y105])] (env' := [(0, .val false [.vp (e_rex_Machine v0)]), (1, .val false [.arr 0 n1]), (2, .val false [.arr 1 n2]), (3, one (.int .i64 v3))]) (os' := [(0, .arr 1 (v1.map (eInt .i64))), (1, .arr 1 ((v2.set (Int.toNat v3) true).map eBool))]) (O := [n2 = (v2.map eBool).length, (0 : Int) ≤ v3, v3 < ((n2 : Nat) : Int), n2 = (v2.map eBool).length, (v2.map eBool)[Int.toNat v3]? = some [.bool y105]]) (by kernel_rfl) (by kernel_rfl) (sound _ _) ⟨(by first | omega | (simp only [zlm, zla, zlc, zln, zls, zlr, zlt, zld, lens_api_Re]; done) | (simp only [zlm, zla, zlc, zln, zls, zlr, zlt, zld, lens_api_Re]; omega) | (simp only [zlm, zla, zlc, zln, zls, zlr, zlt, zld, lens_api_Re] at *; omega)), hc104.1, (by have h_ := hc104.2; (try simp only [zlm, zla, zlc, zln, zls, zlr, zlt, zld, lens_api_Re] at h_ ⊢); omega), (by first | omega | (simp only [zlm, zla, zlc, zln, zls, zlr, zlt, zld, lens_api_Re]; done) | (simp only [zlm, zla, zlc, zln, zls, zlr, zlt, zld, lens_api_Re]; omega) | (simp only [zlm, zla, zlc, zln, zls, zlr, zlt, zld, lens_api_Re] at *; omega)), (get_of_idx (idx_map _ hy105)), trivial⟩ ?_
    refine WA.seq ?_
    refine WA.seq ?_
    obtain ⟨y106, hy106, hF⟩ := bind_some hF
    refine WA.reg [0, 1, 2, 3, 9] [0, 1, 109] [(5, .cells (e_rex_node y106)), (7, .obj 109)] (env' := [(0, .val false [.vp (e_rex_Machine v0)]), (1, .val false [.arr 0 n1]), (2, .val false [.arr 1 n2]), (3, one (.int .i64 v3)), (9, .val false [.ptr 109 1 0 0])]) (os' := [(0, .arr 1 (v1.map (eInt .i64))), (1, .arr 1 ((v2.set (Int.toNat v3) true).map eBool)), (109, .box (pvL (e_rex_node y106)))]) (O := [idxL (v0.f_nodes.map e_rex_node) v3 = some (e_rex_node y106)]) (by kernel_rfl) (sound _ _) ⟨(idx_map _ hy106), trivial⟩ ?_
    refine WA.join (fun s_ => ∃ (v108 : Bool), pickE s_.env [0, 1, 2, 3, 9, 33] = [(0, .val false [.vp (e_rex_Machine v0)]), (1, .val false [.arr 0 n1]), (2, .val false [.arr 1 n2]), (3, one (.int .i64 v3)), (9, .val false [.ptr 109 1 0 0]), (33, one (.bool v108))] ∧ pickE s_.os [0, 1, 109] = [(0, .arr 1 (v1.map (eInt .i64))), (1, .arr 1 ((v2.set (Int.toNat v3) true).map eBool)), (109, .box (pvL (e_rex_node y106)))] ∧ F79_j0 R79 k v0 v1 v2 v3 y106 v108 = some r) ?_ ?_
    · rintro s_ ⟨v108, he, ho, hF⟩
      refine WA.keep _ _ he ho ?_
      clear he ho
      refine WA.cond (b := v108) rfl (fun hb109 => ?_) (fun hb109 => ?_)
      · have hF := cond_t hF hb109
        refine WA.seq ?_
        refine WA.seq ?_
        refine WA.regM (α := Int) (raw := ((y106.f_next.map (eInt .i64)).length : Int)) (can := (y106.f_next.length : Int)) (fun m_ => ([(0, .val false [.vp (e_rex_Machine v0)]), (1, .val false [.arr 0 n1]), (2, .val false [.arr 1 n2]), (35, one (.sl (y106.f_next.map (eInt .i64)))), (36, one (.int .i64 m_)), (37, one (.int .i64 0))], [(0, .arr 1 (v1.map (eInt .i64))), (1, .arr 1 ((v2.set (Int.toNat v3) true).map eBool))], [])) ((by first | (simp only [zlm, zla, zlc, zln, zls, zlr, zlt, zld, lens_api_Re]; done) | (simp only [zlm, zla, zlc, zln, zls, zlr, zlt, zld, lens_api_Re]; omega) | omega)) [0, 1, 2, 35, 36, 37] [0, 1] [] (env' := [(0, .val false [.vp (e_rex_Machine v0)]), (1, .val false [.arr 0 n1]), (2, .val false [.arr 1 n2]), (35, one (.sl (y106.f_next.map (eInt .i64)))), (36, one (.int .i64 (y106.f_next.length : Int))), (37, one (.int .i64 0))]) (os' := [(0, .arr 1 (v1.map (eInt .i64))), (1, .arr 1 ((v2.set (Int.toNat v3) true).map eBool))]) (O := []) (by kernel_rfl) (by kernel_rfl) (sound _ _) trivial ?_
        refine WA.block ?_
        refine WA.loop (fun m s_ => ∃ (v123 : List Int) (v124 : List Bool) (v125 : Nat) (v126 : Nat) (v127 : Int), pickE s_.env [0, 1, 2, 35, 36, 37] = [(0, .val false [.vp (e_rex_Machine v0)]), (1, .val false [.arr 0 v125]), (2, .val false [.arr 1 v126]), (35, one (.sl (y106.f_next.map (eInt .i64)))), (36, one (.int .i64 (y106.f_next.length : Int))), (37, one (.int .i64 v127))] ∧ pickE s_.os [0, 1] = [(0, .arr 1 (v123.map (eInt .i64))), (1, .arr 1 (v124.map eBool))] ∧ v125 = (v123 : List _).length ∧ v126 = (v124 : List _).length ∧ F79_l1 R79 v0 y106 m v123 v124 v127 = some r) k ⟨v1, (v2.set (Int.toNat v3) true), n1, n2, 0, by kernel_rfl, by kernel_rfl, (by first | omega | (simp only [zlm, zla, zlc, zln, zls, zlr, zlt, zld, lens_api_Re]; done) | (simp only [zlm, zla, zlc, zln, zls, zlr, zlt, zld, lens_api_Re]; omega) | (simp only [zlm, zla, zlc, zln, zls, zlr, zlt, zld, lens_api_Re] at *; omega)), (by first | omega | (simp only [zlm, zla, zlc, zln, zls, zlr, zlt, zld, lens_api_Re]; done) | (simp only [zlm, zla, zlc, zln, zls, zlr, zlt, zld, lens_api_Re]; omega) | (simp only [zlm, zla, zlc, zln, zls, zlr, zlt, zld, lens_api_Re] at *; omega)), hF⟩ ?_
        clear hF
        rintro m1 s_ ⟨v123, v124, v125, v126, v127, he, ho, hn_v125, hn_v126, hF⟩
        refine WA.keep _ _ he ho ?_
        clear he ho
        cases m1 with
        | zero => cases hF
        | succ m1 =>
          obtain ⟨self1, hself1⟩ : ∃ g, g = F79_l1 R79 v0 y106 m1 := ⟨_, rfl⟩
          have hF : F79_b1 R79 self1 v0 y106 v123 v124 v127 = some r := by first | (rw [hself1]; exact hF) | exact hF
          refine WA.seq ?_
          refine WA.reg [0, 1, 2, 35, 36, 37, 38] [0, 1] [] (env' := [(0, .val false [.vp (e_rex_Machine v0)]), (1, .val false [.arr 0 v125]), (2, .val false [.arr 1 v126]), (35, one (.sl (y106.f_next.map (eInt .i64)))), (36, one (.int .i64 (y106.f_next.length : Int))), (37, one (.int .i64 v127)), (38, one (.bool (decide (v127 < (y106.f_next.length : Int)))))]) (os' := [(0, .arr 1 (v123.map (eInt .i64))), (1, .arr 1 (v124.map eBool))]) (O := []) (by kernel_rfl) (sound _ _) trivial ?_
          refine WA.seq ?_
          refine WA.cond (b := (decide (v127 < (y106.f_next.length : Int)))) rfl (fun hb128 => ?_) (fun hb128 => ?_)
          · have hF := cond_t hF hb128
            refine WA.skip ?_
            refine WA.seq ?_
            refine WA.block ?_
            refine WA.seq ?_
            obtain ⟨y129, hy129, hF⟩ := bind_some hF
            refine WA.reg [0, 1, 2, 11, 35, 36, 37] [0, 1] [(0, .cells [.int .i64 y129])] (env' := [(0, .val false [.vp (e_rex_Machine v0)]), (1, .val false [.arr 0 v125]), (2, .val false [.arr 1 v126]), (11, one (.int .i64 y129)), (35, one (.sl (y106.f_next.map (eInt .i64)))), (36, one (.int .i64 (y106.f_next.length : Int))), (37, one (.int .i64 v127))]) (os' := [(0, .arr 1 (v123.map (eInt .i64))), (1, .arr 1 (v124.map eBool))]) (O := [idxL (y106.f_next.map (eInt .i64)) v127 = some [.int .i64 y129]]) (by kernel_rfl) (sound _ _) ⟨(idx_map _ hy129), trivial⟩ ?_
            obtain ⟨y130, hy130, hF⟩ := bind_some hF
            obtain ⟨hl131, hF⟩ := if_some hF
            refine WA.reg [0, 1, 2, 35, 36, 37] [0, 1] [(4, .call [0, 1] (.val false [.arr 0 y130.1.length]) [.arr 1 (y130.1.map (eInt .i64)), .arr 1 (y130.2.map eBool)] [])] (env' := [(0, .val false [.vp (e_rex_Machine v0)]), (1, .val false [.arr 0 y130.1.length]), (2, .val false [.arr 1 v126]), (35, one (.sl (y106.f_next.map (eInt .i64)))), (36, one (.int .i64 (y106.f_next.length : Int))), (37, one (.int .i64 v127))]) (os' := [(0, .arr 1 (y130.1.map (eInt .i64))), (1, .arr 1 (y130.2.map eBool))]) (O := [Sim Tryz.prog GL0 79 [.val false [.vp (e_rex_Machine v0)], .val false [.arr 0 v125], .val false [.arr 1 v126], one (.int .i64 y129)] [.arr 1 (v123.map (eInt .i64)), .arr 1 (v124.map eBool)] (.val false [.arr 0 y130.1.length]) [.arr 1 (y130.1.map (eInt .i64)), .arr 1 (y130.2.map eBool)], ([0, 1] : List Nat).Nodup]) (by kernel_rfl) (sound _ _) ⟨(IH79 _ _ _ _ _ hy130 (n1 := v125) (by first | omega | (simp only [zlm, zla, zlc, zln, zls, zlr, zlt, zld, lens_api_Re]; done) | (simp only [zlm, zla, zlc, zln, zls, zlr, zlt, zld, lens_api_Re]; omega) | (simp only [zlm, zla, zlc, zln, zls, zlr, zlt, zld, lens_api_Re] at *; omega)) (n2 := v126) (by first | omega | (simp only [zlm, zla, zlc, zln, zls, zlr, zlt, zld, lens_api_Re]; done) | (simp only [zlm, zla, zlc, zln, zls, zlr, zlt, zld, lens_api_Re]; omega) | (simp only [zlm, zla, zlc, zln, zls, zlr, zlt, zld, lens_api_Re] at *; omega))), (by decide), trivial⟩ ?_
            refine WA.reg [0, 1, 2, 35, 36, 37] [0, 1] [] (env' := [(0, .val false [.vp (e_rex_Machine v0)]), (1, .val false [.arr 0 y130.1.length]), (2, .val false [.arr 1 v126]), (35, one (.sl (y106.f_next.map (eInt .i64)))), (36, one (.int .i64 (y106.f_next.length : Int))), (37, one (.int .i64 (w64 (v127 + 1))))]) (os' := [(0, .arr 1 (y130.1.map (eInt .i64))), (1, .arr 1 (y130.2.map eBool))]) (O := []) (by kernel_rfl) (sound _ _) trivial ?_
            exact ⟨m1, Nat.lt_succ_self _, y130.1, y130.2, y130.1.length, v126, (w64 (v127 + 1)), by kernel_rfl, by kernel_rfl, (by first | omega | (simp only [zlm, zla, zlc, zln, zls, zlr, zlt, zld, lens_api_Re]; done) | (simp only [zlm, zla, zlc, zln, zls, zlr, zlt, zld, lens_api_Re]; omega) | (simp only [zlm, zla, zlc, zln, zls, zlr, zlt, zld, lens_api_Re] at *; omega)), (by first | omega | (simp only [zlm, zla, zlc, zln, zls, zlr, zlt, zld, lens_api_Re]; done) | (simp only [zlm, zla, zlc, zln, zls, zlr, zlt, zld, lens_api_Re]; omega) | (simp only [zlm, zla, zlc, zln, zls, zlr, zlt, zld, lens_api_Re] at *; omega)), by rw [hself1] at hF; exact hF⟩
          · have hF := cond_f hF hb128
            refine WA.exit ?_
            refine WA.seq ?_
            refine WA.reg [8] [0, 1] [] (env' := [(8, .val false [.arr 0 v125])]) (os' := [(0, .arr 1 (v123.map (eInt .i64))), (1, .arr 1 (v124.map eBool))]) (O := []) (by kernel_rfl) (sound _ _) trivial ?_
            refine WA.ret ?_
            obtain rfl := Option.some.inj hF
            exact out_ret (.val false [.arr 0 v125]) [.arr 1 (v123.map (eInt .i64)), .arr 1 (v124.map eBool)] (by kernel_rfl) (by have h0_ : v125 = (v123 : List _).length := (by first | omega | (simp only [zlm, zla, zlc, zln, zls, zlr, zlt, zld, lens_api_Re]; done) | (simp only [zlm, zla, zlc, zln, zls, zlr, zlt, zld, lens_api_Re]; omega) | (simp only [zlm, zla, zlc, zln, zls, zlr, zlt, zld, lens_api_Re] at *; omega)); rw [h0_] <;> rfl) (by kernel_rfl) (by kernel_rfl) (by decide) rfl rfl
      · have hF := cond_f hF hb109
        refine WA.skip ?_
        refine WA.seq ?_
        obtain ⟨hc132, hF⟩ := if_some hF
        refine WA.regM (α := (List (List PV))) (raw := ((v1.map (eInt .i64)) ++ (([v3] : List Int).map (eInt .i64)))) (can := ((v1 ++ ([v3] : List Int)).map (eInt .i64))) (fun m_ => ([(8, .val false [.arr 0 (n1 + 1)])], [(0, .arr 1 m_), (1, .arr 1 ((v2.set (Int.toNat v3) true).map eBool))], [n1 = (v1.map (eInt .i64)).length, (v1.map (eInt .i64)).length + (([v3] : List Int).map (eInt .i64)).length ≤ 1073741824, ∀ es, es ∈ (([v3] : List Int).map (eInt .i64)) → es.length = 1])) ((by first | (simp only [len_map, app_map, take_map, drop_map, set_map, rep_map, lens_api_Re, app_api_Re, take_api_Re, drop_api_Re, set_api_Re, es_api_Re, e0_eq_api_Re]; done) | (simp only [List.map_append, List.map_cons, List.map_nil, List.map_take, List.map_drop, List.map_set, List.map_replicate, List.length_map, es_map_api_Re, e0_eq_api_Re]; done))) [8] [0, 1] [] (env' := [(8, .val false [.arr 0 (n1 + 1)])]) (os' := [(0, .arr 1 ((v1 ++ ([v3] : List Int)).map (eInt .i64))), (1, .arr 1 ((v2.set (Int.toNat v3) true).map eBool))]) (O := [n1 = (v1.map (eInt .i64)).length, (v1.map (eInt .i64)).length + (([v3] : List Int).map (eInt .i64)).length ≤ 1073741824, ∀ es, es ∈ (([v3] : List Int).map (eInt .i64)) → es.length = 1]) (by kernel_rfl) (by kernel_rfl) (sound _ _) ⟨(by first | omega | (simp only [zlm, zla, zlc, zln, zls, zlr, zlt, zld, lens_api_Re]; done) | (simp only [zlm, zla, zlc, zln, zls, zlr, zlt, zld, lens_api_Re]; omega) | (simp only [zlm, zla, zlc, zln, zls, zlr, zlt, zld, lens_api_Re] at *; omega)), (by first | exact hc132 | (simp only [List.length_map, lens_api_Re] ; exact hc132)), (len_one _ _ _ (fun _ => rfl)), trivial⟩ ?_
        refine WA.ret ?_
        obtain rfl := Option.some.inj hF
        exact out_ret (.val false [.arr 0 (n1 + 1)]) [.arr 1 ((v1 ++ ([v3] : List Int)).map (eInt .i64)), .arr 1 ((v2.set (Int.toNat v3) true).map eBool)] (by kernel_rfl) (by have h0_ : (n1 + 1) = ((v1 ++ ([v3] : List Int)) : List _).length := (by first | omega | (simp only [zlm, zla, zlc, zln, zls, zlr, zlt, zld, lens_api_Re]; done) | (simp only [zlm, zla, zlc, zln, zls, zlr, zlt, zld, lens_api_Re]; omega) | (simp only [zlm, zla, zlc, zln, zls, zlr, zlt, zld, lens_api_Re] at *; omega)); rw [h0_] <;> rfl) (by kernel_rfl) (by kernel_rfl) (by decide) rfl rfl
    · rcases Bool.eq_false_or_eq_true (!y106.f_some) with hb107 | hb107
      · have hF := cond_t hF hb107
        refine WA.reg [0, 1, 2, 3, 9, 33] [0, 1, 109] [(3, .bool true)] (env' := [(0, .val false [.vp (e_rex_Machine v0)]), (1, .val false [.arr 0 n1]), (2, .val false [.arr 1 n2]), (3, one (.int .i64 v3)), (9, .val false [.ptr 109 1 0 0]), (33, one (.bool (v3 != 0)))]) (os' := [(0, .arr 1 (v1.map (eInt .i64))), (1, .arr 1 ((v2.set (Int.toNat v3) true).map eBool)), (109, .box (pvL (e_rex_node y106)))]) (O := [(!y106.f_some) = true]) (by kernel_rfl) (sound _ _) ⟨hb107, trivial⟩ ?_
        exact ⟨(v3 != 0), by kernel_rfl, by kernel_rfl, hF⟩
      · have hF := cond_f hF hb107
        refine WA.reg [0, 1, 2, 3, 9, 33] [0, 1, 109] [(3, .bool false)] (env' := [(0, .val false [.vp (e_rex_Machine v0)]), (1, .val false [.arr 0 n1]), (2, .val false [.arr 1 n2]), (3, one (.int .i64 v3)), (9, .val false [.ptr 109 1 0 0]), (33, one (.bool false))]) (os' := [(0, .arr 1 (v1.map (eInt .i64))), (1, .arr 1 ((v2.set (Int.toNat v3) true).map eBool)), (109, .box (pvL (e_rex_node y106)))]) (O := [(!y106.f_some) = false]) (by kernel_rfl) (sound _ _) ⟨hb107, trivial⟩ ?_
        exact ⟨false, by kernel_rfl, by kernel_rfl, hF⟩
def F79 : Nat → rex_Machine → (List Int) → (List Bool) → Int → Option ((List Int) × (List Bool))
  | 0, _, _, _, _ => none
  | k + 1, v0, v1, v2, v3 => F79_b (F79 k) k v0 v1 v2 v3
theorem F79_ok : ∀ (k : Nat), ∀ (v0 : rex_Machine) (v1 : List Int) (v2 : List Bool) (v3 : Int) (r : (List Int) × (List Bool)), F79 k v0 v1 v2 v3 = some r → ∀ {n1 : Nat}, n1 = v1.length → ∀ {n2 : Nat}, n2 = v2.length → Sim Tryz.prog GL0 79 [.val false [.vp (e_rex_Machine v0)], .val false [.arr 0 n1], .val false [.arr 1 n2], one (.int .i64 v3)] [.arr 1 (v1.map (eInt .i64)), .arr 1 (v2.map eBool)] (.val false [.arr 0 r.1.length]) [.arr 1 (r.1.map (eInt .i64)), .arr 1 (r.2.map eBool)]
  | 0 => fun _ _ _ _ _ hF => by cases hF
  | k + 1 => fun v0 v1 v2 v3 r hF => F79_b_ok (F79 k) (F79_ok k) k v0 v1 v2 v3 r hF
/-!   entrepot rex.Machine .Step -/
def F56_j21 (self19 : (List Int) → (List Bool) → Int → Option (List Int)) (v254 : Int) (v264 : List Int) (v265 : List Bool) : Option (List Int) :=
  self19 v264 v265 (w64 (v254 + 1))
def F56_j20 (k : Nat) (self19 : (List Int) → (List Bool) → Int → Option (List Int)) (v0 : rex_Machine) (y217 : Int) (v250 : List Int) (v251 : List Bool) (v254 : Int) (v258 : Bool) : Option (List Int) :=
  cond v258 ((idxL v0.f_nodes y217).bind fun y260 => (idxL y260.f_next 0).bind fun y261 => (F79 k v0 v250 v251 y261).bind fun y262 => if y262.2.length = v251.length then (F56_j21 self19 v254 y262.1 y262.2) else none) ((F56_j21 self19 v254 v250 v251))
def F56_b19 (k : Nat) (self14 : (List Int) → (List Bool) → Int → Option (List Int)) (self19 : (List Int) → (List Bool) → Int → Option (List Int)) (v0 : rex_Machine) (v2 : Int) (v215 : Int) (y217 : Int) (y218 : rex_node) (v250 : List Int) (v251 : List Bool) (v254 : Int) : Option (List Int) :=
  (cond (decide (v254 < (y218.f_set.length : Int))) ((idxL y218.f_set v254).bind fun y256 => (cond (decide (v2 ≥ y256.f_Lo)) ((F56_j20 k self19 v0 y217 v250 v251 v254 (decide (v2 ≤ y256.f_Hi)))) ((F56_j20 k self19 v0 y217 v250 v251 v254 false)))) ((self14 v250 v251 (w64 (v215 + 1)))))
def F56_l19 (k : Nat) (self14 : (List Int) → (List Bool) → Int → Option (List Int)) (v0 : rex_Machine) (v2 : Int) (v215 : Int) (y217 : Int) (y218 : rex_node) : Nat → (List Int) → (List Bool) → Int → Option (List Int)
  | 0, _, _, _ => none
  | m_ + 1, v250, v251, v254 => F56_b19 k self14 (F56_l19 k self14 v0 v2 v215 y217 y218 m_) v0 v2 v215 y217 y218 v250 v251 v254
def F56_b14 (k : Nat) (self14 : (List Int) → (List Bool) → Int → Option (List Int)) (v0 : rex_Machine) (v1 : List Int) (v2 : Int) (v211 : List Int) (v212 : List Bool) (v215 : Int) : Option (List Int) :=
  (cond (decide (v215 < (v1.length : Int))) ((idxL v1 v215).bind fun y217 => (idxL v0.f_nodes y217).bind fun y218 => (F56_l19 k self14 v0 v2 v215 y217 y218 k v211 v212 0)) (((some v211))))
def F56_l14 (k : Nat) (v0 : rex_Machine) (v1 : List Int) (v2 : Int) : Nat → (List Int) → (List Bool) → Int → Option (List Int)
  | 0, _, _, _ => none
  | m_ + 1, v211, v212, v215 => F56_b14 k (F56_l14 k v0 v1 v2 m_) v0 v1 v2 v211 v212 v215
def F56 (k : Nat) (v0 : rex_Machine) (v1 : List Int) (v2 : Int) : Option (List Int) :=
  ((if (0 : Int) ≤ (v0.f_nodes.length : Int) ∧ ((v0.f_nodes.length : Int) : Int) ≤ 1073741824 then ((F56_l14 k v0 v1 v2 k ([] : List Int) (List.replicate (Int.toNat (v0.f_nodes.length : Int)) false) 0)) else none))
theorem F56_ok (k : Nat) (v0 : rex_Machine) (v1 : List Int) (v2 : Int) (r : List Int) (hF : F56 k v0 v1 v2 = some r) : Sim Tryz.prog GL0 56 [.val false [.vp (e_rex_Machine v0)], one (.sl (v1.map (eInt .i64))), one (.int .i64 v2)] [] (one (.sl (r.map (eInt .i64)))) [] := by
  refine sim_of [] Tryz.func56 rfl (by kernel_rfl) (by kernel_rfl) ?_
  show WA _ _ 65 _ _ _
  refine WA.seq ?_
  refine WA.reg [0, 1, 2] [] [] (env' := [(0, .val false [.vp (e_rex_Machine v0)]), (1, one (.sl (v1.map (eInt .i64)))), (2, one (.int .i64 v2))]) (os' := []) (O := []) (by kernel_rfl) (sound _ _) trivial ?_
  refine WA.seq ?_
  refine WA.reg [0, 1, 2, 7] [107] [(0, .obj 107)] (env' := [(0, .val false [.vp (e_rex_Machine v0)]), (1, one (.sl (v1.map (eInt .i64)))), (2, one (.int .i64 v2)), (7, .val false [.arr 107 0])]) (os' := [(107, .arr 1 (([] : List Int).map (eInt .i64)))]) (O := []) (by kernel_rfl) (sound _ _) trivial ?_
  refine WA.seq ?_
  obtain ⟨hc101, hF⟩ := if_some hF
  refine WA.regM (α := Int × (List (List PV))) (raw := (((v0.f_nodes.map e_rex_node).length : Int), (List.replicate (Int.toNat ((v0.f_nodes.map e_rex_node).length : Int)) (eBool false)))) (can := ((v0.f_nodes.length : Int), ((List.replicate (Int.toNat (v0.f_nodes.length : Int)) false).map eBool))) (fun m_ => ([(0, .val false [.vp (e_rex_Machine v0)]), (1, one (.sl (v1.map (eInt .i64)))), (2, one (.int .i64 v2)), (7, .val false [.arr 107 0]), (8, .val false [.arr 118 (Int.toNat m_.1)])], [(107, .arr 1 (([] : List Int).map (eInt .i64))), (118, .arr 1 m_.2)], [(m_.1 : Int) = m_.1, (0 : Int) ≤ m_.1, (m_.1 : Int) ≤ 1073741824])) (pair_eq (by first | (simp only [zlm, zla, zlc, zln, zls, zlr, zlt, zld, lens_api_Re]; done) | (simp only [zlm, zla, zlc, zln, zls, zlr, zlt, zld, lens_api_Re]; omega) | omega) (by first | (simp only [len_map, app_map, take_map, drop_map, set_map, rep_map, lens_api_Re, app_api_Re, take_api_Re, drop_api_Re, set_api_Re, es_api_Re, e0_eq_api_Re]; done) | (simp only [List.map_append, List.map_cons, List.map_nil, List.map_take, List.map_drop, List.map_set, List.map_replicate, List.length_map, es_map_api_Re, e0_eq_api_Re]; done))) [0, 1, 2, 7, 8] [107, 118] [(5, .obj 118)] (env' := [(0, .val false [.vp (e_rex_Machine v0)]), (1, one (.sl (v1.map (eInt .i64)))), (2, one (.int .i64 v2)), (7, .val false [.arr 107 0]), (8, .val false [.arr 118 (Int.toNat (v0.f_nodes.length : Int))])]) (os' := [(107, .arr 1 (([] : List Int).map (eInt .i64))), (118, .arr 1 ((List.replicate (Int.toNat (v0.f_nodes.length : Int)) false).map eBool))]) (O := [((v0.f_nodes.length : Int) : Int) = (v0.f_nodes.length : Int), (0 : Int) ≤ (v0.f_nodes.length : Int), ((v0.f_nodes.length : Int) : Int) ≤ 1073741824]) (by kernel_rfl) (by kernel_rfl) (sound _ _) ⟨rfl, hc101.1, hc101.2, trivial⟩ ?_
  refine WA.seq ?_
  refine WA.seq ?_
  refine WA.regM (α := Int) (raw := ((v1.map (eInt .i64)).length : Int)) (can := (v1.length : Int)) (fun m_ => ([(0, .val false [.vp (e_rex_Machine v0)]), (2, one (.int .i64 v2)), (7, .val false [.arr 107 0]), (8, .val false [.arr 118 (Int.toNat (v0.f_nodes.length : Int))]), (19, one (.sl (v1.map (eInt .i64)))), (20, one (.int .i64 m_)), (21, one (.int .i64 0))], [(107, .arr 1 (([] : List Int).map (eInt .i64))), (118, .arr 1 ((List.replicate (Int.toNat (v0.f_nodes.length : Int)) false).map eBool))], [])) ((by first | (simp only [zlm, zla, zlc, zln, zls, zlr, zlt, zld, lens_api_Re]; done) | (simp only [zlm, zla, zlc, zln, zls, zlr, zlt, zld, lens_api_Re]; omega) | omega)) [0, 2, 7, 8, 19, 20, 21] [107, 118] [] (env' := [(0, .val false [.vp (e_rex_Machine v0)]), (2, one (.int .i64 v2)), (7, .val false [.arr 107 0]), (8, .val false [.arr 118 (Int.toNat (v0.f_nodes.length : Int))]), (19, one (.sl (v1.map (eInt .i64)))), (20, one (.int .i64 (v1.length : Int))), (21, one (.int .i64 0))]) (os' := [(107, .arr 1 (([] : List Int).map (eInt .i64))), (118, .arr 1 ((List.replicate (Int.toNat (v0.f_nodes.length : Int)) false).map eBool))]) (O := []) (by kernel_rfl) (by kernel_rfl) (sound _ _) trivial ?_
  refine WA.block ?_
  refine WA.loop (fun m s_ => ∃ (v211 : List Int) (v212 : List Bool) (v213 : Nat) (v214 : Nat) (v215 : Int), pickE s_.env [0, 2, 7, 8, 19, 20, 21] = [(0, .val false [.vp (e_rex_Machine v0)]), (2, one (.int .i64 v2)), (7, .val false [.arr 107 v213]), (8, .val false [.arr 118 v214]), (19, one (.sl (v1.map (eInt .i64)))), (20, one (.int .i64 (v1.length : Int))), (21, one (.int .i64 v215))] ∧ pickE s_.os [107, 118] = [(107, .arr 1 (v211.map (eInt .i64))), (118, .arr 1 (v212.map eBool))] ∧ v213 = (v211 : List _).length ∧ v214 = (v212 : List _).length ∧ F56_l14 k v0 v1 v2 m v211 v212 v215 = some r) k ⟨([] : List Int), (List.replicate (Int.toNat (v0.f_nodes.length : Int)) false), 0, (Int.toNat (v0.f_nodes.length : Int)), 0, by kernel_rfl, by kernel_rfl, (by first | omega | (simp only [zlm, zla, zlc, zln, zls, zlr, zlt, zld, lens_api_Re]; done) | (simp only [zlm, zla, zlc, zln, zls, zlr, zlt, zld, lens_api_Re]; omega) | (simp only [zlm, zla, zlc, zln, zls, zlr, zlt, zld, lens_api_Re] at *; omega)), (by first | omega | (simp only [zlm, zla, zlc, zln, zls, zlr, zlt, zld, lens_api_Re]; done) | (simp only [zlm, zla, zlc, zln, zls, zlr, zlt, zld, lens_api_Re]; omega) | (simp only [zlm, zla, zlc, zln, zls, zlr, zlt, zld, lens_api_Re] at *; omega)), hF⟩ ?_
  clear hF
  rintro m14 s_ ⟨v211, v212, v213, v214, v215, he, ho, hn_v213, hn_v214, hF⟩
  refine WA.keep _ _ he ho ?_
  clear he ho
  cases m14 with
  | zero => cases hF
  | succ m14 =>
    obtain ⟨self14, hself14⟩ : ∃ g, g = F56_l14 k v0 v1 v2 m14 := ⟨_, rfl⟩
    have hF : F56_b14 k self14 v0 v1 v2 v211 v212 v215 = some r := by first | (rw [hself14]; exact hF) | exact hF
    refine WA.seq ?_
    refine WA.reg [0, 2, 7, 8, 19, 20, 21, 22] [107, 118] [] (env' := [(0, .val false [.vp (e_rex_Machine v0)]), (2, one (.int .i64 v2)), (7, .val false [.arr 107 v213]), (8, .val false [.arr 118 v214]), (19, one (.sl (v1.map (eInt .i64)))), (20, one (.int .i64 (v1.length : Int))), (21, one (.int .i64 v215)), (22, one (.bool (decide (v215 < (v1.length : Int)))))]) (os' := [(107, .arr 1 (v211.map (eInt .i64))), (118, .arr 1 (v212.map eBool))]) (O := []) (by kernel_rfl) (sound _ _) trivial ?_
    refine WA.seq ?_
    refine WA.cond (b := (decide (v215 < (v1.length : Int)))) rfl (fun hb216 => ?_) (fun hb216 => ?_)
    · have hF := cond_t hF hb216
      refine WA.skip ?_
      refine WA.seq ?_
      refine WA.block ?_
      refine WA.seq ?_
      obtain ⟨y217, hy217, hF⟩ := bind_some hF
      refine WA.reg [0, 2, 7, 8, 10, 19, 20, 21] [107, 118] [(0, .cells [.int .i64 y217])] (env' := [(0, .val false [.vp (e_rex_Machine v0)]), (2, one (.int .i64 v2)), (7, .val false [.arr 107 v213]), (8, .val false [.arr 118 v214]), (10, one (.int .i64 y217)), (19, one (.sl (v1.map (eInt .i64)))), (20, one (.int .i64 (v1.length : Int))), (21, one (.int .i64 v215))]) (os' := [(107, .arr 1 (v211.map (eInt .i64))), (118, .arr 1 (v212.map eBool))]) (O := [idxL (v1.map (eInt .i64)) v215 = some [.int .i64 y217]]) (by kernel_rfl) (sound _ _) ⟨(idx_map _ hy217), trivial⟩ ?_
      refine WA.seq ?_
      obtain ⟨y218, hy218, hF⟩ := bind_some hF
      refine WA.regM (α := Int) (raw := ((y218.f_set.map e_api_Range).length : Int)) (can := (y218.f_set.length : Int)) (fun m_ => ([(0, .val false [.vp (e_rex_Machine v0)]), (2, one (.int .i64 v2)), (7, .val false [.arr 107 v213]), (8, .val false [.arr 118 v214]), (10, one (.int .i64 y217)), (19, one (.sl (v1.map (eInt .i64)))), (20, one (.int .i64 (v1.length : Int))), (21, one (.int .i64 v215)), (32, one (.sl (y218.f_set.map e_api_Range))), (33, one (.int .i64 m_)), (34, one (.int .i64 0))], [(107, .arr 1 (v211.map (eInt .i64))), (118, .arr 1 (v212.map eBool))], [idxL (v0.f_nodes.map e_rex_node) y217 = some (e_rex_node y218)])) ((by first | (simp only [zlm, zla, zlc, zln, zls, zlr, zlt, zld, lens_api_Re]; done) | (simp only [zlm, zla, zlc, zln, zls, zlr, zlt, zld, lens_api_Re]; omega) | omega)) [0, 2, 7, 8, 10, 19, 20, 21, 32, 33, 34] [107, 118] [(5, .cells (e_rex_node y218))] (env' := [(0, .val false [.vp (e_rex_Machine v0)]), (2, one (.int .i64 v2)), (7, .val false [.arr 107 v213]), (8, .val false [.arr 118 v214]), (10, one (.int .i64 y217)), (19, one (.sl (v1.map (eInt .i64)))), (20, one (.int .i64 (v1.length : Int))), (21, one (.int .i64 v215)), (32, one (.sl (y218.f_set.map e_api_Range))), (33, one (.int .i64 (y218.f_set.length : Int))), (34, one (.int .i64 0))]) (os' := [(107, .arr 1 (v211.map (eInt .i64))), (118, .arr 1 (v212.map eBool))]) (O := [idxL (v0.f_nodes.map e_rex_node) y217 = some (e_rex_node y218)]) (by kernel_rfl) (by kernel_rfl) (sound _ _) ⟨(idx_map _ hy218), trivial⟩ ?_
      refine WA.block ?_
      refine WA.loop (fun m s_ => ∃ (v250 : List Int) (v251 : List Bool) (v252 : Nat) (v253 : Nat) (v254 : Int), pickE s_.env [0, 2, 7, 8, 10, 19, 20, 21, 32, 33, 34] = [(0, .val false [.vp (e_rex_Machine v0)]), (2, one (.int .i64 v2)), (7, .val false [.arr 107 v252]), (8, .val false [.arr 118 v253]), (10, one (.int .i64 y217)), (19, one (.sl (v1.map (eInt .i64)))), (20, one (.int .i64 (v1.length : Int))), (21, one (.int .i64 v215)), (32, one (.sl (y218.f_set.map e_api_Range))), (33, one (.int .i64 (y218.f_set.length : Int))), (34, one (.int .i64 v254))] ∧ pickE s_.os [107, 118] = [(107, .arr 1 (v250.map (eInt .i64))), (118, .arr 1 (v251.map eBool))] ∧ v252 = (v250 : List _).length ∧ v253 = (v251 : List _).length ∧ F56_l19 k self14 v0 v2 v215 y217 y218 m v250 v251 v254 = some r) k ⟨v211, v212, v213, v214, 0, by kernel_rfl, by kernel_rfl, (by first | omega | (simp only [zlm, zla, zlc, zln, zls, zlr, zlt, zld, lens_api_Re]; done) | (simp only [zlm, zla, zlc, zln, zls, zlr, zlt, zld, lens_api_Re]; omega) | (simp only [zlm, zla, zlc, zln, zls, zlr, zlt, zld, lens_api_Re] at *; omega)), (by first | omega | (simp only [zlm, zla, zlc, zln, zls, zlr, zlt, zld, lens_api_Re]; done) | (simp only [zlm, zla, zlc, zln, zls, zlr, zlt, zld, lens_api_Re]; omega) | (simp only [zlm, zla, zlc, zln, zls, zlr, zlt, zld, lens_api_Re] at *; omega)), hF⟩ ?_
      clear hF
      rintro m19 s_ ⟨v250, v251, v252, v253, v254, he, ho, hn_v252, hn_v253, hF⟩
      refine WA.keep _ _ he ho ?_
      clear he ho
      cases m19 with
      | zero => cases hF
      | succ m19 =>
        obtain ⟨self19, hself19⟩ : ∃ g, g = F56_l19 k self14 v0 v2 v215 y217 y218 m19 := ⟨_, rfl⟩
        have hF : F56_b19 k self14 self19 v0 v2 v215 y217 y218 v250 v251 v254 = some r := by first | (rw [hself19]; exact hF) | exact hF
        refine WA.seq ?_
        refine WA.reg [0, 2, 7, 8, 10, 19, 20, 21, 32, 33, 34, 35] [107, 118] [] (env' := [(0, .val false [.vp (e_rex_Machine v0)]), (2, one (.int .i64 v2)), (7, .val false [.arr 107 v252]), (8, .val false [.arr 118 v253]), (10, one (.int .i64 y217)), (19, one (.sl (v1.map (eInt .i64)))), (20, one (.int .i64 (v1.length : Int))), (21, one (.int .i64 v215)), (32, one (.sl (y218.f_set.map e_api_Range))), (33, one (.int .i64 (y218.f_set.length : Int))), (34, one (.int .i64 v254)), (35, one (.bool (decide (v254 < (y218.f_set.length : Int)))))]) (os' := [(107, .arr 1 (v250.map (eInt .i64))), (118, .arr 1 (v251.map eBool))]) (O := []) (by kernel_rfl) (sound _ _) trivial ?_
        refine WA.seq ?_
        refine WA.cond (b := (decide (v254 < (y218.f_set.length : Int)))) rfl (fun hb255 => ?_) (fun hb255 => ?_)
        · have hF := cond_t hF hb255
          refine WA.skip ?_
          refine WA.join (fun s_ => ∃ (v264 : List Int) (v265 : List Bool) (v266 : Nat) (v267 : Nat), pickE s_.env [0, 2, 7, 8, 10, 19, 20, 21, 32, 33, 34] = [(0, .val false [.vp (e_rex_Machine v0)]), (2, one (.int .i64 v2)), (7, .val false [.arr 107 v266]), (8, .val false [.arr 118 v267]), (10, one (.int .i64 y217)), (19, one (.sl (v1.map (eInt .i64)))), (20, one (.int .i64 (v1.length : Int))), (21, one (.int .i64 v215)), (32, one (.sl (y218.f_set.map e_api_Range))), (33, one (.int .i64 (y218.f_set.length : Int))), (34, one (.int .i64 v254))] ∧ pickE s_.os [107, 118] = [(107, .arr 1 (v264.map (eInt .i64))), (118, .arr 1 (v265.map eBool))] ∧ v266 = (v264 : List _).length ∧ v267 = (v265 : List _).length ∧ F56_j21 self19 v254 v264 v265 = some r) ?_ ?_
          · rintro s_ ⟨v264, v265, v266, v267, he, ho, hn_v266, hn_v267, hF⟩
            refine WA.keep _ _ he ho ?_
            clear he ho
            refine WA.reg [0, 2, 7, 8, 10, 19, 20, 21, 32, 33, 34] [107, 118] [] (env' := [(0, .val false [.vp (e_rex_Machine v0)]), (2, one (.int .i64 v2)), (7, .val false [.arr 107 v266]), (8, .val false [.arr 118 v267]), (10, one (.int .i64 y217)), (19, one (.sl (v1.map (eInt .i64)))), (20, one (.int .i64 (v1.length : Int))), (21, one (.int .i64 v215)), (32, one (.sl (y218.f_set.map e_api_Range))), (33, one (.int .i64 (y218.f_set.length : Int))), (34, one (.int .i64 (w64 (v254 + 1))))]) (os' := [(107, .arr 1 (v264.map (eInt .i64))), (118, .arr 1 (v265.map eBool))]) (O := []) (by kernel_rfl) (sound _ _) trivial ?_
            exact ⟨m19, Nat.lt_succ_self _, v264, v265, v266, v267, (w64 (v254 + 1)), by kernel_rfl, by kernel_rfl, (by first | omega | (simp only [zlm, zla, zlc, zln, zls, zlr, zlt, zld, lens_api_Re]; done) | (simp only [zlm, zla, zlc, zln, zls, zlr, zlt, zld, lens_api_Re]; omega) | (simp only [zlm, zla, zlc, zln, zls, zlr, zlt, zld, lens_api_Re] at *; omega)), (by first | omega | (simp only [zlm, zla, zlc, zln, zls, zlr, zlt, zld, lens_api_Re]; done) | (simp only [zlm, zla, zlc, zln, zls, zlr, zlt, zld, lens_api_Re]; omega) | (simp only [zlm, zla, zlc, zln, zls, zlr, zlt, zld, lens_api_Re] at *; omega)), by rw [hself19] at hF; exact hF⟩
          · refine WA.block ?_
            refine WA.seq ?_
            obtain ⟨y256, hy256, hF⟩ := bind_some hF
            refine WA.reg [0, 2, 7, 8, 10, 12, 19, 20, 21, 32, 33, 34] [107, 112, 118] [(0, .cells (e_api_Range y256)), (2, .obj 112)] (env' := [(0, .val false [.vp (e_rex_Machine v0)]), (2, one (.int .i64 v2)), (7, .val false [.arr 107 v252]), (8, .val false [.arr 118 v253]), (10, one (.int .i64 y217)), (12, .val false [.ptr 112 1 0 0]), (19, one (.sl (v1.map (eInt .i64)))), (20, one (.int .i64 (v1.length : Int))), (21, one (.int .i64 v215)), (32, one (.sl (y218.f_set.map e_api_Range))), (33, one (.int .i64 (y218.f_set.length : Int))), (34, one (.int .i64 v254))]) (os' := [(107, .arr 1 (v250.map (eInt .i64))), (112, .box (pvL (e_api_Range y256))), (118, .arr 1 (v251.map eBool))]) (O := [idxL (y218.f_set.map e_api_Range) v254 = some (e_api_Range y256)]) (by kernel_rfl) (sound _ _) ⟨(idx_map _ hy256), trivial⟩ ?_
            refine WA.join (fun s_ => ∃ (v258 : Bool), pickE s_.env [0, 2, 7, 8, 10, 19, 20, 21, 32, 33, 34, 47] = [(0, .val false [.vp (e_rex_Machine v0)]), (2, one (.int .i64 v2)), (7, .val false [.arr 107 v252]), (8, .val false [.arr 118 v253]), (10, one (.int .i64 y217)), (19, one (.sl (v1.map (eInt .i64)))), (20, one (.int .i64 (v1.length : Int))), (21, one (.int .i64 v215)), (32, one (.sl (y218.f_set.map e_api_Range))), (33, one (.int .i64 (y218.f_set.length : Int))), (34, one (.int .i64 v254)), (47, one (.bool v258))] ∧ pickE s_.os [107, 118] = [(107, .arr 1 (v250.map (eInt .i64))), (118, .arr 1 (v251.map eBool))] ∧ F56_j20 k self19 v0 y217 v250 v251 v254 v258 = some r) ?_ ?_
            · rintro s_ ⟨v258, he, ho, hF⟩
              refine WA.keep _ _ he ho ?_
              clear he ho
              refine WA.cond (b := v258) rfl (fun hb259 => ?_) (fun hb259 => ?_)
              · have hF := cond_t hF hb259
                obtain ⟨y260, hy260, hF⟩ := bind_some hF
                obtain ⟨y261, hy261, hF⟩ := bind_some hF
                obtain ⟨y262, hy262, hF⟩ := bind_some hF
                obtain ⟨hl263, hF⟩ := if_some hF
                refine WA.reg [0, 2, 7, 8, 10, 19, 20, 21, 32, 33, 34] [107, 118] [(8, .cells (e_rex_node y260)), (11, .cells [.int .i64 y261]), (13, .call [107, 118] (.val false [.arr 0 y262.1.length]) [.arr 1 (y262.1.map (eInt .i64)), .arr 1 (y262.2.map eBool)] [])] (env' := [(0, .val false [.vp (e_rex_Machine v0)]), (2, one (.int .i64 v2)), (7, .val false [.arr 107 y262.1.length]), (8, .val false [.arr 118 v253]), (10, one (.int .i64 y217)), (19, one (.sl (v1.map (eInt .i64)))), (20, one (.int .i64 (v1.length : Int))), (21, one (.int .i64 v215)), (32, one (.sl (y218.f_set.map e_api_Range))), (33, one (.int .i64 (y218.f_set.length : Int))), (34, one (.int .i64 v254))]) (os' := [(107, .arr 1 (y262.1.map (eInt .i64))), (118, .arr 1 (y262.2.map eBool))]) (O := [idxL (v0.f_nodes.map e_rex_node) y217 = some (e_rex_node y260), idxL (y260.f_next.map (eInt .i64)) 0 = some [.int .i64 y261], Sim Tryz.prog GL0 79 [.val false [.vp (e_rex_Machine v0)], .val false [.arr 0 v252], .val false [.arr 1 v253], one (.int .i64 y261)] [.arr 1 (v250.map (eInt .i64)), .arr 1 (v251.map eBool)] (.val false [.arr 0 y262.1.length]) [.arr 1 (y262.1.map (eInt .i64)), .arr 1 (y262.2.map eBool)], ([107, 118] : List Nat).Nodup]) (by kernel_rfl) (sound _ _) ⟨(idx_map _ hy260), (idx_map _ hy261), (F79_ok k _ _ _ _ _ hy262 (n1 := v252) (by first | omega | (simp only [zlm, zla, zlc, zln, zls, zlr, zlt, zld, lens_api_Re]; done) | (simp only [zlm, zla, zlc, zln, zls, zlr, zlt, zld, lens_api_Re]; omega) | (simp only [zlm, zla, zlc, zln, zls, zlr, zlt, zld, lens_api_Re] at *; omega)) (n2 := v253) (by first | omega | (simp only [zlm, zla, zlc, zln, zls, zlr, zlt, zld, lens_api_Re]; done) | (simp only [zlm, zla, zlc, zln, zls, zlr, zlt, zld, lens_api_Re]; omega) | (simp only [zlm, zla, zlc, zln, zls, zlr, zlt, zld, lens_api_Re] at *; omega))), (by decide), trivial⟩ ?_
                exact ⟨y262.1, y262.2, y262.1.length, v253, by kernel_rfl, by kernel_rfl, (by first | omega | (simp only [zlm, zla, zlc, zln, zls, zlr, zlt, zld, lens_api_Re]; done) | (simp only [zlm, zla, zlc, zln, zls, zlr, zlt, zld, lens_api_Re]; omega) | (simp only [zlm, zla, zlc, zln, zls, zlr, zlt, zld, lens_api_Re] at *; omega)), (by first | omega | (simp only [zlm, zla, zlc, zln, zls, zlr, zlt, zld, lens_api_Re]; done) | (simp only [zlm, zla, zlc, zln, zls, zlr, zlt, zld, lens_api_Re]; omega) | (simp only [zlm, zla, zlc, zln, zls, zlr, zlt, zld, lens_api_Re] at *; omega)), hF⟩
              · have hF := cond_f hF hb259
                refine WA.skip ?_
                exact ⟨v250, v251, v252, v253, by kernel_rfl, by kernel_rfl, (by first | omega | (simp only [zlm, zla, zlc, zln, zls, zlr, zlt, zld, lens_api_Re]; done) | (simp only [zlm, zla, zlc, zln, zls, zlr, zlt, zld, lens_api_Re]; omega) | (simp only [zlm, zla, zlc, zln, zls, zlr, zlt, zld, lens_api_Re] at *; omega)), (by first | omega | (simp only [zlm, zla, zlc, zln, zls, zlr, zlt, zld, lens_api_Re]; done) | (simp only [zlm, zla, zlc, zln, zls, zlr, zlt, zld, lens_api_Re]; omega) | (simp only [zlm, zla, zlc, zln, zls, zlr, zlt, zld, lens_api_Re] at *; omega)), hF⟩
            · rcases Bool.eq_false_or_eq_true (decide (v2 ≥ y256.f_Lo)) with hb257 | hb257
              · have hF := cond_t hF hb257
                refine WA.reg [0, 2, 7, 8, 10, 19, 20, 21, 32, 33, 34, 47] [107, 118] [(4, .bool true)] (env' := [(0, .val false [.vp (e_rex_Machine v0)]), (2, one (.int .i64 v2)), (7, .val false [.arr 107 v252]), (8, .val false [.arr 118 v253]), (10, one (.int .i64 y217)), (19, one (.sl (v1.map (eInt .i64)))), (20, one (.int .i64 (v1.length : Int))), (21, one (.int .i64 v215)), (32, one (.sl (y218.f_set.map e_api_Range))), (33, one (.int .i64 (y218.f_set.length : Int))), (34, one (.int .i64 v254)), (47, one (.bool (decide (v2 ≤ y256.f_Hi))))]) (os' := [(107, .arr 1 (v250.map (eInt .i64))), (118, .arr 1 (v251.map eBool))]) (O := [(decide (v2 ≥ y256.f_Lo)) = true]) (by kernel_rfl) (sound _ _) ⟨hb257, trivial⟩ ?_
                exact ⟨(decide (v2 ≤ y256.f_Hi)), by kernel_rfl, by kernel_rfl, hF⟩
              · have hF := cond_f hF hb257
                refine WA.reg [0, 2, 7, 8, 10, 19, 20, 21, 32, 33, 34, 47] [107, 118] [(4, .bool false)] (env' := [(0, .val false [.vp (e_rex_Machine v0)]), (2, one (.int .i64 v2)), (7, .val false [.arr 107 v252]), (8, .val false [.arr 118 v253]), (10, one (.int .i64 y217)), (19, one (.sl (v1.map (eInt .i64)))), (20, one (.int .i64 (v1.length : Int))), (21, one (.int .i64 v215)), (32, one (.sl (y218.f_set.map e_api_Range))), (33, one (.int .i64 (y218.f_set.length : Int))), (34, one (.int .i64 v254)), (47, one (.bool false))]) (os' := [(107, .arr 1 (v250.map (eInt .i64))), (118, .arr 1 (v251.map eBool))]) (O := [(decide (v2 ≥ y256.f_Lo)) = false]) (by kernel_rfl) (sound _ _) ⟨hb257, trivial⟩ ?_
                exact ⟨false, by kernel_rfl, by kernel_rfl, hF⟩
        · have hF := cond_f hF hb255
          refine WA.exit ?_
          refine WA.reg [0, 2, 7, 8, 19, 20, 21] [107, 118] [] (env' := [(0, .val false [.vp (e_rex_Machine v0)]), (2, one (.int .i64 v2)), (7, .val false [.arr 107 v252]), (8, .val false [.arr 118 v253]), (19, one (.sl (v1.map (eInt .i64)))), (20, one (.int .i64 (v1.length : Int))), (21, one (.int .i64 (w64 (v215 + 1))))]) (os' := [(107, .arr 1 (v250.map (eInt .i64))), (118, .arr 1 (v251.map eBool))]) (O := []) (by kernel_rfl) (sound _ _) trivial ?_
          exact ⟨m14, Nat.lt_succ_self _, v250, v251, v252, v253, (w64 (v215 + 1)), by kernel_rfl, by kernel_rfl, (by first | omega | (simp only [zlm, zla, zlc, zln, zls, zlr, zlt, zld, lens_api_Re]; done) | (simp only [zlm, zla, zlc, zln, zls, zlr, zlt, zld, lens_api_Re]; omega) | (simp only [zlm, zla, zlc, zln, zls, zlr, zlt, zld, lens_api_Re] at *; omega)), (by first | omega | (simp only [zlm, zla, zlc, zln, zls, zlr, zlt, zld, lens_api_Re]; done) | (simp only [zlm, zla, zlc, zln, zls, zlr, zlt, zld, lens_api_Re]; omega) | (simp only [zlm, zla, zlc, zln, zls, zlr, zlt, zld, lens_api_Re] at *; omega)), by rw [hself14] at hF; exact hF⟩
    · have hF := cond_f hF hb216
      refine WA.exit ?_
      refine WA.seq ?_
      refine WA.reg [6] [107] [] (env' := [(6, .val false [.arr 107 v213])]) (os' := [(107, .arr 1 (v211.map (eInt .i64)))]) (O := []) (by kernel_rfl) (sound _ _) trivial ?_
      refine WA.freeze 107 6 (s := 1) (n := v213) (els := (v211.map (eInt .i64))) rfl rfl (by first | omega | (simp only [zlm, zla, zlc, zln, zls, zlr, zlt, zld, lens_api_Re]; done) | (simp only [zlm, zla, zlc, zln, zls, zlr, zlt, zld, lens_api_Re]; omega) | (simp only [zlm, zla, zlc, zln, zls, zlr, zlt, zld, lens_api_Re] at *; omega)) ?_
      refine WA.keep [6] [] (env' := [(6, one (.sl (v211.map (eInt .i64))))]) (os' := []) (by kernel_rfl) (by kernel_rfl) ?_
      refine WA.ret ?_
      obtain rfl := Option.some.inj hF
      exact out_ret (one (.sl (v211.map (eInt .i64)))) [] (by kernel_rfl) (by kernel_rfl) (by kernel_rfl) (by kernel_rfl) (by decide) rfl rfl
/-!   entrepot rex.Machine .Ends -/
def F57_b0 (self0 : Int → Option Bool) (v1 : List Int) (v108 : Int) : Option Bool :=
  (cond (decide (v108 < (v1.length : Int))) ((idxL v1 v108).bind fun y110 => ((cond (y110 == 0) ((some true)) ((self0 (w64 (v108 + 1))))))) (((some false))))
def F57_l0 (v1 : List Int) : Nat → Int → Option Bool
  | 0, _ => none
  | m_ + 1, v108 => F57_b0 (F57_l0 v1 m_) v1 v108
def F57 (k : Nat) (v0 : rex_Machine) (v1 : List Int) : Option Bool :=
  ((F57_l0 v1 k 0))
theorem F57_ok (k : Nat) (v0 : rex_Machine) (v1 : List Int) (r : Bool) (hF : F57 k v0 v1 = some r) : Sim Tryz.prog GL0 57 [.val false [.vp (e_rex_Machine v0)], one (.sl (v1.map (eInt .i64)))] [] (one (.bool r)) [] := by
  refine sim_of [] Tryz.func57 rfl (by kernel_rfl) (by kernel_rfl) ?_
  show WA _ _ 16 _ _ _
  refine WA.seq ?_
  refine WA.reg [1] [] [] (env' := [(1, one (.sl (v1.map (eInt .i64))))]) (os' := []) (O := []) (by kernel_rfl) (sound _ _) trivial ?_
  refine WA.seq ?_
  refine WA.seq ?_
  refine WA.regM (α := Int) (raw := ((v1.map (eInt .i64)).length : Int)) (can := (v1.length : Int)) (fun m_ => ([(7, one (.sl (v1.map (eInt .i64)))), (8, one (.int .i64 m_)), (9, one (.int .i64 0))], [], [])) ((by first | (simp only [zlm, zla, zlc, zln, zls, zlr, zlt, zld, lens_api_Re]; done) | (simp only [zlm, zla, zlc, zln, zls, zlr, zlt, zld, lens_api_Re]; omega) | omega)) [7, 8, 9] [] [] (env' := [(7, one (.sl (v1.map (eInt .i64)))), (8, one (.int .i64 (v1.length : Int))), (9, one (.int .i64 0))]) (os' := []) (O := []) (by kernel_rfl) (by kernel_rfl) (sound _ _) trivial ?_
  refine WA.block ?_
  refine WA.loop (fun m s_ => ∃ (v108 : Int), pickE s_.env [7, 8, 9] = [(7, one (.sl (v1.map (eInt .i64)))), (8, one (.int .i64 (v1.length : Int))), (9, one (.int .i64 v108))] ∧ pickE s_.os [] = [] ∧ F57_l0 v1 m v108 = some r) k ⟨0, by kernel_rfl, by kernel_rfl, hF⟩ ?_
  clear hF
  rintro m0 s_ ⟨v108, he, ho, hF⟩
  refine WA.keep _ _ he ho ?_
  clear he ho
  cases m0 with
  | zero => cases hF
  | succ m0 =>
    obtain ⟨self0, hself0⟩ : ∃ g, g = F57_l0 v1 m0 := ⟨_, rfl⟩
    have hF : F57_b0 self0 v1 v108 = some r := by first | (rw [hself0]; exact hF) | exact hF
    refine WA.seq ?_
    refine WA.reg [7, 8, 9, 10] [] [] (env' := [(7, one (.sl (v1.map (eInt .i64)))), (8, one (.int .i64 (v1.length : Int))), (9, one (.int .i64 v108)), (10, one (.bool (decide (v108 < (v1.length : Int)))))]) (os' := []) (O := []) (by kernel_rfl) (sound _ _) trivial ?_
    refine WA.seq ?_
    refine WA.cond (b := (decide (v108 < (v1.length : Int)))) rfl (fun hb109 => ?_) (fun hb109 => ?_)
    · have hF := cond_t hF hb109
      refine WA.skip ?_
      refine WA.seq ?_
      refine WA.block ?_
      refine WA.seq ?_
      obtain ⟨y110, hy110, hF⟩ := bind_some hF
      refine WA.reg [6, 7, 8, 9] [] [(0, .cells [.int .i64 y110])] (env' := [(6, one (.int .i64 y110)), (7, one (.sl (v1.map (eInt .i64)))), (8, one (.int .i64 (v1.length : Int))), (9, one (.int .i64 v108))]) (os' := []) (O := [idxL (v1.map (eInt .i64)) v108 = some [.int .i64 y110]]) (by kernel_rfl) (sound _ _) ⟨(idx_map _ hy110), trivial⟩ ?_
      refine WA.seq ?_
      refine WA.reg [7, 8, 9, 14] [] [] (env' := [(7, one (.sl (v1.map (eInt .i64)))), (8, one (.int .i64 (v1.length : Int))), (9, one (.int .i64 v108)), (14, one (.bool (y110 == 0)))]) (os' := []) (O := []) (by kernel_rfl) (sound _ _) trivial ?_
      refine WA.cond (b := (y110 == 0)) rfl (fun hb111 => ?_) (fun hb111 => ?_)
      · have hF := cond_t hF hb111
        refine WA.seq ?_
        refine WA.reg [4] [] [] (env' := [(4, one (.bool true))]) (os' := []) (O := []) (by kernel_rfl) (sound _ _) trivial ?_
        refine WA.ret ?_
        obtain rfl := Option.some.inj hF
        exact out_ret (one (.bool true)) [] (by kernel_rfl) (by kernel_rfl) (by kernel_rfl) (by kernel_rfl) (by decide) rfl rfl
      · have hF := cond_f hF hb111
        refine WA.skip ?_
        refine WA.reg [7, 8, 9] [] [] (env' := [(7, one (.sl (v1.map (eInt .i64)))), (8, one (.int .i64 (v1.length : Int))), (9, one (.int .i64 (w64 (v108 + 1))))]) (os' := []) (O := []) (by kernel_rfl) (sound _ _) trivial ?_
        exact ⟨m0, Nat.lt_succ_self _, (w64 (v108 + 1)), by kernel_rfl, by kernel_rfl, by rw [hself0] at hF; exact hF⟩
    · have hF := cond_f hF hb109
      refine WA.exit ?_
      refine WA.seq ?_
      refine WA.reg [4] [] [] (env' := [(4, one (.bool false))]) (os' := []) (O := []) (by kernel_rfl) (sound _ _) trivial ?_
      refine WA.ret ?_
      obtain rfl := Option.some.inj hF
      exact out_ret (one (.bool false)) [] (by kernel_rfl) (by kernel_rfl) (by kernel_rfl) (by kernel_rfl) (by decide) rfl rfl
end Go.Proofs.YthilboheomikjaaGreatDoor
end

section
namespace Go.AL
set_option linter.unusedVariables false
set_option linter.unusedSimpArgs false
variable {P : Program} {GL : List (Nat × List PV)} {w : World} {I : Nat → Prop} {G : Nat → Option Nat}

theorem freeze_core {os : Objs} {id s n : Nat} {els : List (List PV)} {v : Value} (h3 : Sr GL w I G os) (ho : look os id = some (.arr s els)) (hn : n = els.length) (hx : ATr w I G (shape os) (.val false [.arr id n]) v) :
    ∃ I' : Nat → Prop, Sr GL w I' G (dropO os id) ∧ ATr w I' G (shape (dropO os id)) (one (.sl els)) v ∧ Keeps Any w w I I' G G (shape os) (shape (dropO os id)) ∧ ∀ k, I' k → I k ∨ G id = some k := by
  have hsub : ∀ k o, look (dropO os id) k = some o → look os k = some o := fun k o h => by
    rw [look_dropO] at h; split at h
    · cases h
    · exact h
  obtain ⟨s1, k1⟩ := h3.sub hsub
  let I' : Nat → Prop := fun b => I b ∨ G id = some b
  have hI' : ∀ k, I' k → k < w.heap.size := fun k hk => by
    rcases hk with hk | hk
    · exact h3.lt k hk
    · obtain ⟨_, cs, E, hh, _⟩ := h3.blk id _ k ho hk
      exact (Array.getElem?_eq_some_iff.1 hh).1
  have k2 : Keeps Any w w I I' G G (shape (dropO os id)) (shape (dropO os id)) := ⟨fun _ _ => rfl, fun _ h => .inl h, fun i s m _ hs => ⟨m, hs, Nat.le_refl _, fun _ => ⟨rfl, fun _ _ => Nat.le_refl _⟩⟩⟩
  have s2 : Sr GL w I' G (dropO os id) := by
    refine ⟨fun g ps hg => ?_, s1.none_, fun k o b q1 q2 => ?_, s1.inj, hI'⟩
    · obtain ⟨r1, r2⟩ := h3.gl g ps hg
      exact ⟨.inl r1, fun j p hp => by obtain ⟨u, hu, hr⟩ := r2 j p hp; exact ⟨u, hu, hr.mono (fun _ _ => rfl) (fun _ h => .inl h)⟩⟩
    · obtain ⟨r1, cs, E, r2, r3, r4, r5⟩ := s1.blk k o b q1 q2
      refine ⟨fun h => ?_, cs, E, r2, r3, r4, fun i es j c e1 e2 => ?_⟩
      · rcases h with h | h
        · exact r1 h
        · have := h3.inj k id o _ b (hsub k o q1) ho q2 h
          subst this
          rw [look_dropO, if_pos rfl] at q1; cases q1
      · obtain ⟨v, hv, hr⟩ := r5 i es j c e1 e2
        exact ⟨v, hv, hr.mono k2 (AC.refs_any c)⟩
  refine ⟨I', s2, ⟨_, rfl, ?_⟩, k1.trans k2, fun k hk => hk⟩
  show PVr w I' _ _
  have hv := (atr_one hx).2 _ _ (shape_look ho)
  have hv2 := hv.2 (by simp [Obj.els, hn])
  cases hb : G id with
  | none =>
    rw [hb] at hv2
    have := h3.none_ id _ ho hb
    simp [Obj.els] at this
    subst this
    rw [hv2]; exact .sl0 _ _
  | some b =>
    rw [hb] at hv2
    obtain ⟨c, e1, e2, e3⟩ := hv2
    obtain ⟨r1, cs, E, r2, r3, r4, r5⟩ := h3.blk id _ b ho hb
    rw [e1, hn]
    have hget : ∀ (i : Nat) (es : List PV), els[i]? = some es → (Obj.arr s els).els[i]? = some (pvL es) := fun i es h => by simp [Obj.els, h]
    let vals : Nat → Nat → Value := fun i j => (cs[i * s + j]?).getD undef
    have hvv : ∀ (i : Nat) (es : List PV) (j : Nat) (p : PV), els[i]? = some es → es[j]? = some p → cs[i * s + j]? = some (vals i j) ∧ PVr w I p (vals i j) := by
      intro i es j p q1 q2
      obtain ⟨v, hv, hr⟩ := r5 i _ j (.pv p) (hget i es q1) (by simp [pvL, q2])
      have hv' : cs[i * s + j]? = some v := hv
      refine ⟨by simp [vals, hv'], ?_⟩
      have : vals i j = v := by simp [vals, hv']
      rw [this]; exact hr
    refine .sl els b 0 c s vals (.inr hb) (by omega) (fun i es q => by have := r4 i _ (hget i es q); rw [pvL_length] at this; exact this) (fun i es j p q1 q2 => ?_) (fun i es j p q1 q2 => (hvv i es j p q1 q2).2.mono (fun _ _ => rfl) (fun _ h => .inl h))
    have := (hvv i es j p q1 q2).1
    simp only [World.cell?, r2]; simpa using this

theorem look_number_append {os : List Obj} {o : Obj} (k : Nat) : look (number os) k = look (dropO (number (os ++ [o])) os.length) k := by
  rw [look_dropO, look_number, look_number]
  by_cases h : k = os.length
  · subst h; simp
  · rw [if_neg h]
    rcases Nat.lt_or_ge k os.length with h' | h'
    · rw [List.getElem?_append_left h']
    · rw [List.getElem?_eq_none h', List.getElem?_append_right h', List.getElem?_eq_none (by simp; omega)]

theorem sim_frz {f : FuncId} {args : List AT} {os os' : List Obj} {m n s : Nat} {els : List (List PV)} (hm : os'.length = m) (hm2 : os.length ≤ m) (hn : n = els.length) (h : Sim P GL f args os (.val false [.arr m n]) (os' ++ [.arr s els])) : Sim P GL f args os (one (.sl els)) os' := by
  intro w I G vs hs ha
  refine Calls.imp (h w I G vs hs ha) ?_
  rintro e w' ⟨v, I', G', rfl, e1, s1, x1, k1⟩
  subst hm
  have hl : look (number (os' ++ [Obj.arr s els])) os'.length = some (.arr s els) := by rw [look_number]; simp
  obtain ⟨I2, s2, x2, k2, hI⟩ := freeze_core s1 hl hn x1
  have hlk := fun k => look_number_append (os := os') (o := .arr s els) k
  have hsh : shape (number os') = shape (dropO (number (os' ++ [Obj.arr s els])) os'.length) := by funext k; simp only [shape, hlk]
  refine ⟨v, I2, G', rfl, ⟨e1.size, e1.os, e1.tape, e1.output, e1.keep, fun k hk => k2.imm k (e1.imm k hk), fun k hk => ?_, fun b ⟨k, o, h1, h2⟩ => ?_⟩, s2.congr hlk, by rw [hsh]; exact x2, ?_⟩
  · rcases hI k hk with h | h
    · exact e1.inew k h
    · rcases e1.mnew k ⟨os'.length, _, hl, h⟩ with h | h
      · exact .inr (.inl h)
      · exact .inr (.inr h)
  · have h3 := hlk k
    rw [h1, look_dropO] at h3
    split at h3
    · cases h3
    · exact e1.mnew b ⟨k, o, h3.symm, h2⟩
  · rw [hsh]; exact k1.trans (k2.weaken fun _ _ => trivial)
end Go.AL
end

section
namespace Go.AL
variable {D : List Deferred}
set_option linter.unusedVariables false
set_option linter.unusedSimpArgs false
variable {P : Program} {GL : List (Nat × List PV)} {st : S} {w : World} {I : Nat → Prop} {G : Nat → Option Nat} {N : Nat} {F : Exit → S → Prop} {code : Code}

theorem dropO_sub {os : Objs} {id k : Nat} {o : Obj} (h : look (dropO os id) k = some o) : look os k = some o := by
  rw [look_dropO] at h; split at h
  · cases h
  · exact h

/-- what an object lies on never changes any more -/
theorem freeze_obj {os : Objs} {id : Nat} {o : Obj} (h3 : Sr GL w I G os) (ho : look os id = some o) :
    Sr GL w (fun b => I b ∨ G id = some b) G (dropO os id) ∧ Keeps Any w w I (fun b => I b ∨ G id = some b) G G (shape os) (shape (dropO os id)) := by
  obtain ⟨s1, k1⟩ := h3.sub (os' := dropO os id) fun k o h => dropO_sub h
  have k2 : Keeps Any w w I (fun b => I b ∨ G id = some b) G G (shape (dropO os id)) (shape (dropO os id)) := ⟨fun _ _ => rfl, fun _ h => .inl h, fun i s m _ hs => ⟨m, hs, Nat.le_refl _, fun _ => ⟨rfl, fun _ _ => Nat.le_refl _⟩⟩⟩
  refine ⟨⟨fun g ps hg => ?_, s1.none_, fun k o b q1 q2 => ?_, s1.inj, fun k hk => ?_⟩, k1.trans k2⟩
  · obtain ⟨r1, r2⟩ := h3.gl g ps hg
    exact ⟨.inl r1, fun j p hp => by obtain ⟨u, hu, hr⟩ := r2 j p hp; exact ⟨u, hu, hr.mono (fun _ _ => rfl) (fun _ h => .inl h)⟩⟩
  · obtain ⟨r1, cs, E, r2, r3, r4, r5⟩ := s1.blk k o b q1 q2
    refine ⟨fun h => ?_, cs, E, r2, r3, r4, fun i es j c e1 e2 => ?_⟩
    · rcases h with h | h
      · exact r1 h
      · have := h3.inj k id o _ b (dropO_sub q1) ho q2 h
        subst this
        rw [look_dropO, if_pos rfl] at q1; cases q1
    · obtain ⟨v, hv, hr⟩ := r5 i es j c e1 e2
      exact ⟨v, hv, hr.mono k2 (AC.refs_any c)⟩
  · rcases hk with hk | hk
    · exact h3.lt k hk
    · obtain ⟨_, cs, E, hh, _⟩ := h3.blk id _ k ho hk
      exact (Array.getElem?_eq_some_iff.1 hh).1

theorem freezeM_core {os : Objs} {id a s n : Nat} {els : List (List PV)} {p : PV} {v : Value} (h3 : Sr GL w I G os) (hne : id ≠ a) (hb : look os id = some (.box [.arr a n, .pv p])) (ha : look os a = some (.arr s els)) (hn : n = els.length)
    (hx : ATr w I G (shape os) (.val false [.ptr id 1 0 0]) v) :
    ∃ I' : Nat → Prop, Sr GL w I' G (dropO (dropO os a) id) ∧ ATr w I' G (shape (dropO (dropO os a) id)) (.val false [.vp [.sl els, p]]) v ∧ Keeps Any w w I I' G G (shape os) (shape (dropO (dropO os a) id)) ∧ ∀ k, I' k → I k ∨ G id = some k ∨ G a = some k := by
  -- the variable's block
  have hsh := shape_look hb
  obtain ⟨⟨A, hA⟩, hp⟩ := atr_one hx
  have hp := (hp _ _ hsh).2 rfl
  cases hG : G id with
  | none => have := h3.none_ id _ hb hG; simp [Obj.els] at this
  | some b =>
    have hv := hp b hG
    obtain ⟨q1, cs, E, q2, q3, q4, q5⟩ := h3.blk id _ b hb hG
    obtain ⟨u, hu, hur⟩ := q5 0 [.arr a n, .pv p] 0 (.arr a n) rfl rfl
    obtain ⟨u1, hu1, hur1⟩ := q5 0 [.arr a n, .pv p] 1 (.pv p) rfl rfl
    obtain ⟨I1, s1, x1, k1, hI1⟩ := freeze_core h3 ha hn (v := u) ⟨_, rfl, hur⟩
    have hb' : look (dropO os a) id = some (.box [.arr a n, .pv p]) := by rw [look_dropO, if_neg hne]; exact hb
    obtain ⟨s2, k2⟩ := freeze_obj s1 hb'
    refine ⟨_, s2, ⟨_, rfl, b, 0, by simpa using hv, .inr hG, fun j q hq => ?_⟩, k1.trans k2, fun k hk => ?_⟩
    · match j, hq with
      | 0, hq =>
        cases hq
        refine ⟨u, ?_, PVr.mono (atr_one x1) k2.heap k2.imm⟩
        simp only [World.cell?, q2]; simpa using hu
      | 1, hq =>
        cases hq
        refine ⟨u1, ?_, PVr.mono hur1 (k1.trans k2).heap (k1.trans k2).imm⟩
        simp only [World.cell?, q2]; simpa using hu1
    · rcases hk with hk | hk
      · rcases hI1 k hk with h | h
        · exact .inl h
        · exact .inr (.inr h)
      · exact .inr (.inl (hG.symm.trans hk))

/-- a variable with an array of its own becomes plain data -/
theorem WA.freezeM (id a t : Nat) {s n : Nat} {els : List (List PV)} {p : PV} (ht : look st.env t = some (.val false [.ptr id 1 0 0])) (hb : look st.os id = some (.box [.arr a n, .pv p])) (ha : look st.os a = some (.arr s els)) (hn : n = els.length)
    (hne : id ≠ a) (h : WA P GL N code ⟨(t, .val false [.vp [.sl els, p]]) :: st.env, dropO (dropO st.os a) id⟩ F) : WA P GL N code st F := fun D w0 I0 G0 os0 w I G c h1 h2 h3 h4 => by
  obtain ⟨I', s2, x2, k3, hI⟩ := freezeM_core h3 hne hb ha hn (h4.slot t _ ht).2
  refine h D w0 I0 G0 os0 w I' G c ⟨h1.size, h1.os, h1.tape, h1.output, h1.keep, fun k hk => k3.imm k (h1.imm k hk), fun k hk => ?_, fun b ⟨k, o, q1, q2⟩ => h1.mnew b ⟨k, o, dropO_sub (dropO_sub q1), q2⟩⟩ (h2.trans (k3.weaken fun _ _ => trivial)) s2
    ⟨h4.size, h4.defers, fun t' x hx => ?_⟩
  · have hm : ∀ k, Mine G st.os k → I0 k ∨ Mine G0 os0 k ∨ w0.heap.size ≤ k := fun k hk => by
      rcases h1.mnew k hk with h | h
      · exact .inr (.inl h)
      · exact .inr (.inr h)
    rcases hI k hk with hk | hk | hk
    · exact h1.inew k hk
    · exact hm k ⟨id, _, hb, hk⟩
    · exact hm k ⟨a, _, ha, hk⟩
  · rw [look_cons] at hx
    split at hx
    · rename_i e; subst e; cases hx
      exact ⟨(h4.slot t _ ht).1, x2⟩
    · exact ⟨(h4.slot t' x hx).1, (h4.slot t' x hx).2.mono k3 (AT.refs_any x)⟩

def NoRef (_ : Nat) : Prop := False

theorem keeps_noref {w' : World} {I' : Nat → Prop} {G' : Nat → Option Nat} {sh sh' : Sh} (hh : ∀ k, I k → w'.heap[k]? = w.heap[k]?) (hi : ∀ k, I k → I' k) : Keeps NoRef w w' I I' G G' sh sh' := ⟨hh, hi, fun _ _ _ h => h.elim⟩

/-- a nil slice handed over to be grown: what comes back is plain data -/
theorem sim_nilnew {f : FuncId} {p0 p3 : AT} {n m s1 s2 : Nat} {els els' l' : List (List PV)} (hm : m = l'.length) (h0 : p0.refs NoRef) (h3 : p3.refs NoRef)
    (h : Sim P GL f [p0, .val false [.arr 0 0], .val false [.arr 1 n], p3] [.arr s1 [], .arr s2 els] (.val false [.arr 0 m]) [.arr s1 l', .arr s2 els']) :
    Sim P GL f [p0, one .nils, .val false [.arr 0 n], p3] [.arr s2 els] (one (.sl l')) [.arr s2 els'] := by
  intro w I G vs hs ha
  obtain ⟨v0, _, rfl, a0, v1, _, rfl, a1, v2, _, rfl, a2, v3, _, rfl, a3, rfl⟩ := ha
  let G2 : Nat → Option Nat := fun k => if k = 1 then G 0 else none
  have l1 : ∀ k, look (number [Obj.arr s2 els]) k = if k = 0 then some (Obj.arr s2 els) else none := fun k => by
    rw [look_number]; cases k with | zero => rfl | succ k => rfl
  have l2 : ∀ (x y : Obj) k, look (number [x, y]) k = if k = 0 then some x else if k = 1 then some y else none := fun x y k => by
    rw [look_number]; match k with | 0 => rfl | 1 => rfl | k + 2 => rfl
  have sr2 : Sr GL w I G2 (number [.arr s1 [], .arr s2 els]) := by
    refine ⟨hs.gl, fun k o q g => ?_, fun k o b q g => ?_, fun k k' o o' b q1 q2 g1 g2 => ?_, hs.lt⟩
    · rw [l2] at q
      by_cases e : k = 0
      · rw [if_pos e] at q; cases q; rfl
      · rw [if_neg e] at q
        by_cases e1 : k = 1
        · rw [if_pos e1] at q; cases q; subst e1
          exact hs.none_ 0 _ (by rw [l1]; rfl) g
        · rw [if_neg e1] at q; cases q
    · rw [l2] at q
      by_cases e1 : k = 1
      · subst e1
        cases q
        obtain ⟨r1, cs, E, r2, r3, r4, r5⟩ := hs.blk 0 _ b (by rw [l1]; rfl) g
        refine ⟨r1, cs, E, r2, r3, r4, fun i es j c z1 z2 => ?_⟩
        obtain ⟨v, hv, hr⟩ := r5 i es j c z1 z2
        refine ⟨v, hv, ?_⟩
        simp only [Obj.els, List.getElem?_map] at z1
        cases hq : els[i]? with
        | none => rw [hq] at z1; cases z1
        | some ps => rw [hq] at z1; cases z1; obtain ⟨p, _, rfl⟩ := pvL_get z2; exact hr
      · simp only [G2, if_neg e1] at g; cases g
    · have e1 : k = 1 := by
        by_cases e : k = 1
        · exact e
        · simp only [G2, if_neg e] at g1; cases g1
      have e2 : k' = 1 := by
        by_cases e : k' = 1
        · exact e
        · simp only [G2, if_neg e] at g2; cases g2
      rw [e1, e2]
  have k0 : ∀ {I' G' sh sh'}, (∀ k, I k → I' k) → Keeps NoRef w w I I' G G' sh sh' := fun hi => keeps_noref (fun _ _ => rfl) hi
  have nil1 : v1 = .slice none 0 0 := by
    obtain ⟨c, hc, hr⟩ := a1; cases hc; cases hr; rfl
  subst nil1
  have as2 : As w I G2 (shape (number [.arr s1 [], .arr s2 els])) [p0, .val false [.arr 0 0], .val false [.arr 1 n], p3] [v0, .slice none 0 0, v2, v3] := by
    refine ⟨v0, _, rfl, a0.mono (k0 fun _ h => h) h0, _, _, rfl, ⟨_, rfl, ⟨_, _, rfl⟩, fun s m hsm => ⟨Nat.zero_le _, fun _ => rfl⟩⟩, v2, _, rfl, ⟨_, rfl, ?_⟩, v3, _, rfl, a3.mono (k0 fun _ h => h) h3, rfl⟩
    obtain ⟨x1, x2⟩ := atr_one a2
    refine ⟨x1, fun s m hsm => ?_⟩
    have e : shape (number [Obj.arr s2 els]) 0 = some (s, m) := by
      simp only [shape, l2, l1] at hsm ⊢; exact hsm
    exact x2 s m e
  refine Calls.imp (h w I G2 _ sr2 as2) ?_
  rintro e w' ⟨v, I', G', rfl, e1, t1, x1, c1⟩
  have hl0 : look (number [Obj.arr s1 l', Obj.arr s2 els']) 0 = some (.arr s1 l') := by rw [l2]; rfl
  have hl1 : look (number [Obj.arr s1 l', Obj.arr s2 els']) 1 = some (.arr s2 els') := by rw [l2]; rfl
  obtain ⟨I2, t2, x2, c2, hI⟩ := freeze_core t1 hl0 hm x1
  let G3 : Nat → Option Nat := fun k => if k = 0 then G' 1 else none
  have hd1 : look (dropO (number [Obj.arr s1 l', Obj.arr s2 els']) 0) 1 = some (.arr s2 els') := by rw [look_dropO, if_neg (by omega)]; exact hl1
  have m1 : ∀ k, Mine G2 (number [.arr s1 [], .arr s2 els]) k → Mine G (number [.arr s2 els]) k := fun k ⟨id, o, q1, q2⟩ => by
    by_cases e : id = 1
    · subst e; exact ⟨0, _, by rw [l1]; rfl, q2⟩
    · simp only [G2, if_neg e] at q2; cases q2
  have m2 : ∀ k, Mine G (number [.arr s2 els]) k → Mine G2 (number [.arr s1 [], .arr s2 els]) k := fun k ⟨id, o, q1, q2⟩ => by
    rw [l1] at q1
    by_cases e : id = 0
    · subst e; exact ⟨1, _, by rw [l2]; rfl, q2⟩
    · rw [if_neg e] at q1; cases q1
  have l3 : ∀ k, look (number [Obj.arr s2 els']) k = if k = 0 then some (Obj.arr s2 els') else none := fun k => by
    rw [look_number]; cases k with | zero => rfl | succ k => rfl
  have m3 : ∀ k, Mine G3 (number [.arr s2 els']) k → Mine G' (number [Obj.arr s1 l', Obj.arr s2 els']) k := fun k ⟨id, o, q1, q2⟩ => by
    rw [l3] at q1
    by_cases e : id = 0
    · subst e; exact ⟨1, _, hl1, q2⟩
    · rw [if_neg e] at q1; cases q1
  have mm : ∀ k, Mine G' (number [Obj.arr s1 l', Obj.arr s2 els']) k → Mine G (number [.arr s2 els]) k ∨ w.heap.size ≤ k := fun k hk => (e1.mnew k hk).elim (fun h => .inl (m1 k h)) .inr
  refine ⟨v, I2, G3, rfl, ⟨e1.size, e1.os, e1.tape, e1.output, fun k h h' => e1.keep k h fun q => h' (m1 k q), fun k hk => c2.imm k (e1.imm k hk), fun k hk => ?_, fun k hk => mm k (m3 k hk)⟩, ?_, x2.mono (keeps_noref (fun _ _ => rfl) fun _ h => h) ⟨trivial, trivial⟩, ?_⟩
  · rcases hI k hk with h | h
    · rcases e1.inew k h with h | h | h
      · exact .inl h
      · exact .inr (.inl (m1 k h))
      · exact .inr (.inr h)
    · exact .inr (mm k ⟨0, _, hl0, h⟩)
  · refine ⟨t2.gl, fun k o q g => ?_, fun k o b q g => ?_, fun k k' o o' b q1 q2 g1 g2 => ?_, t2.lt⟩
    · rw [l3] at q
      by_cases e : k = 0
      · rw [if_pos e] at q; cases q; subst e
        exact t2.none_ 1 _ hd1 g
      · rw [if_neg e] at q; cases q
    · rw [l3] at q
      by_cases e : k = 0
      · rw [if_pos e] at q; cases q; subst e
        obtain ⟨r1, cs, E, r2, r3, r4, r5⟩ := t2.blk 1 _ b hd1 g
        refine ⟨r1, cs, E, r2, r3, r4, fun i es j c z1 z2 => ?_⟩
        obtain ⟨v, hv, hr⟩ := r5 i es j c z1 z2
        refine ⟨v, hv, ?_⟩
        simp only [Obj.els, List.getElem?_map] at z1
        cases hq : els'[i]? with
        | none => rw [hq] at z1; cases z1
        | some ps => rw [hq] at z1; cases z1; obtain ⟨p, _, rfl⟩ := pvL_get z2; exact hr
      · rw [if_neg e] at q; cases q
    · rw [l3] at q1 q2
      by_cases e : k = 0
      · by_cases e' : k' = 0
        · rw [e, e']
        · rw [if_neg e'] at q2; cases q2
      · rw [if_neg e] at q1; cases q1
  · refine ⟨fun k hk => c1.heap k hk, fun k hk => c2.imm k (c1.imm k hk), fun k s m hk hsm => ?_⟩
    have hk0 : k = 0 := by simp only [List.length_cons, List.length_nil] at hk; omega
    subst hk0
    have e : shape (number [Obj.arr s1 l', Obj.arr s2 els']) 1 = some (s, m) := by
      simp only [shape, l3, hl1] at hsm ⊢; exact hsm
    obtain ⟨m0, q1, q2, q3⟩ := c1.objs 1 s m (by simp) e
    refine ⟨m0, ?_, q2, fun hm => ?_⟩
    · simp only [shape, l2, l1] at q1 ⊢; exact q1
    · exact q3 hm
end Go.AL
end

section
namespace Go.Proofs.YthilboheomikjaaGreatDoor
open Go.AL
set_option linter.unusedVariables false
set_option maxRecDepth 100000

def F53 (k : Nat) (v0 : api_Re) : Option rex_Machine :=
  (F78 k ⟨[⟨[], false, [], false⟩], 0⟩ v0 0).bind fun y => if y.2.f_nodes.all (fun n => !n.f_x) = true then some ⟨y.2.f_nodes, y.1⟩ else none

theorem plain_nodes {l : List rex_node} (h : l.all (fun n => !n.f_x) = true) : l.map eg_rex_node = l.map e_rex_node := by
  refine List.map_congr_left fun x hx => ?_
  have := List.all_eq_true.1 h x hx
  simp only [Bool.not_eq_true'] at this
  simp only [eg_rex_node, e_rex_node, this, cond]

theorem F53_ok (k : Nat) (v0 : api_Re) (r : rex_Machine) (hF : F53 k v0 = some r) : Sim Tryz.prog GL0 53 [.val true (pvL (e_api_Re v0))] [] (.val false [.vp (e_rex_Machine r)]) [] := by
  refine sim_of [] Tryz.func53 rfl (by kernel_rfl) (by kernel_rfl) ?_
  show WA _ _ 18 _ _ _
  obtain ⟨y, hy, hF⟩ := bind_some hF
  obtain ⟨hc, hF⟩ := if_some hF
  obtain rfl := Option.some.inj hF
  refine WA.seq ?_
  refine WA.reg [1] [101] [(0, .obj 101)] (env' := [(1, .val false [.ptr 101 1 0 0])]) (os' := [(101, .box (pvL (e_api_Re v0)))]) (O := []) (by kernel_rfl) (sound _ _) trivial ?_
  refine WA.seq ?_
  refine WA.reg [1, 3] [101, 105] [(1, .obj 105)] (env' := [(1, .val false [.ptr 101 1 0 0]), (3, .val false [.ptr 105 1 0 0])]) (os' := [(101, .box (pvL (e_api_Re v0))), (105, .box (pvL [.sl [], .int .i64 0]))]) (O := []) (by kernel_rfl) (sound _ _) trivial ?_
  refine WA.seq ?_
  refine WA.reg [1, 3] [101, 105, 108] [(2, .obj 108)] (env' := [(1, .val false [.ptr 101 1 0 0]), (3, .val false [.ptr 105 1 0 0])]) (os' := [(101, .box (pvL (e_api_Re v0))), (105, .box [.arr 108 1, .pv (.int .i64 0)]), (108, .arr 3 [[.sl [], .bool false, .sl []]])]) (O := []) (by kernel_rfl) (sound _ _) trivial ?_
  refine WA.seq ?_
  refine WA.reg [3] [105, 108] [(3, .call [105, 108] (one (.int .i64 y.1)) [.box [.arr 1 y.2.f_nodes.length, .pv (.int .i64 y.2.f_first)], .arr 3 (y.2.f_nodes.map eg_rex_node)] [])] (env' := [(3, .val false [.ptr 105 1 0 0])]) (os' := [(105, .box [.arr 108 y.2.f_nodes.length, .pv (.int .i64 y.1)]), (108, .arr 3 (y.2.f_nodes.map eg_rex_node))])
    (O := [Sim Tryz.prog GL0 78 [.val false [.ptr 0 1 0 0], .val true (pvL (e_api_Re v0)), one (.int .i64 0)] [.box [.arr 1 1, .pv (.int .i64 0)], .arr 3 [[.sl [], .bool false, .sl []]]] (one (.int .i64 y.1)) [.box [.arr 1 y.2.f_nodes.length, .pv (.int .i64 y.2.f_first)], .arr 3 (y.2.f_nodes.map eg_rex_node)], ([105, 108] : List Nat).Nodup]) (by kernel_rfl) (sound _ _) ⟨F78_ok k _ _ _ _ hy, by decide, trivial⟩ ?_
  refine WA.seq ?_
  refine WA.reg [2] [105, 108] [] (env' := [(2, .val false [.ptr 105 1 0 0])]) (os' := [(105, .box [.arr 108 y.2.f_nodes.length, .pv (.int .i64 y.1)]), (108, .arr 3 (y.2.f_nodes.map eg_rex_node))]) (O := []) (by kernel_rfl) (sound _ _) trivial ?_
  refine WA.freezeM 105 108 2 (s := 3) (n := y.2.f_nodes.length) (els := y.2.f_nodes.map eg_rex_node) (p := .int .i64 y.1) rfl rfl rfl (by rw [List.length_map]) (by decide) ?_
  rw [plain_nodes hc]
  refine WA.ret ?_
  exact out_ret (.val false [.vp (e_rex_Machine ⟨y.2.f_nodes, y.1⟩)]) [] (by kernel_rfl) (by kernel_rfl) (by kernel_rfl) (by kernel_rfl) (by decide) rfl rfl

def F54 (k : Nat) (v0 : rex_Machine) : Option (List Int) :=
  if (v0.f_nodes.length : Int) ≤ 1073741824 then (F79 k v0 [] (List.replicate v0.f_nodes.length false) v0.f_first).bind fun y => some y.1 else none

theorem F54_ok (k : Nat) (v0 : rex_Machine) (r : List Int) (hF : F54 k v0 = some r) : Sim Tryz.prog GL0 54 [.val false [.vp (e_rex_Machine v0)]] [] (one (.sl (r.map (eInt .i64)))) [] := by
  refine sim_of [] Tryz.func54 rfl (by kernel_rfl) (by kernel_rfl) ?_
  show WA _ _ 15 _ _ _
  obtain ⟨hc, hF⟩ := if_some hF
  obtain ⟨y, hy, hF⟩ := bind_some hF
  obtain rfl := Option.some.inj hF
  refine WA.seq ?_
  refine WA.reg [0] [] [] (env' := [(0, .val false [.vp (e_rex_Machine v0)])]) (os' := []) (O := []) (by kernel_rfl) (sound _ _) trivial ?_
  refine WA.seq ?_
  have hl : (List.replicate (Int.toNat ((v0.f_nodes.map e_rex_node).length : Int)) [PV.bool false]) = (List.replicate v0.f_nodes.length false).map eBool := by
    rw [List.length_map, Int.toNat_natCast, List.map_replicate]; rfl
  have hn : Int.toNat ((v0.f_nodes.map e_rex_node).length : Int) = (List.replicate v0.f_nodes.length false).length := by simp
  refine WA.regD (by kernel_rfl) [2] [] [(6, .obj 109), (11, .call [109] (one (.sl (y.1.map (eInt .i64)))) [.arr 1 (y.2.map eBool)] [])] (env' := [(2, one (.sl (y.1.map (eInt .i64))))]) (os' := [])
    (O := [((v0.f_nodes.map e_rex_node).length : Int) = (v0.f_nodes.map e_rex_node).length, (0 : Int) ≤ ((v0.f_nodes.map e_rex_node).length : Int), ((v0.f_nodes.map e_rex_node).length : Int) ≤ 1073741824,
      Sim Tryz.prog GL0 79 [.val false [.vp (e_rex_Machine v0)], one .nils, .val false [.arr 0 (Int.toNat ((v0.f_nodes.map e_rex_node).length : Int))], one (.int .i64 v0.f_first)] [.arr 1 (List.replicate (Int.toNat ((v0.f_nodes.map e_rex_node).length : Int)) [PV.bool false])] (one (.sl (y.1.map (eInt .i64)))) [.arr 1 (y.2.map eBool)], ([109] : List Nat).Nodup])
    (by kernel_rfl) (by kernel_rfl) (sound _ _) ⟨rfl, by omega, by simpa using hc, ?_, by decide, trivial⟩ ?_
  · rw [hl]
    exact sim_nilnew (List.length_map _).symm ⟨trivial, trivial⟩ ⟨trivial, trivial⟩ (F79_ok k _ _ _ _ _ hy (n1 := 0) rfl hn)
  · refine WA.ret ?_
    exact out_ret (one (.sl (y.1.map (eInt .i64)))) [] (by kernel_rfl) (by kernel_rfl) (by kernel_rfl) (by kernel_rfl) (by decide) rfl rfl
end Go.Proofs.YthilboheomikjaaGreatDoor
end

section
namespace Go.Proofs.YthilboheomikjaaGreatDoor
open Go.AL Go.Lib
set_option linter.unusedVariables false
set_option linter.unusedSimpArgs false
set_option maxRecDepth 100000

def inR (l : List api_Range) (c : Int) : Prop := ∃ r ∈ l, r.f_Lo ≤ c ∧ c ≤ r.f_Hi

def Pow (P : List Int → Prop) : Nat → List Int → Prop
  | 0, w => w = []
  | n + 1, w => ∃ u v, w = u ++ v ∧ P u ∧ Pow P n v

/-! ### what a pattern matches -/
mutual
def Lang : api_Re → List Int → Prop
  | ⟨k, st, l, mn, mx⟩ => fun w => (k = 1 ∧ ∃ c, w = [c] ∧ inR st c) ∨ (k = 2 ∧ LSeq l w) ∨ (k = 3 ∧ LAlt l w) ∨ (k = 4 ∧ ∃ n : Nat, mn ≤ n ∧ (mx < 0 ∨ (n : Int) ≤ mx) ∧ Pow (LHd l) n w)
def LSeq : List api_Re → List Int → Prop
  | [] => fun w => w = []
  | x :: l => fun w => ∃ u v, w = u ++ v ∧ Lang x u ∧ LSeq l v
def LAlt : List api_Re → List Int → Prop
  | [] => fun _ => False
  | x :: l => fun w => Lang x w ∨ LAlt l w
def LHd : List api_Re → List Int → Prop
  | [] => fun _ => False
  | x :: _ => fun w => Lang x w
end

/-- such patterns as a machine is made of -/
def WF0 (r : api_Re) : Prop := (r.f_Kind = 1 ∨ r.f_Kind = 2 ∨ r.f_Kind = 3 ∨ r.f_Kind = 4) ∧ (r.f_Kind = 4 → r.f_L.length = 1 ∧ 0 ≤ r.f_Min ∧ r.f_Min ≤ 20 ∧ r.f_Max ≤ 20 ∧ (r.f_Max = -1 ∨ r.f_Min ≤ r.f_Max)) ∧ r.f_Set.length ≤ 1000 ∧ r.f_L.length ≤ 1000
mutual
def WF : api_Re → Prop
  | ⟨k, st, l, mn, mx⟩ => WF0 ⟨k, st, l, mn, mx⟩ ∧ WFL l
def WFL : List api_Re → Prop
  | [] => True
  | x :: l => WF x ∧ WFL l
end
mutual
/-- rounds that a walk over a pattern takes -/
def fu : api_Re → Nat
  | ⟨k, st, l, mn, mx⟩ => 1 + max (l.length + 30) (fuL l)
def fuL : List api_Re → Nat
  | [] => 0
  | x :: l => max (fu x) (fuL l)
end
mutual
/-- places that a pattern's machine takes -/
def cnt : api_Re → Nat
  | ⟨k, st, l, mn, mx⟩ => if k = 1 then 1 else if k = 2 then cntL l else if k = 3 then cntL l + 1 else if mx < 0 then (mn.toNat + 1) * cntL l + 1 else mx.toNat * cntL l + (mx - mn).toNat
def cntL : List api_Re → Nat
  | [] => 0
  | x :: l => cnt x + cntL l
end

inductive Acc (N : List rex_node) : Nat → Nat → List Int → Prop
  | fin (n : Nat) : Acc N n 0 []
  | set {n i : Nat} {x : rex_node} {c : Int} {t : Nat} {w : List Int} : N[i]? = some x → x.f_some = true → inR x.f_set c → x.f_next = [(t : Int)] → Acc N n t w → Acc N (n + 1) i (c :: w)
  | eps {n i : Nat} {x : rex_node} {t : Nat} {w : List Int} : i ≠ 0 → N[i]? = some x → x.f_some = false → (t : Int) ∈ x.f_next → Acc N n t w → Acc N (n + 1) i w

theorem Acc.mono {N : List rex_node} {n i : Nat} {w : List Int} (h : Acc N n i w) : ∀ {m : Nat}, n ≤ m → Acc N m i w := by
  induction h with
  | fin n => exact fun _ => .fin _
  | set h1 h2 h3 h4 _ ih => intro m hm; obtain ⟨m, rfl⟩ : ∃ q, m = q + 1 := ⟨m - 1, by omega⟩; exact .set h1 h2 h3 h4 (ih (by omega))
  | eps h0 h1 h2 h3 _ ih => intro m hm; obtain ⟨m, rfl⟩ : ∃ q, m = q + 1 := ⟨m - 1, by omega⟩; exact .eps h0 h1 h2 h3 (ih (by omega))

theorem Acc.inv {N : List rex_node} {n i : Nat} {w : List Int} (h : Acc N n i w) : (i = 0 ∧ w = []) ∨
    (∃ m x c t v, n = m + 1 ∧ w = c :: v ∧ N[i]? = some x ∧ x.f_some = true ∧ inR x.f_set c ∧ x.f_next = [((t : Nat) : Int)] ∧ Acc N m t v) ∨
    (∃ m x t, n = m + 1 ∧ i ≠ 0 ∧ N[i]? = some x ∧ x.f_some = false ∧ ((t : Nat) : Int) ∈ x.f_next ∧ Acc N m t w) := by
  cases h with
  | fin => exact .inl ⟨rfl, rfl⟩
  | set h1 h2 h3 h4 h5 => exact .inr (.inl ⟨_, _, _, _, _, rfl, rfl, h1, h2, h3, h4, h5⟩)
  | eps h0 h1 h2 h3 h4 => exact .inr (.inr ⟨_, _, _, rfl, h0, h1, h2, h3, h4⟩)

/-- a place is well made -/
def Good (n : Nat) (x : rex_node) : Prop := x.f_x = false ∧ (∀ t ∈ x.f_next, ∃ j : Nat, t = (j : Int) ∧ j < n) ∧ (x.f_some = true → ∃ t, x.f_next = [t]) ∧ (x.f_some = false → x.f_set = []) ∧ x.f_next.length ≤ 1000 ∧ x.f_set.length ≤ 1000

def Agree (a b : Nat) (N M : List rex_node) : Prop := ∀ i, a ≤ i → i < b → M[i]? = N[i]?

/-- places were put behind; f is the first of what P goes through, z 'z' -/
structure Added (N N' : List rex_node) (f z : Nat) (P : List Int → Prop) (c : Nat) : Prop where
  le : N.length ≤ N'.length
  cnt : N'.length ≤ N.length + c
  old : ∀ i, i < N.length → N'[i]? = N[i]?
  good : ∀ i x, N.length ≤ i → N'[i]? = some x → Good N'.length x
  lt : f < N'.length
  sound : ∀ M, Agree N.length N'.length N' M → ∀ n w, Acc M n f w → ∃ u v m, w = u ++ v ∧ P u ∧ m ≤ n ∧ Acc M m z v
  full : ∀ M, Agree N.length N'.length N' M → ∀ u v m, P u → Acc M m z v → ∃ n, Acc M n f (u ++ v)

theorem Good.mono {n m : Nat} {x : rex_node} (h : Good n x) (hm : n ≤ m) : Good m x :=
  ⟨h.1, fun t ht => by obtain ⟨j, e, hj⟩ := h.2.1 t ht; exact ⟨j, e, Nat.lt_of_lt_of_le hj hm⟩, h.2.2⟩

theorem Added.refl {N : List rex_node} {z : Nat} (h : z < N.length) : Added N N z z (fun w => w = []) 0 :=
  ⟨Nat.le_refl _, Nat.le_refl _, fun _ _ => rfl, fun i x hi hx => by have := (List.getElem?_eq_some_iff.1 hx).1; omega, h, fun M _ n w ha => ⟨[], w, n, rfl, rfl, Nat.le_refl _, ha⟩,
    fun M _ u v m hu ha => by subst hu; exact ⟨m, ha⟩⟩

def Cat (P Q : List Int → Prop) (w : List Int) : Prop := ∃ u v, w = u ++ v ∧ P u ∧ Q v

/-- first what goes z 'z', then what goes z its first -/
theorem Added.comp {N N1 N2 : List rex_node} {f1 f2 z : Nat} {P Q : List Int → Prop} {c d : Nat} (h : Added N N1 f1 z P c) (g : Added N1 N2 f2 f1 Q d) : Added N N2 f2 z (Cat Q P) (c + d) := by
  have ag : ∀ M, Agree N.length N2.length N2 M → Agree N.length N1.length N1 M ∧ Agree N1.length N2.length N2 M := fun M hM =>
    ⟨fun i h1 h2 => by rw [hM i h1 (Nat.lt_of_lt_of_le h2 g.le), g.old i h2], fun i h1 h2 => hM i (Nat.le_trans h.le h1) h2⟩
  refine ⟨Nat.le_trans h.le g.le, by have := h.cnt; have := g.cnt; omega, fun i hi => by rw [g.old i (Nat.lt_of_lt_of_le hi h.le), h.old i hi], fun i x hi hx => ?_, g.lt, fun M hM n w ha => ?_, fun M hM u v m hu ha => ?_⟩
  · rcases Nat.lt_or_ge i N1.length with hl | hl
    · rw [g.old i hl] at hx; exact (h.good i x hi hx).mono g.le
    · exact g.good i x hl hx
  · obtain ⟨a1, a2⟩ := ag M hM
    obtain ⟨u, v, m, rfl, hq, hm, hv⟩ := g.sound M a2 n w ha
    obtain ⟨u', v', m', rfl, hp, hm', hv'⟩ := h.sound M a1 m v hv
    exact ⟨u ++ u', v', m', (List.append_assoc ..).symm, ⟨u, u', rfl, hq, hp⟩, Nat.le_trans hm' hm, hv'⟩
  · obtain ⟨a1, a2⟩ := ag M hM
    obtain ⟨p, q, rfl, hp, hq⟩ := hu
    obtain ⟨n1, h1⟩ := h.full M a1 q v m hq ha
    obtain ⟨n2, h2⟩ := g.full M a2 p (q ++ v) n1 hp h1
    exact ⟨n2, by rw [List.append_assoc]; exact h2⟩

theorem Added.congr {N N' : List rex_node} {f z : Nat} {P Q : List Int → Prop} {c d : Nat} (h : Added N N' f z P c) (hq : ∀ w, P w ↔ Q w) (hd : c ≤ d) : Added N N' f z Q d :=
  ⟨h.le, Nat.le_trans h.cnt (by omega), h.old, h.good, h.lt, fun M hM n w ha => by obtain ⟨u, v, m, e, hu, r⟩ := h.sound M hM n w ha; exact ⟨u, v, m, e, (hq u).1 hu, r⟩, fun M hM u v m hu ha => h.full M hM u v m ((hq u).2 hu) ha⟩

theorem F105_eq {k : Nat} {N : List rex_node} {fst : Int} {x : rex_node} (h : N.length + 1 ≤ 1073741824) : F105 k ⟨N, fst⟩ x = some ((N.length : Int), ⟨N ++ [x], fst⟩) := by
  unfold F105
  simp only [List.length_append, List.length_cons, List.length_nil, Nat.zero_add]
  rw [if_pos h, w64_id (by omega) (by omega)]
  congr 2; omega

theorem agree_last {N : List rex_node} {x : rex_node} {M : List rex_node} (h : Agree N.length (N ++ [x]).length (N ++ [x]) M) : M[N.length]? = some x := by
  rw [h N.length (Nat.le_refl _) (by simp)]; simp

/-- a set -/
theorem added_set {N : List rex_node} {z : Nat} {s : List api_Range} (hs : s.length ≤ 1000) (h : z < N.length) (h0 : 1 ≤ N.length) : Added N (N ++ [⟨s, true, [(z : Int)], false⟩]) N.length z (fun w => ∃ c, w = [c] ∧ inR s c) 1 := by
  refine ⟨by simp, by simp, fun i hi => List.getElem?_append_left hi, fun i x hi hx => ?_, by simp, fun M hM n w ha => ?_, fun M hM u v m hu ha => ?_⟩
  · have : i = N.length := by have := (List.getElem?_eq_some_iff.1 hx).1; simp at this; omega
    subst this
    simp at hx; subst hx
    exact ⟨rfl, (fun t ht => by simp at ht; exact ⟨z, ht, by simp; omega⟩), (fun _ => ⟨_, rfl⟩), (fun h => by cases h), by simp, hs⟩
  · have hx := agree_last hM
    rcases ha.inv with ⟨e, _⟩ | ⟨m, x, c, t, v, rfl, rfl, h1, h2, h3, h4, h5⟩ | ⟨m, x, t, rfl, _, h1, h2, h3, _⟩
    · omega
    · rw [hx] at h1; cases h1
      simp only [List.cons.injEq, and_true, Int.natCast_inj] at h4
      subst h4
      exact ⟨[c], v, m, rfl, ⟨c, rfl, h3⟩, Nat.le_succ _, h5⟩
    · rw [hx] at h1; cases h1; cases h2
  · obtain ⟨c, rfl, hc⟩ := hu
    exact ⟨m + 1, .set (agree_last hM) rfl hc rfl ha⟩

/-- a place that stands for others -/
theorem acc_eps {M : List rex_node} {N : List rex_node} {next : List Int} (h0 : 1 ≤ N.length) (hx : M[N.length]? = some ⟨[], false, next, false⟩) {n : Nat} {w : List Int} (ha : Acc M n N.length w) : ∃ m t, n = m + 1 ∧ ((t : Nat) : Int) ∈ next ∧ Acc M m t w := by
  rcases ha.inv with ⟨e, _⟩ | ⟨m, x, c, t, v, rfl, rfl, h1, h2, h3, h4, h5⟩ | ⟨m, x, t, rfl, _, h1, h2, h3, h4⟩
  · omega
  · rw [hx] at h1; cases h1; cases h2
  · rw [hx] at h1; cases h1; exact ⟨m, t, rfl, h3, h4⟩

theorem agree_left {a b c : Nat} {N M : List rex_node} {x : rex_node} (hb : b ≤ N.length) (h : Agree a c (N ++ [x]) M) (hc : b ≤ c) : Agree a b N M := fun i h1 h2 => by
  rw [h i h1 (by omega), List.getElem?_append_left (by omega)]

theorem mem_two {t a b : Nat} : ((t : Nat) : Int) ∈ [(a : Int), (b : Int)] ↔ t = a ∨ t = b := by
  simp only [List.mem_cons, List.not_mem_nil, or_false]; omega
theorem mem_one {t a : Nat} : ((t : Nat) : Int) ∈ [(a : Int)] ↔ t = a := by
  simp only [List.mem_cons, List.not_mem_nil, or_false]; omega

/-- either straight on, or first through what was added -/
theorem added_opt {N N1 : List rex_node} {f b : Nat} {Q : List Int → Prop} {c : Nat} (h0 : 1 ≤ N.length) (hb : b < N.length) (h : Added N N1 f b Q c) :
    Added N (N1 ++ [⟨[], false, [(b : Int), (f : Int)], false⟩]) N1.length b (fun w => w = [] ∨ Q w) (c + 1) := by
  have hle := h.le
  refine ⟨by simp; omega, by have := h.cnt; simp; omega, fun i hi => by rw [List.getElem?_append_left (by omega), h.old i hi], fun i x hi hx => ?_, by simp, fun M hM n w ha => ?_, fun M hM u v m hu ha => ?_⟩
  · rcases Nat.lt_or_ge i N1.length with hl | hl
    · rw [List.getElem?_append_left hl] at hx; exact (h.good i x hi hx).mono (by simp)
    · have : i = N1.length := by have := (List.getElem?_eq_some_iff.1 hx).1; simp at this; omega
      subst this
      simp at hx; subst hx
      have := h.lt
      exact ⟨rfl, (fun t ht => by simp at ht; rcases ht with rfl | rfl; exact ⟨b, rfl, by simp; omega⟩; exact ⟨f, rfl, by simp; omega⟩), (fun h => by cases h), (fun _ => rfl), by simp, by simp⟩
  · have hx : M[N1.length]? = some ⟨[], false, [(b : Int), (f : Int)], false⟩ := by rw [hM _ hle (by simp)]; simp
    obtain ⟨m, t, rfl, ht, hv⟩ := acc_eps (N := N1) (by omega) hx ha
    rcases mem_two.1 ht with rfl | rfl
    · exact ⟨[], w, m, rfl, .inl rfl, by omega, hv⟩
    · obtain ⟨u, v, m', e, hq, hm, hv⟩ := h.sound M (agree_left (Nat.le_refl _) hM (by simp)) m w hv
      exact ⟨u, v, m', e, .inr hq, by omega, hv⟩
  · have hx : M[N1.length]? = some ⟨[], false, [(b : Int), (f : Int)], false⟩ := by rw [hM _ hle (by simp)]; simp
    rcases hu with rfl | hu
    · exact ⟨m + 1, .eps (by omega) hx rfl (by simp) ha⟩
    · obtain ⟨n, hn⟩ := h.full M (agree_left (Nat.le_refl _) hM (by simp)) u v m hu ha
      exact ⟨n + 1, .eps (by omega) hx rfl (by simp) hn⟩

/-- some, side by side -/
structure Side (N N' : List rex_node) (fs : List Int) (z : Nat) (P : List Int → Prop) (c : Nat) : Prop where
  le : N.length ≤ N'.length
  cnt : N'.length ≤ N.length + c
  old : ∀ i, i < N.length → N'[i]? = N[i]?
  good : ∀ i x, N.length ≤ i → N'[i]? = some x → Good N'.length x
  lt : ∀ t ∈ fs, ∃ j : Nat, t = (j : Int) ∧ j < N'.length
  sound : ∀ M, Agree N.length N'.length N' M → ∀ n w (j : Nat), (j : Int) ∈ fs → Acc M n j w → ∃ u v m, w = u ++ v ∧ P u ∧ m ≤ n ∧ Acc M m z v
  full : ∀ M, Agree N.length N'.length N' M → ∀ u v m, P u → Acc M m z v → ∃ (j : Nat) (n : Nat), (j : Int) ∈ fs ∧ Acc M n j (u ++ v)

theorem Side.nil (N : List rex_node) (z : Nat) : Side N N [] z (fun _ => False) 0 :=
  ⟨Nat.le_refl _, Nat.le_refl _, fun _ _ => rfl, fun i x hi hx => by have := (List.getElem?_eq_some_iff.1 hx).1; omega, fun _ h => by simp at h, fun _ _ _ _ _ h => by simp at h, fun _ _ _ _ _ h => h.elim⟩

theorem Side.snoc {N N1 N2 : List rex_node} {fs : List Int} {f z : Nat} {P Q : List Int → Prop} {c d : Nat} (h : Side N N1 fs z P c) (g : Added N1 N2 f z Q d) : Side N N2 (fs ++ [(f : Int)]) z (fun w => P w ∨ Q w) (c + d) := by
  have ag : ∀ M, Agree N.length N2.length N2 M → Agree N.length N1.length N1 M ∧ Agree N1.length N2.length N2 M := fun M hM =>
    ⟨fun i h1 h2 => by rw [hM i h1 (Nat.lt_of_lt_of_le h2 g.le), g.old i h2], fun i h1 h2 => hM i (Nat.le_trans h.le h1) h2⟩
  refine ⟨Nat.le_trans h.le g.le, by have := h.cnt; have := g.cnt; omega, fun i hi => by rw [g.old i (Nat.lt_of_lt_of_le hi h.le), h.old i hi], fun i x hi hx => ?_, fun t ht => ?_, fun M hM n w j hj ha => ?_, fun M hM u v m hu ha => ?_⟩
  · rcases Nat.lt_or_ge i N1.length with hl | hl
    · rw [g.old i hl] at hx; exact (h.good i x hi hx).mono g.le
    · exact g.good i x hl hx
  · rcases List.mem_append.1 ht with ht | ht
    · obtain ⟨j, e, hj⟩ := h.lt t ht; exact ⟨j, e, Nat.lt_of_lt_of_le hj g.le⟩
    · simp at ht; exact ⟨f, ht, g.lt⟩
  · obtain ⟨a1, a2⟩ := ag M hM
    rcases List.mem_append.1 hj with hj | hj
    · obtain ⟨u, v, m, e, hu, r⟩ := h.sound M a1 n w j hj ha; exact ⟨u, v, m, e, .inl hu, r⟩
    · have hj := mem_one.1 hj; subst hj
      obtain ⟨u, v, m, e, hu, r⟩ := g.sound M a2 n w ha; exact ⟨u, v, m, e, .inr hu, r⟩
  · obtain ⟨a1, a2⟩ := ag M hM
    rcases hu with hu | hu
    · obtain ⟨j, n, hj, hn⟩ := h.full M a1 u v m hu ha; exact ⟨j, n, List.mem_append.2 (.inl hj), hn⟩
    · obtain ⟨n, hn⟩ := g.full M a2 u v m hu ha; exact ⟨f, n, by simp, hn⟩

theorem Side.close {N N1 : List rex_node} {fs : List Int} {z : Nat} {P : List Int → Prop} {c : Nat} (h0 : 1 ≤ N.length) (hl : fs.length ≤ 1000) (h : Side N N1 fs z P c) : Added N (N1 ++ [⟨[], false, fs, false⟩]) N1.length z P (c + 1) := by
  have hle := h.le
  refine ⟨by simp; omega, by have := h.cnt; simp; omega, fun i hi => by rw [List.getElem?_append_left (by omega), h.old i hi], fun i x hi hx => ?_, by simp, fun M hM n w ha => ?_, fun M hM u v m hu ha => ?_⟩
  · rcases Nat.lt_or_ge i N1.length with hl | hl
    · rw [List.getElem?_append_left hl] at hx; exact (h.good i x hi hx).mono (by simp)
    · have : i = N1.length := by have := (List.getElem?_eq_some_iff.1 hx).1; simp at this; omega
      subst this
      simp at hx; subst hx
      exact ⟨rfl, (fun t ht => by obtain ⟨j, e, hj⟩ := h.lt t ht; exact ⟨j, e, by simp; omega⟩), (fun h => by cases h), (fun _ => rfl), by assumption, by simp⟩
  · have hx : M[N1.length]? = some ⟨[], false, fs, false⟩ := by rw [hM _ hle (by simp)]; simp
    obtain ⟨m, t, rfl, ht, hv⟩ := acc_eps (N := N1) (by omega) hx ha
    obtain ⟨u, v, m', e, hq, hm, hv⟩ := h.sound M (agree_left (Nat.le_refl _) hM (by simp)) m w t ht hv
    exact ⟨u, v, m', e, hq, by omega, hv⟩
  · have hx : M[N1.length]? = some ⟨[], false, fs, false⟩ := by rw [hM _ hle (by simp)]; simp
    obtain ⟨j, n, hj, hn⟩ := h.full M (agree_left (Nat.le_refl _) hM (by simp)) u v m hu ha
    exact ⟨n + 1, .eps (by omega) hx rfl hj hn⟩

/-- again and again -/
theorem added_star {N N2 : List rex_node} {f z : Nat} {P : List Int → Prop} {c : Nat} (h0 : 1 ≤ N.length) (hz : z < N.length) (h : Added (N ++ [⟨[], false, [(z : Int)], true⟩]) N2 f N.length P c) :
    Added N (N2.set N.length ⟨[], false, [(z : Int), (f : Int)], false⟩) N.length z (fun w => ∃ n, Pow P n w) (c + 1) := by
  have hle := h.le
  simp only [List.length_append, List.length_cons, List.length_nil] at hle
  have hlt := h.lt
  have hl : (N2.set N.length ⟨[], false, [(z : Int), (f : Int)], false⟩).length = N2.length := List.length_set
  have at_ : ∀ M, Agree N.length N2.length (N2.set N.length ⟨[], false, [(z : Int), (f : Int)], false⟩) M → M[N.length]? = some ⟨[], false, [(z : Int), (f : Int)], false⟩ := fun M hM => by
    rw [hM _ (Nat.le_refl _) (by omega), List.getElem?_set, if_pos rfl, if_pos (by omega)]
  have ag : ∀ M, Agree N.length N2.length (N2.set N.length ⟨[], false, [(z : Int), (f : Int)], false⟩) M → Agree (N ++ [(⟨[], false, [(z : Int)], true⟩ : rex_node)]).length N2.length N2 M := fun M hM i h1 h2 => by
    simp only [List.length_append, List.length_cons, List.length_nil] at h1
    rw [hM i (by omega) h2, List.getElem?_set, if_neg (by omega)]
  refine ⟨by rw [hl]; omega, by rw [hl]; have := h.cnt; simp only [List.length_append, List.length_cons, List.length_nil] at this; omega, fun i hi => ?_, fun i x hi hx => ?_, by rw [hl]; omega, fun M hM => ?_, fun M hM u v m hu ha => ?_⟩
  · rw [List.getElem?_set, if_neg (by omega), h.old i (by simp; omega), List.getElem?_append_left hi]
  · rw [hl]
    rw [List.getElem?_set] at hx
    split at hx
    · rw [if_pos (by omega)] at hx; cases hx
      exact ⟨rfl, (fun t ht => by simp at ht; rcases ht with rfl | rfl; exact ⟨z, rfl, by omega⟩; exact ⟨f, rfl, hlt⟩), (fun h => by cases h), (fun _ => rfl), by simp, by simp⟩
    · exact h.good i x (by simp; omega) hx
  · rw [hl] at hM
    intro n
    induction n using Nat.strongRecOn with
    | ind n ih =>
      intro w ha
      obtain ⟨m, t, rfl, ht, hv⟩ := acc_eps h0 (at_ M hM) ha
      rcases mem_two.1 ht with rfl | rfl
      · exact ⟨[], w, m, rfl, ⟨0, rfl⟩, by omega, hv⟩
      · obtain ⟨u, v, m', rfl, hp, hm, hv⟩ := h.sound M (ag M hM) m w hv
        obtain ⟨u', v', m2, rfl, ⟨k, hk⟩, hm2, hv2⟩ := ih m' (by omega) v hv
        exact ⟨u ++ u', v', m2, (List.append_assoc ..).symm, ⟨k + 1, u, u', rfl, hp, hk⟩, by omega, hv2⟩
  · rw [hl] at hM
    obtain ⟨k, hk⟩ := hu
    induction k generalizing u with
    | zero => cases hk; exact ⟨m + 1, .eps (t := z) (by omega) (at_ M hM) rfl (by simp) ha⟩
    | succ k ih =>
      obtain ⟨u1, u2, rfl, hp, hk⟩ := hk
      obtain ⟨n1, h1⟩ := ih u2 hk
      obtain ⟨n2, h2⟩ := h.full M (ag M hM) u1 (u2 ++ v) n1 hp h1
      exact ⟨n2 + 1, .eps (t := f) (by omega) (at_ M hM) rfl (by simp) (by rw [List.append_assoc]; exact h2)⟩
end Go.Proofs.YthilboheomikjaaGreatDoor
end
