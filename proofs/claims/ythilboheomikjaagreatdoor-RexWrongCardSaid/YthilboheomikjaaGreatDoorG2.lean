import Derived.Test.YthilboheomikjaaGreatDoorG1
namespace Go.Proofs.YthilboheomikjaaGreatDoor
open Go.AL
set_option linter.unusedVariables false
set_option linter.unusedSimpArgs false
set_option maxRecDepth 100000

/-! entrepot entrepotlaw10.Few -/
def F21 (k : Nat) (v0 : api_Re) : Option Bool :=
  (F41 k v0 30).bind fun y101 => (some (decide (y101 ≤ 300)))
theorem F21_ok (k : Nat) (v0 : api_Re) (r : Bool) (hF : F21 k v0 = some r) : Sim Tryz.prog GL0 21 [.val true (pvL (e_api_Re v0))] [] (one (.bool r)) [] := by
  refine sim_of [] Tryz.func21 rfl (by kernel_rfl) (by kernel_rfl) ?_
  show WA _ _ 6 _ _ _
  refine WA.seq ?_
  refine WA.reg [1] [101] [(0, .obj 101)] (env' := [(1, .val false [.ptr 101 1 0 0])]) (os' := [(101, .box (pvL (e_api_Re v0)))]) (O := []) (by kernel_rfl) (sound _ _) trivial ?_
  refine WA.seq ?_
  obtain ⟨y101, hy101, hF⟩ := bind_some hF
  refine WA.reg [2] [] [(1, .callR [] (one (.int .i64 y101)))] (env' := [(2, one (.bool (decide (y101 ≤ 300))))]) (os' := []) (O := [Sim Tryz.prog GL0 41 [.val true (pvL (e_api_Re v0)), one (.int .i64 30)] [] (one (.int .i64 y101)) [], ([] : List Nat).Nodup]) (by kernel_rfl) (sound _ _) ⟨(F41_ok k _ _ _ hy101), (by decide), trivial⟩ ?_
  refine WA.ret ?_
  obtain rfl := Option.some.inj hF
  exact out_ret (one (.bool (decide (y101 ≤ 300)))) [] (by kernel_rfl) (by kernel_rfl) (by kernel_rfl) (by kernel_rfl) (by decide) rfl rfl
/-! entrepot entrepotref10.Size -/
def F20_j3 (v124 : Int) : Option Int :=
  (some (mn (w64 (v124 + 1)) 1000))
def F20_b1 (R20 : api_Re → Option Int) (self1 : Int → Int → Option Int) (v0 : api_Re) (v113 : Int) (v114 : Int) : Option Int :=
  (cond (decide (v114 < (v0.f_L.length : Int))) ((idxL v0.f_L v114).bind fun y116 => (R20 y116).bind fun y117 => (self1 (w64 (v113 + y117)) (w64 (v114 + 1)))) ((F20_j3 v113)))
def F20_l1 (R20 : api_Re → Option Int) (v0 : api_Re) : Nat → Int → Int → Option Int
  | 0, _, _ => none
  | m_ + 1, v113, v114 => F20_b1 R20 (F20_l1 R20 v0 m_) v0 v113 v114
def F20_j2 (R20 : api_Re → Option Int) (v0 : api_Re) (v121 : Int) : Option Int :=
  (idxL v0.f_L 0).bind fun y122 => (R20 y122).bind fun y123 => (F20_j3 (w64 (y123 * (mn (mx v121 1) 1000))))
def F20_j0 (R20 : api_Re → Option Int) (k : Nat) (v0 : api_Re) (v103 : Bool) : Option Int :=
  cond v103 ((F20_l1 R20 v0 k 0 0)) ((cond (v0.f_Kind == 4) ((cond (decide ((v0.f_L.length : Int) > 0)) (((cond (decide (v0.f_Max < 0)) ((F20_j2 R20 v0 (w64 (v0.f_Min + 1)))) ((F20_j2 R20 v0 v0.f_Max))))) ((F20_j3 0)))) ((F20_j3 0))))
def F20_b (R20 : api_Re → Option Int) (k : Nat) (v0 : api_Re) : Option Int :=
  ((((cond (v0.f_Kind == 1) ((some 1)) ((cond (v0.f_Kind == 2) ((F20_j0 R20 k v0 (v0.f_Kind == 2))) ((F20_j0 R20 k v0 (v0.f_Kind == 3)))))))))
theorem F20_b_ok (R20 : api_Re → Option Int) (IH20 : ∀ (v0 : api_Re) (r : Int), R20 v0 = some r → Sim Tryz.prog GL0 20 [.val true (pvL (e_api_Re v0))] [] (one (.int .i64 r)) []) (k : Nat) (v0 : api_Re) (r : Int) (hF : F20_b R20 k v0 = some r) : Sim Tryz.prog GL0 20 [.val true (pvL (e_api_Re v0))] [] (one (.int .i64 r)) [] := by
  refine sim_of [] Tryz.func20 rfl (by kernel_rfl) (by kernel_rfl) ?_
  show WA _ _ 53 _ _ _
  refine WA.seq ?_
  refine WA.reg [1] [101] [(0, .obj 101)] (env' := [(1, .val false [.ptr 101 1 0 0])]) (os' := [(101, .box (pvL (e_api_Re v0)))]) (O := []) (by kernel_rfl) (sound _ _) trivial ?_
  refine WA.seq ?_
  refine WA.reg [1, 3] [101] [] (env' := [(1, .val false [.ptr 101 1 0 0]), (3, one (.int .i64 0))]) (os' := [(101, .box (pvL (e_api_Re v0)))]) (O := []) (by kernel_rfl) (sound _ _) trivial ?_
  refine WA.join (fun s_ => ∃ (v124 : Int), pickE s_.env [3] = [(3, one (.int .i64 v124))] ∧ pickE s_.os [] = [] ∧ F20_j3 v124 = some r) ?_ ?_
  · rintro s_ ⟨v124, he, ho, hF⟩
    refine WA.keep _ _ he ho ?_
    clear he ho
    refine WA.seq ?_
    refine WA.reg [2] [] [] (env' := [(2, one (.int .i64 (mn (w64 (v124 + 1)) 1000)))]) (os' := []) (O := []) (by kernel_rfl) (sound _ _) trivial ?_
    refine WA.ret ?_
    obtain rfl := Option.some.inj hF
    exact out_ret (one (.int .i64 (mn (w64 (v124 + 1)) 1000))) [] (by kernel_rfl) (by kernel_rfl) (by kernel_rfl) (by kernel_rfl) (by decide) rfl rfl
  · refine WA.seq ?_
    refine WA.reg [1, 3, 7] [101] [] (env' := [(1, .val false [.ptr 101 1 0 0]), (3, one (.int .i64 0)), (7, one (.int .i64 v0.f_Kind))]) (os' := [(101, .box (pvL (e_api_Re v0)))]) (O := []) (by kernel_rfl) (sound _ _) trivial ?_
    refine WA.block ?_
    refine WA.seq ?_
    refine WA.reg [1, 3, 7, 8] [101] [] (env' := [(1, .val false [.ptr 101 1 0 0]), (3, one (.int .i64 0)), (7, one (.int .i64 v0.f_Kind)), (8, one (.bool (v0.f_Kind == 1)))]) (os' := [(101, .box (pvL (e_api_Re v0)))]) (O := []) (by kernel_rfl) (sound _ _) trivial ?_
    refine WA.cond (b := (v0.f_Kind == 1)) rfl (fun hb101 => ?_) (fun hb101 => ?_)
    · have hF := cond_t hF hb101
      refine WA.seq ?_
      refine WA.reg [2] [] [] (env' := [(2, one (.int .i64 1))]) (os' := []) (O := []) (by kernel_rfl) (sound _ _) trivial ?_
      refine WA.ret ?_
      obtain rfl := Option.some.inj hF
      exact out_ret (one (.int .i64 1)) [] (by kernel_rfl) (by kernel_rfl) (by kernel_rfl) (by kernel_rfl) (by decide) rfl rfl
    · have hF := cond_f hF hb101
      refine WA.join (fun s_ => ∃ (v103 : Bool), pickE s_.env [1, 3, 7, 10] = [(1, .val false [.ptr 101 1 0 0]), (3, one (.int .i64 0)), (7, one (.int .i64 v0.f_Kind)), (10, one (.bool v103))] ∧ pickE s_.os [101] = [(101, .box (pvL (e_api_Re v0)))] ∧ F20_j0 R20 k v0 v103 = some r) ?_ ?_
      · rintro s_ ⟨v103, he, ho, hF⟩
        refine WA.keep _ _ he ho ?_
        clear he ho
        refine WA.cond (b := v103) rfl (fun hb104 => ?_) (fun hb104 => ?_)
        · have hF := cond_t hF hb104
          refine WA.seq ?_
          refine WA.reg [1, 3, 4] [101] [] (env' := [(1, .val false [.ptr 101 1 0 0]), (3, one (.int .i64 0)), (4, one (.int .i64 0))]) (os' := [(101, .box (pvL (e_api_Re v0)))]) (O := []) (by kernel_rfl) (sound _ _) trivial ?_
          refine WA.block ?_
          refine WA.loop (fun m s_ => ∃ (v113 : Int) (v114 : Int), pickE s_.env [1, 3, 4] = [(1, .val false [.ptr 101 1 0 0]), (3, one (.int .i64 v113)), (4, one (.int .i64 v114))] ∧ pickE s_.os [101] = [(101, .box (pvL (e_api_Re v0)))] ∧ F20_l1 R20 v0 m v113 v114 = some r) k ⟨0, 0, by kernel_rfl, by kernel_rfl, hF⟩ ?_
          clear hF
          rintro m1 s_ ⟨v113, v114, he, ho, hF⟩
          refine WA.keep _ _ he ho ?_
          clear he ho
          cases m1 with
          | zero => cases hF
          | succ m1 =>
            obtain ⟨self1, hself1⟩ : ∃ g, g = F20_l1 R20 v0 m1 := ⟨_, rfl⟩
            have hF : F20_b1 R20 self1 v0 v113 v114 = some r := by rw [hself1]; exact hF
            refine WA.seq ?_
            refine WA.seq ?_
            refine WA.regM (α := Int) (raw := ((es_api_Re v0.f_L).length : Int)) (can := (v0.f_L.length : Int)) (fun m_ => ([(1, .val false [.ptr 101 1 0 0]), (3, one (.int .i64 v113)), (4, one (.int .i64 v114)), (17, one (.bool (decide (v114 < m_))))], [(101, .box (pvL (e_api_Re v0)))], [])) ((by first | (simp only [List.length_map, List.length_append, List.length_cons, List.length_nil, List.length_set, List.length_replicate, List.length_take, List.length_drop, lens_api_Re]; done) | (simp only [List.length_map, List.length_append, List.length_cons, List.length_nil, List.length_set, List.length_replicate, List.length_take, List.length_drop, lens_api_Re]; omega) | omega)) [1, 3, 4, 17] [101] [] (env' := [(1, .val false [.ptr 101 1 0 0]), (3, one (.int .i64 v113)), (4, one (.int .i64 v114)), (17, one (.bool (decide (v114 < (v0.f_L.length : Int)))))]) (os' := [(101, .box (pvL (e_api_Re v0)))]) (O := []) (by kernel_rfl) (by kernel_rfl) (sound _ _) trivial ?_
            refine WA.cond (b := (decide (v114 < (v0.f_L.length : Int)))) rfl (fun hb115 => ?_) (fun hb115 => ?_)
            · have hF := cond_t hF hb115
              refine WA.skip ?_
              refine WA.seq ?_
              refine WA.block ?_
              obtain ⟨y116, hy116, hF⟩ := bind_some hF
              obtain ⟨y117, hy117, hF⟩ := bind_some hF
              refine WA.reg [1, 3, 4] [101] [(4, .cells (e_api_Re y116)), (6, .callR [] (one (.int .i64 y117)))] (env' := [(1, .val false [.ptr 101 1 0 0]), (3, one (.int .i64 (w64 (v113 + y117)))), (4, one (.int .i64 v114))]) (os' := [(101, .box (pvL (e_api_Re v0)))]) (O := [idxL (es_api_Re v0.f_L) v114 = some (e_api_Re y116), Sim Tryz.prog GL0 20 [.val true (pvL (e_api_Re y116))] [] (one (.int .i64 y117)) [], ([] : List Nat).Nodup]) (by kernel_rfl) (sound _ _) ⟨(idx_api_Re hy116), (IH20 _ _ hy117), (by decide), trivial⟩ ?_
              refine WA.reg [1, 3, 4] [101] [] (env' := [(1, .val false [.ptr 101 1 0 0]), (3, one (.int .i64 (w64 (v113 + y117)))), (4, one (.int .i64 (w64 (v114 + 1))))]) (os' := [(101, .box (pvL (e_api_Re v0)))]) (O := []) (by kernel_rfl) (sound _ _) trivial ?_
              exact ⟨m1, Nat.lt_succ_self _, (w64 (v113 + y117)), (w64 (v114 + 1)), by kernel_rfl, by kernel_rfl, by rw [hself1] at hF; exact hF⟩
            · have hF := cond_f hF hb115
              refine WA.exit ?_
              exact ⟨v113, by kernel_rfl, by kernel_rfl, hF⟩
        · have hF := cond_f hF hb104
          refine WA.seq ?_
          refine WA.reg [1, 3, 28] [101] [] (env' := [(1, .val false [.ptr 101 1 0 0]), (3, one (.int .i64 0)), (28, one (.bool (v0.f_Kind == 4)))]) (os' := [(101, .box (pvL (e_api_Re v0)))]) (O := []) (by kernel_rfl) (sound _ _) trivial ?_
          refine WA.cond (b := (v0.f_Kind == 4)) rfl (fun hb118 => ?_) (fun hb118 => ?_)
          · have hF := cond_t hF hb118
            refine WA.seq ?_
            refine WA.regM (α := Int) (raw := ((es_api_Re v0.f_L).length : Int)) (can := (v0.f_L.length : Int)) (fun m_ => ([(1, .val false [.ptr 101 1 0 0]), (3, one (.int .i64 0)), (33, one (.bool (decide (m_ > 0))))], [(101, .box (pvL (e_api_Re v0)))], [])) ((by first | (simp only [List.length_map, List.length_append, List.length_cons, List.length_nil, List.length_set, List.length_replicate, List.length_take, List.length_drop, lens_api_Re]; done) | (simp only [List.length_map, List.length_append, List.length_cons, List.length_nil, List.length_set, List.length_replicate, List.length_take, List.length_drop, lens_api_Re]; omega) | omega)) [1, 3, 33] [101] [] (env' := [(1, .val false [.ptr 101 1 0 0]), (3, one (.int .i64 0)), (33, one (.bool (decide ((v0.f_L.length : Int) > 0))))]) (os' := [(101, .box (pvL (e_api_Re v0)))]) (O := []) (by kernel_rfl) (by kernel_rfl) (sound _ _) trivial ?_
            refine WA.cond (b := (decide ((v0.f_L.length : Int) > 0))) rfl (fun hb119 => ?_) (fun hb119 => ?_)
            · have hF := cond_t hF hb119
              refine WA.seq ?_
              refine WA.reg [1, 5] [101] [] (env' := [(1, .val false [.ptr 101 1 0 0]), (5, one (.int .i64 v0.f_Max))]) (os' := [(101, .box (pvL (e_api_Re v0)))]) (O := []) (by kernel_rfl) (sound _ _) trivial ?_
              refine WA.join (fun s_ => ∃ (v121 : Int), pickE s_.env [1, 5] = [(1, .val false [.ptr 101 1 0 0]), (5, one (.int .i64 v121))] ∧ pickE s_.os [101] = [(101, .box (pvL (e_api_Re v0)))] ∧ F20_j2 R20 v0 v121 = some r) ?_ ?_
              · rintro s_ ⟨v121, he, ho, hF⟩
                refine WA.keep _ _ he ho ?_
                clear he ho
                obtain ⟨y122, hy122, hF⟩ := bind_some hF
                obtain ⟨y123, hy123, hF⟩ := bind_some hF
                refine WA.reg [3] [] [(2, .cells (e_api_Re y122)), (4, .callR [] (one (.int .i64 y123)))] (env' := [(3, one (.int .i64 (w64 (y123 * (mn (mx v121 1) 1000)))))]) (os' := []) (O := [idxL (es_api_Re v0.f_L) 0 = some (e_api_Re y122), Sim Tryz.prog GL0 20 [.val true (pvL (e_api_Re y122))] [] (one (.int .i64 y123)) [], ([] : List Nat).Nodup]) (by kernel_rfl) (sound _ _) ⟨(idx_api_Re hy122), (IH20 _ _ hy123), (by decide), trivial⟩ ?_
                exact ⟨(w64 (y123 * (mn (mx v121 1) 1000))), by kernel_rfl, by kernel_rfl, hF⟩
              · refine WA.seq ?_
                refine WA.reg [1, 5, 37] [101] [] (env' := [(1, .val false [.ptr 101 1 0 0]), (5, one (.int .i64 v0.f_Max)), (37, one (.bool (decide (v0.f_Max < 0))))]) (os' := [(101, .box (pvL (e_api_Re v0)))]) (O := []) (by kernel_rfl) (sound _ _) trivial ?_
                refine WA.cond (b := (decide (v0.f_Max < 0))) rfl (fun hb120 => ?_) (fun hb120 => ?_)
                · have hF := cond_t hF hb120
                  refine WA.reg [1, 5] [101] [] (env' := [(1, .val false [.ptr 101 1 0 0]), (5, one (.int .i64 (w64 (v0.f_Min + 1))))]) (os' := [(101, .box (pvL (e_api_Re v0)))]) (O := []) (by kernel_rfl) (sound _ _) trivial ?_
                  exact ⟨(w64 (v0.f_Min + 1)), by kernel_rfl, by kernel_rfl, hF⟩
                · have hF := cond_f hF hb120
                  refine WA.skip ?_
                  exact ⟨v0.f_Max, by kernel_rfl, by kernel_rfl, hF⟩
            · have hF := cond_f hF hb119
              refine WA.skip ?_
              exact ⟨0, by kernel_rfl, by kernel_rfl, hF⟩
          · have hF := cond_f hF hb118
            refine WA.skip ?_
            exact ⟨0, by kernel_rfl, by kernel_rfl, hF⟩
      · refine WA.seq ?_
        refine WA.reg [1, 3, 7, 10] [101] [] (env' := [(1, .val false [.ptr 101 1 0 0]), (3, one (.int .i64 0)), (7, one (.int .i64 v0.f_Kind)), (10, one (.bool (v0.f_Kind == 2)))]) (os' := [(101, .box (pvL (e_api_Re v0)))]) (O := []) (by kernel_rfl) (sound _ _) trivial ?_
        refine WA.cond (b := (v0.f_Kind == 2)) rfl (fun hb102 => ?_) (fun hb102 => ?_)
        · have hF := cond_t hF hb102
          refine WA.skip ?_
          exact ⟨(v0.f_Kind == 2), by kernel_rfl, by kernel_rfl, hF⟩
        · have hF := cond_f hF hb102
          refine WA.reg [1, 3, 7, 10] [101] [] (env' := [(1, .val false [.ptr 101 1 0 0]), (3, one (.int .i64 0)), (7, one (.int .i64 v0.f_Kind)), (10, one (.bool (v0.f_Kind == 3)))]) (os' := [(101, .box (pvL (e_api_Re v0)))]) (O := []) (by kernel_rfl) (sound _ _) trivial ?_
          exact ⟨(v0.f_Kind == 3), by kernel_rfl, by kernel_rfl, hF⟩
def F20 : Nat → api_Re → Option Int
  | 0, _ => none
  | k + 1, v0 => F20_b (F20 k) k v0
theorem F20_ok : ∀ (k : Nat), ∀ (v0 : api_Re) (r : Int), F20 k v0 = some r → Sim Tryz.prog GL0 20 [.val true (pvL (e_api_Re v0))] [] (one (.int .i64 r)) []
  | 0 => fun _ _ hF => by cases hF
  | k + 1 => fun v0 r hF => F20_b_ok (F20 k) (F20_ok k) k v0 r hF
/-! entrepot entrepotref10.right -/
def F43_b7 (R43 : api_Re → Option Bool) (self7 : Int → Option Bool) (v0 : api_Re) (v178 : Int) : Option Bool :=
  (cond (decide (v178 < (v0.f_L.length : Int))) ((idxL v0.f_L v178).bind fun y180 => (R43 y180).bind fun y181 => (cond (!y181) ((some false)) ((self7 (w64 (v178 + 1)))))) (((some true))))
def F43_l7 (R43 : api_Re → Option Bool) (v0 : api_Re) : Nat → Int → Option Bool
  | 0, _ => none
  | m_ + 1, v178 => F43_b7 R43 (F43_l7 R43 v0 m_) v0 v178
def F43_j6 (R43 : api_Re → Option Bool) (k : Nat) (v0 : api_Re) : Option Bool :=
  (F43_l7 R43 v0 k 0)
def F43_j5 (R43 : api_Re → Option Bool) (k : Nat) (v0 : api_Re) (v167 : Bool) : Option Bool :=
  cond v167 ((some false)) ((F43_j6 R43 k v0))
def F43_j4 (self3 : Int → Option Bool) (v141 : Int) (v155 : Bool) : Option Bool :=
  cond v155 ((some false)) ((self3 (w64 (v141 + 1))))
def F43_b3 (k : Nat) (self3 : Int → Option Bool) (v0 : api_Re) (v141 : Int) : Option Bool :=
  (cond (decide (v141 < (v0.f_Set.length : Int))) ((idxL v0.f_Set v141).bind fun y143 => (F67 k y143.f_Lo).bind fun y144 => cond (!y144) ((F43_j4 self3 v141 true)) ((F67 k y143.f_Hi).bind fun y146 => cond (!y146) ((F43_j4 self3 v141 true)) (cond (decide (y143.f_Lo > y143.f_Hi)) ((F43_j4 self3 v141 true)) (cond (decide (y143.f_Lo < 55296)) (cond (decide (y143.f_Hi > 57343)) ((F43_j4 self3 v141 true)) (cond (decide (v141 > 0)) ((idxL v0.f_Set (w64 (v141 - 1))).bind fun y152 => (F43_j4 self3 v141 (decide (y143.f_Lo ≤ (w64 (y152.f_Hi + 1)))))) ((F43_j4 self3 v141 false)))) (cond (decide (v141 > 0)) ((idxL v0.f_Set (w64 (v141 - 1))).bind fun y154 => (F43_j4 self3 v141 (decide (y143.f_Lo ≤ (w64 (y154.f_Hi + 1)))))) ((F43_j4 self3 v141 false))))))) (((some ((v0.f_L.length : Int) == 0)))))
def F43_l3 (k : Nat) (v0 : api_Re) : Nat → Int → Option Bool
  | 0, _ => none
  | m_ + 1, v141 => F43_b3 k (F43_l3 k v0 m_) v0 v141
def F43_j0 (R43 : api_Re → Option Bool) (k : Nat) (v0 : api_Re) (v107 : Bool) : Option Bool :=
  cond v107 ((some false)) (((((cond (v0.f_Kind == 1) ((F43_l3 k v0 k 0)) ((cond (v0.f_Kind == 2) ((cond ((v0.f_L.length : Int) == 1) ((some false)) ((F43_j6 R43 k v0)))) ((cond (v0.f_Kind == 3) ((cond (decide ((v0.f_L.length : Int) < 2)) ((some false)) ((F43_j6 R43 k v0)))) ((cond (v0.f_Kind == 4) (cond ((v0.f_L.length : Int) != 1) ((F43_j5 R43 k v0 true)) (cond (decide (v0.f_Min < 0)) ((F43_j5 R43 k v0 true)) (cond (decide (v0.f_Min > 20)) ((F43_j5 R43 k v0 true)) (cond (v0.f_Max != (-1)) (cond (decide (v0.f_Max < v0.f_Min)) ((F43_j5 R43 k v0 true)) ((F43_j5 R43 k v0 (decide (v0.f_Max > 20))))) ((F43_j5 R43 k v0 false)))))) ((some false)))))))))))))
def F43_b (R43 : api_Re → Option Bool) (k : Nat) (v0 : api_Re) : Option Bool :=
  (cond (v0.f_Kind != 1) (cond (decide ((v0.f_Set.length : Int) > 0)) ((F43_j0 R43 k v0 true)) (cond (v0.f_Kind != 4) (cond (v0.f_Min != 0) ((F43_j0 R43 k v0 true)) ((F43_j0 R43 k v0 (v0.f_Max != 0)))) ((F43_j0 R43 k v0 false)))) (cond (v0.f_Kind != 4) (cond (v0.f_Min != 0) ((F43_j0 R43 k v0 true)) ((F43_j0 R43 k v0 (v0.f_Max != 0)))) ((F43_j0 R43 k v0 false))))
theorem F43_b_ok (R43 : api_Re → Option Bool) (IH43 : ∀ (v0 : api_Re) (r : Bool), R43 v0 = some r → Sim Tryz.prog GL0 43 [.val true (pvL (e_api_Re v0))] [] (one (.bool r)) []) (k : Nat) (v0 : api_Re) (r : Bool) (hF : F43_b R43 k v0 = some r) : Sim Tryz.prog GL0 43 [.val true (pvL (e_api_Re v0))] [] (one (.bool r)) [] := by
  refine sim_of [] Tryz.func43 rfl (by kernel_rfl) (by kernel_rfl) ?_
  show WA _ _ 147 _ _ _
  refine WA.seq ?_
  refine WA.reg [1] [101] [(0, .obj 101)] (env' := [(1, .val false [.ptr 101 1 0 0])]) (os' := [(101, .box (pvL (e_api_Re v0)))]) (O := []) (by kernel_rfl) (sound _ _) trivial ?_
  refine WA.seq ?_
  refine WA.join (fun s_ => ∃ (v107 : Bool), pickE s_.env [1, 30] = [(1, .val false [.ptr 101 1 0 0]), (30, one (.bool v107))] ∧ pickE s_.os [101] = [(101, .box (pvL (e_api_Re v0)))] ∧ F43_j0 R43 k v0 v107 = some r) ?_ ?_
  · rintro s_ ⟨v107, he, ho, hF⟩
    refine WA.keep _ _ he ho ?_
    clear he ho
    refine WA.cond (b := v107) rfl (fun hb108 => ?_) (fun hb108 => ?_)
    · have hF := cond_t hF hb108
      refine WA.seq ?_
      refine WA.reg [2] [] [] (env' := [(2, one (.bool false))]) (os' := []) (O := []) (by kernel_rfl) (sound _ _) trivial ?_
      refine WA.ret ?_
      obtain rfl := Option.some.inj hF
      exact out_ret (one (.bool false)) [] (by kernel_rfl) (by kernel_rfl) (by kernel_rfl) (by kernel_rfl) (by decide) rfl rfl
    · have hF := cond_f hF hb108
      refine WA.skip ?_
      refine WA.seq ?_
      refine WA.regM (α := Int) (raw := ((es_api_Re v0.f_L).length : Int)) (can := (v0.f_L.length : Int)) (fun m_ => ([(1, .val false [.ptr 101 1 0 0]), (3, one (.int .i64 m_))], [(101, .box (pvL (e_api_Re v0)))], [])) ((by first | (simp only [List.length_map, List.length_append, List.length_cons, List.length_nil, List.length_set, List.length_replicate, List.length_take, List.length_drop, lens_api_Re]; done) | (simp only [List.length_map, List.length_append, List.length_cons, List.length_nil, List.length_set, List.length_replicate, List.length_take, List.length_drop, lens_api_Re]; omega) | omega)) [1, 3] [101] [] (env' := [(1, .val false [.ptr 101 1 0 0]), (3, one (.int .i64 (v0.f_L.length : Int)))]) (os' := [(101, .box (pvL (e_api_Re v0)))]) (O := []) (by kernel_rfl) (by kernel_rfl) (sound _ _) trivial ?_
      refine WA.join (fun s_ => pickE s_.env [1, 3] = [(1, .val false [.ptr 101 1 0 0]), (3, one (.int .i64 (v0.f_L.length : Int)))] ∧ pickE s_.os [101] = [(101, .box (pvL (e_api_Re v0)))] ∧ F43_j6 R43 k v0 = some r) ?_ ?_
      · rintro s_ ⟨he, ho, hF⟩
        refine WA.keep _ _ he ho ?_
        clear he ho
        refine WA.seq ?_
        refine WA.seq ?_
        refine WA.reg [1, 3, 6] [101] [] (env' := [(1, .val false [.ptr 101 1 0 0]), (3, one (.int .i64 (v0.f_L.length : Int))), (6, one (.int .i64 0))]) (os' := [(101, .box (pvL (e_api_Re v0)))]) (O := []) (by kernel_rfl) (sound _ _) trivial ?_
        refine WA.block ?_
        refine WA.loop (fun m s_ => ∃ (v178 : Int), pickE s_.env [1, 3, 6] = [(1, .val false [.ptr 101 1 0 0]), (3, one (.int .i64 (v0.f_L.length : Int))), (6, one (.int .i64 v178))] ∧ pickE s_.os [101] = [(101, .box (pvL (e_api_Re v0)))] ∧ F43_l7 R43 v0 m v178 = some r) k ⟨0, by kernel_rfl, by kernel_rfl, hF⟩ ?_
        clear hF
        rintro m7 s_ ⟨v178, he, ho, hF⟩
        refine WA.keep _ _ he ho ?_
        clear he ho
        cases m7 with
        | zero => cases hF
        | succ m7 =>
          obtain ⟨self7, hself7⟩ : ∃ g, g = F43_l7 R43 v0 m7 := ⟨_, rfl⟩
          have hF : F43_b7 R43 self7 v0 v178 = some r := by rw [hself7]; exact hF
          refine WA.seq ?_
          refine WA.seq ?_
          refine WA.reg [1, 3, 6, 137] [101] [] (env' := [(1, .val false [.ptr 101 1 0 0]), (3, one (.int .i64 (v0.f_L.length : Int))), (6, one (.int .i64 v178)), (137, one (.bool (decide (v178 < (v0.f_L.length : Int)))))]) (os' := [(101, .box (pvL (e_api_Re v0)))]) (O := []) (by kernel_rfl) (sound _ _) trivial ?_
          refine WA.cond (b := (decide (v178 < (v0.f_L.length : Int)))) rfl (fun hb179 => ?_) (fun hb179 => ?_)
          · have hF := cond_t hF hb179
            refine WA.skip ?_
            refine WA.seq ?_
            refine WA.block ?_
            refine WA.seq ?_
            obtain ⟨y180, hy180, hF⟩ := bind_some hF
            obtain ⟨y181, hy181, hF⟩ := bind_some hF
            refine WA.reg [1, 3, 6, 146] [101] [(3, .cells (e_api_Re y180)), (5, .callR [] (one (.bool y181)))] (env' := [(1, .val false [.ptr 101 1 0 0]), (3, one (.int .i64 (v0.f_L.length : Int))), (6, one (.int .i64 v178)), (146, one (.bool (!y181)))]) (os' := [(101, .box (pvL (e_api_Re v0)))]) (O := [idxL (es_api_Re v0.f_L) v178 = some (e_api_Re y180), Sim Tryz.prog GL0 43 [.val true (pvL (e_api_Re y180))] [] (one (.bool y181)) [], ([] : List Nat).Nodup]) (by kernel_rfl) (sound _ _) ⟨(idx_api_Re hy180), (IH43 _ _ hy181), (by decide), trivial⟩ ?_
            refine WA.cond (b := (!y181)) rfl (fun hb182 => ?_) (fun hb182 => ?_)
            · have hF := cond_t hF hb182
              refine WA.seq ?_
              refine WA.reg [2] [] [] (env' := [(2, one (.bool false))]) (os' := []) (O := []) (by kernel_rfl) (sound _ _) trivial ?_
              refine WA.ret ?_
              obtain rfl := Option.some.inj hF
              exact out_ret (one (.bool false)) [] (by kernel_rfl) (by kernel_rfl) (by kernel_rfl) (by kernel_rfl) (by decide) rfl rfl
            · have hF := cond_f hF hb182
              refine WA.skip ?_
              refine WA.reg [1, 3, 6] [101] [] (env' := [(1, .val false [.ptr 101 1 0 0]), (3, one (.int .i64 (v0.f_L.length : Int))), (6, one (.int .i64 (w64 (v178 + 1))))]) (os' := [(101, .box (pvL (e_api_Re v0)))]) (O := []) (by kernel_rfl) (sound _ _) trivial ?_
              exact ⟨m7, Nat.lt_succ_self _, (w64 (v178 + 1)), by kernel_rfl, by kernel_rfl, by rw [hself7] at hF; exact hF⟩
          · have hF := cond_f hF hb179
            refine WA.exit ?_
            refine WA.seq ?_
            refine WA.reg [2] [] [] (env' := [(2, one (.bool true))]) (os' := []) (O := []) (by kernel_rfl) (sound _ _) trivial ?_
            refine WA.ret ?_
            obtain rfl := Option.some.inj hF
            exact out_ret (one (.bool true)) [] (by kernel_rfl) (by kernel_rfl) (by kernel_rfl) (by kernel_rfl) (by decide) rfl rfl
      · refine WA.seq ?_
        refine WA.reg [1, 3, 35] [101] [] (env' := [(1, .val false [.ptr 101 1 0 0]), (3, one (.int .i64 (v0.f_L.length : Int))), (35, one (.int .i64 v0.f_Kind))]) (os' := [(101, .box (pvL (e_api_Re v0)))]) (O := []) (by kernel_rfl) (sound _ _) trivial ?_
        refine WA.block ?_
        refine WA.seq ?_
        refine WA.reg [1, 3, 35, 36] [101] [] (env' := [(1, .val false [.ptr 101 1 0 0]), (3, one (.int .i64 (v0.f_L.length : Int))), (35, one (.int .i64 v0.f_Kind)), (36, one (.bool (v0.f_Kind == 1)))]) (os' := [(101, .box (pvL (e_api_Re v0)))]) (O := []) (by kernel_rfl) (sound _ _) trivial ?_
        refine WA.cond (b := (v0.f_Kind == 1)) rfl (fun hb109 => ?_) (fun hb109 => ?_)
        · have hF := cond_t hF hb109
          refine WA.seq ?_
          refine WA.seq ?_
          refine WA.reg [1, 3, 4] [101] [] (env' := [(1, .val false [.ptr 101 1 0 0]), (3, one (.int .i64 (v0.f_L.length : Int))), (4, one (.int .i64 0))]) (os' := [(101, .box (pvL (e_api_Re v0)))]) (O := []) (by kernel_rfl) (sound _ _) trivial ?_
          refine WA.block ?_
          refine WA.loop (fun m s_ => ∃ (v141 : Int), pickE s_.env [1, 3, 4] = [(1, .val false [.ptr 101 1 0 0]), (3, one (.int .i64 (v0.f_L.length : Int))), (4, one (.int .i64 v141))] ∧ pickE s_.os [101] = [(101, .box (pvL (e_api_Re v0)))] ∧ F43_l3 k v0 m v141 = some r) k ⟨0, by kernel_rfl, by kernel_rfl, hF⟩ ?_
          clear hF
          rintro m3 s_ ⟨v141, he, ho, hF⟩
          refine WA.keep _ _ he ho ?_
          clear he ho
          cases m3 with
          | zero => cases hF
          | succ m3 =>
            obtain ⟨self3, hself3⟩ : ∃ g, g = F43_l3 k v0 m3 := ⟨_, rfl⟩
            have hF : F43_b3 k self3 v0 v141 = some r := by rw [hself3]; exact hF
            refine WA.seq ?_
            refine WA.seq ?_
            refine WA.regM (α := Int) (raw := ((v0.f_Set.map e_api_Range).length : Int)) (can := (v0.f_Set.length : Int)) (fun m_ => ([(1, .val false [.ptr 101 1 0 0]), (3, one (.int .i64 (v0.f_L.length : Int))), (4, one (.int .i64 v141)), (42, one (.bool (decide (v141 < m_))))], [(101, .box (pvL (e_api_Re v0)))], [])) ((by first | (simp only [List.length_map, List.length_append, List.length_cons, List.length_nil, List.length_set, List.length_replicate, List.length_take, List.length_drop, lens_api_Re]; done) | (simp only [List.length_map, List.length_append, List.length_cons, List.length_nil, List.length_set, List.length_replicate, List.length_take, List.length_drop, lens_api_Re]; omega) | omega)) [1, 3, 4, 42] [101] [] (env' := [(1, .val false [.ptr 101 1 0 0]), (3, one (.int .i64 (v0.f_L.length : Int))), (4, one (.int .i64 v141)), (42, one (.bool (decide (v141 < (v0.f_Set.length : Int)))))]) (os' := [(101, .box (pvL (e_api_Re v0)))]) (O := []) (by kernel_rfl) (by kernel_rfl) (sound _ _) trivial ?_
            refine WA.cond (b := (decide (v141 < (v0.f_Set.length : Int)))) rfl (fun hb142 => ?_) (fun hb142 => ?_)
            · have hF := cond_t hF hb142
              refine WA.skip ?_
              refine WA.seq ?_
              refine WA.block ?_
              refine WA.seq ?_
              obtain ⟨y143, hy143, hF⟩ := bind_some hF
              refine WA.reg [1, 3, 4, 5] [101, 105] [(3, .cells (e_api_Range y143)), (5, .obj 105)] (env' := [(1, .val false [.ptr 101 1 0 0]), (3, one (.int .i64 (v0.f_L.length : Int))), (4, one (.int .i64 v141)), (5, .val false [.ptr 105 1 0 0])]) (os' := [(101, .box (pvL (e_api_Re v0))), (105, .box (pvL (e_api_Range y143)))]) (O := [idxL (v0.f_Set.map e_api_Range) v141 = some (e_api_Range y143)]) (by kernel_rfl) (sound _ _) ⟨(idx_map _ hy143), trivial⟩ ?_
              refine WA.join (fun s_ => ∃ (v155 : Bool), pickE s_.env [1, 3, 4, 93] = [(1, .val false [.ptr 101 1 0 0]), (3, one (.int .i64 (v0.f_L.length : Int))), (4, one (.int .i64 v141)), (93, one (.bool v155))] ∧ pickE s_.os [101] = [(101, .box (pvL (e_api_Re v0)))] ∧ F43_j4 self3 v141 v155 = some r) ?_ ?_
              · rintro s_ ⟨v155, he, ho, hF⟩
                refine WA.keep _ _ he ho ?_
                clear he ho
                refine WA.cond (b := v155) rfl (fun hb156 => ?_) (fun hb156 => ?_)
                · have hF := cond_t hF hb156
                  refine WA.seq ?_
                  refine WA.reg [2] [] [] (env' := [(2, one (.bool false))]) (os' := []) (O := []) (by kernel_rfl) (sound _ _) trivial ?_
                  refine WA.ret ?_
                  obtain rfl := Option.some.inj hF
                  exact out_ret (one (.bool false)) [] (by kernel_rfl) (by kernel_rfl) (by kernel_rfl) (by kernel_rfl) (by decide) rfl rfl
                · have hF := cond_f hF hb156
                  refine WA.skip ?_
                  refine WA.reg [1, 3, 4] [101] [] (env' := [(1, .val false [.ptr 101 1 0 0]), (3, one (.int .i64 (v0.f_L.length : Int))), (4, one (.int .i64 (w64 (v141 + 1))))]) (os' := [(101, .box (pvL (e_api_Re v0)))]) (O := []) (by kernel_rfl) (sound _ _) trivial ?_
                  exact ⟨m3, Nat.lt_succ_self _, (w64 (v141 + 1)), by kernel_rfl, by kernel_rfl, by rw [hself3] at hF; exact hF⟩
              · obtain ⟨y144, hy144, hF⟩ := bind_some hF
                rcases Bool.eq_false_or_eq_true (!y144) with hb145 | hb145
                · have hF := cond_t hF hb145
                  refine WA.regD (by kernel_rfl) [1, 3, 4, 93] [101] [(2, .callR [] (one (.bool y144))), (4, .bool true), (7, .callR [] (.tup []))] (env' := [(1, .val false [.ptr 101 1 0 0]), (3, one (.int .i64 (v0.f_L.length : Int))), (4, one (.int .i64 v141)), (93, one (.bool true))]) (os' := [(101, .box (pvL (e_api_Re v0)))]) (O := [Sim Tryz.prog GL0 67 [one (.int .i64 y143.f_Lo)] [] (one (.bool y144)) [], ([] : List Nat).Nodup, (!y144) = true]) (by kernel_rfl) (by kernel_rfl) (sound _ _) ⟨(F67_ok k _ _ hy144), (by decide), hb145, trivial⟩ ?_
                  exact ⟨true, by kernel_rfl, by kernel_rfl, hF⟩
                · have hF := cond_f hF hb145
                  obtain ⟨y146, hy146, hF⟩ := bind_some hF
                  rcases Bool.eq_false_or_eq_true (!y146) with hb147 | hb147
                  · have hF := cond_t hF hb147
                    refine WA.regD (by kernel_rfl) [1, 3, 4, 93] [101] [(2, .callR [] (one (.bool y144))), (4, .bool false), (7, .callR [] (one (.bool y146))), (10, .bool true)] (env' := [(1, .val false [.ptr 101 1 0 0]), (3, one (.int .i64 (v0.f_L.length : Int))), (4, one (.int .i64 v141)), (93, one (.bool true))]) (os' := [(101, .box (pvL (e_api_Re v0)))]) (O := [Sim Tryz.prog GL0 67 [one (.int .i64 y143.f_Lo)] [] (one (.bool y144)) [], ([] : List Nat).Nodup, (!y144) = false, Sim Tryz.prog GL0 67 [one (.int .i64 y143.f_Hi)] [] (one (.bool y146)) [], ([] : List Nat).Nodup, (!y146) = true]) (by kernel_rfl) (by kernel_rfl) (sound _ _) ⟨(F67_ok k _ _ hy144), (by decide), hb145, (F67_ok k _ _ hy146), (by decide), hb147, trivial⟩ ?_
                    exact ⟨true, by kernel_rfl, by kernel_rfl, hF⟩
                  · have hF := cond_f hF hb147
                    rcases Bool.eq_false_or_eq_true (decide (y143.f_Lo > y143.f_Hi)) with hb148 | hb148
                    · have hF := cond_t hF hb148
                      refine WA.regD (by kernel_rfl) [1, 3, 4, 93] [101] [(2, .callR [] (one (.bool y144))), (4, .bool false), (7, .callR [] (one (.bool y146))), (10, .bool false), (17, .bool true)] (env' := [(1, .val false [.ptr 101 1 0 0]), (3, one (.int .i64 (v0.f_L.length : Int))), (4, one (.int .i64 v141)), (93, one (.bool true))]) (os' := [(101, .box (pvL (e_api_Re v0)))]) (O := [Sim Tryz.prog GL0 67 [one (.int .i64 y143.f_Lo)] [] (one (.bool y144)) [], ([] : List Nat).Nodup, (!y144) = false, Sim Tryz.prog GL0 67 [one (.int .i64 y143.f_Hi)] [] (one (.bool y146)) [], ([] : List Nat).Nodup, (!y146) = false, (decide (y143.f_Lo > y143.f_Hi)) = true]) (by kernel_rfl) (by kernel_rfl) (sound _ _) ⟨(F67_ok k _ _ hy144), (by decide), hb145, (F67_ok k _ _ hy146), (by decide), hb147, hb148, trivial⟩ ?_
                      exact ⟨true, by kernel_rfl, by kernel_rfl, hF⟩
                    · have hF := cond_f hF hb148
                      rcases Bool.eq_false_or_eq_true (decide (y143.f_Lo < 55296)) with hb149 | hb149
                      · have hF := cond_t hF hb149
                        rcases Bool.eq_false_or_eq_true (decide (y143.f_Hi > 57343)) with hb150 | hb150
                        · have hF := cond_t hF hb150
                          refine WA.regD (by kernel_rfl) [1, 3, 4, 93] [101] [(2, .callR [] (one (.bool y144))), (4, .bool false), (7, .callR [] (one (.bool y146))), (10, .bool false), (17, .bool false), (21, .bool true), (27, .bool true)] (env' := [(1, .val false [.ptr 101 1 0 0]), (3, one (.int .i64 (v0.f_L.length : Int))), (4, one (.int .i64 v141)), (93, one (.bool true))]) (os' := [(101, .box (pvL (e_api_Re v0)))]) (O := [Sim Tryz.prog GL0 67 [one (.int .i64 y143.f_Lo)] [] (one (.bool y144)) [], ([] : List Nat).Nodup, (!y144) = false, Sim Tryz.prog GL0 67 [one (.int .i64 y143.f_Hi)] [] (one (.bool y146)) [], ([] : List Nat).Nodup, (!y146) = false, (decide (y143.f_Lo > y143.f_Hi)) = false, (decide (y143.f_Lo < 55296)) = true, (decide (y143.f_Hi > 57343)) = true]) (by kernel_rfl) (by kernel_rfl) (sound _ _) ⟨(F67_ok k _ _ hy144), (by decide), hb145, (F67_ok k _ _ hy146), (by decide), hb147, hb148, hb149, hb150, trivial⟩ ?_
                          exact ⟨true, by kernel_rfl, by kernel_rfl, hF⟩
                        · have hF := cond_f hF hb150
                          rcases Bool.eq_false_or_eq_true (decide (v141 > 0)) with hb151 | hb151
                          · have hF := cond_t hF hb151
                            obtain ⟨y152, hy152, hF⟩ := bind_some hF
                            refine WA.regD (by kernel_rfl) [1, 3, 4, 93] [101] [(2, .callR [] (one (.bool y144))), (4, .bool false), (7, .callR [] (one (.bool y146))), (10, .bool false), (17, .bool false), (21, .bool true), (27, .bool false), (30, .bool true), (37, .cells (e_api_Range y152))] (env' := [(1, .val false [.ptr 101 1 0 0]), (3, one (.int .i64 (v0.f_L.length : Int))), (4, one (.int .i64 v141)), (93, one (.bool (decide (y143.f_Lo ≤ (w64 (y152.f_Hi + 1))))))]) (os' := [(101, .box (pvL (e_api_Re v0)))]) (O := [Sim Tryz.prog GL0 67 [one (.int .i64 y143.f_Lo)] [] (one (.bool y144)) [], ([] : List Nat).Nodup, (!y144) = false, Sim Tryz.prog GL0 67 [one (.int .i64 y143.f_Hi)] [] (one (.bool y146)) [], ([] : List Nat).Nodup, (!y146) = false, (decide (y143.f_Lo > y143.f_Hi)) = false, (decide (y143.f_Lo < 55296)) = true, (decide (y143.f_Hi > 57343)) = false, (decide (v141 > 0)) = true, idxL (v0.f_Set.map e_api_Range) (w64 (v141 - 1)) = some (e_api_Range y152)]) (by kernel_rfl) (by kernel_rfl) (sound _ _) ⟨(F67_ok k _ _ hy144), (by decide), hb145, (F67_ok k _ _ hy146), (by decide), hb147, hb148, hb149, hb150, hb151, (idx_map _ hy152), trivial⟩ ?_
                            exact ⟨(decide (y143.f_Lo ≤ (w64 (y152.f_Hi + 1)))), by kernel_rfl, by kernel_rfl, hF⟩
                          · have hF := cond_f hF hb151
                            refine WA.regD (by kernel_rfl) [1, 3, 4, 93] [101] [(2, .callR [] (one (.bool y144))), (4, .bool false), (7, .callR [] (one (.bool y146))), (10, .bool false), (17, .bool false), (21, .bool true), (27, .bool false), (30, .bool false)] (env' := [(1, .val false [.ptr 101 1 0 0]), (3, one (.int .i64 (v0.f_L.length : Int))), (4, one (.int .i64 v141)), (93, one (.bool false))]) (os' := [(101, .box (pvL (e_api_Re v0)))]) (O := [Sim Tryz.prog GL0 67 [one (.int .i64 y143.f_Lo)] [] (one (.bool y144)) [], ([] : List Nat).Nodup, (!y144) = false, Sim Tryz.prog GL0 67 [one (.int .i64 y143.f_Hi)] [] (one (.bool y146)) [], ([] : List Nat).Nodup, (!y146) = false, (decide (y143.f_Lo > y143.f_Hi)) = false, (decide (y143.f_Lo < 55296)) = true, (decide (y143.f_Hi > 57343)) = false, (decide (v141 > 0)) = false]) (by kernel_rfl) (by kernel_rfl) (sound _ _) ⟨(F67_ok k _ _ hy144), (by decide), hb145, (F67_ok k _ _ hy146), (by decide), hb147, hb148, hb149, hb150, hb151, trivial⟩ ?_
                            exact ⟨false, by kernel_rfl, by kernel_rfl, hF⟩
                      · have hF := cond_f hF hb149
                        rcases Bool.eq_false_or_eq_true (decide (v141 > 0)) with hb153 | hb153
                        · have hF := cond_t hF hb153
                          obtain ⟨y154, hy154, hF⟩ := bind_some hF
                          refine WA.regD (by kernel_rfl) [1, 3, 4, 93] [101] [(2, .callR [] (one (.bool y144))), (4, .bool false), (7, .callR [] (one (.bool y146))), (10, .bool false), (17, .bool false), (21, .bool false), (30, .bool true), (37, .cells (e_api_Range y154))] (env' := [(1, .val false [.ptr 101 1 0 0]), (3, one (.int .i64 (v0.f_L.length : Int))), (4, one (.int .i64 v141)), (93, one (.bool (decide (y143.f_Lo ≤ (w64 (y154.f_Hi + 1))))))]) (os' := [(101, .box (pvL (e_api_Re v0)))]) (O := [Sim Tryz.prog GL0 67 [one (.int .i64 y143.f_Lo)] [] (one (.bool y144)) [], ([] : List Nat).Nodup, (!y144) = false, Sim Tryz.prog GL0 67 [one (.int .i64 y143.f_Hi)] [] (one (.bool y146)) [], ([] : List Nat).Nodup, (!y146) = false, (decide (y143.f_Lo > y143.f_Hi)) = false, (decide (y143.f_Lo < 55296)) = false, (decide (v141 > 0)) = true, idxL (v0.f_Set.map e_api_Range) (w64 (v141 - 1)) = some (e_api_Range y154)]) (by kernel_rfl) (by kernel_rfl) (sound _ _) ⟨(F67_ok k _ _ hy144), (by decide), hb145, (F67_ok k _ _ hy146), (by decide), hb147, hb148, hb149, hb153, (idx_map _ hy154), trivial⟩ ?_
                          exact ⟨(decide (y143.f_Lo ≤ (w64 (y154.f_Hi + 1)))), by kernel_rfl, by kernel_rfl, hF⟩
                        · have hF := cond_f hF hb153
                          refine WA.regD (by kernel_rfl) [1, 3, 4, 93] [101] [(2, .callR [] (one (.bool y144))), (4, .bool false), (7, .callR [] (one (.bool y146))), (10, .bool false), (17, .bool false), (21, .bool false), (30, .bool false)] (env' := [(1, .val false [.ptr 101 1 0 0]), (3, one (.int .i64 (v0.f_L.length : Int))), (4, one (.int .i64 v141)), (93, one (.bool false))]) (os' := [(101, .box (pvL (e_api_Re v0)))]) (O := [Sim Tryz.prog GL0 67 [one (.int .i64 y143.f_Lo)] [] (one (.bool y144)) [], ([] : List Nat).Nodup, (!y144) = false, Sim Tryz.prog GL0 67 [one (.int .i64 y143.f_Hi)] [] (one (.bool y146)) [], ([] : List Nat).Nodup, (!y146) = false, (decide (y143.f_Lo > y143.f_Hi)) = false, (decide (y143.f_Lo < 55296)) = false, (decide (v141 > 0)) = false]) (by kernel_rfl) (by kernel_rfl) (sound _ _) ⟨(F67_ok k _ _ hy144), (by decide), hb145, (F67_ok k _ _ hy146), (by decide), hb147, hb148, hb149, hb153, trivial⟩ ?_
                          exact ⟨false, by kernel_rfl, by kernel_rfl, hF⟩
            · have hF := cond_f hF hb142
              refine WA.exit ?_
              refine WA.seq ?_
              refine WA.reg [2] [] [] (env' := [(2, one (.bool ((v0.f_L.length : Int) == 0)))]) (os' := []) (O := []) (by kernel_rfl) (sound _ _) trivial ?_
              refine WA.ret ?_
              obtain rfl := Option.some.inj hF
              exact out_ret (one (.bool ((v0.f_L.length : Int) == 0))) [] (by kernel_rfl) (by kernel_rfl) (by kernel_rfl) (by kernel_rfl) (by decide) rfl rfl
        · have hF := cond_f hF hb109
          refine WA.seq ?_
          refine WA.reg [1, 3, 35, 96] [101] [] (env' := [(1, .val false [.ptr 101 1 0 0]), (3, one (.int .i64 (v0.f_L.length : Int))), (35, one (.int .i64 v0.f_Kind)), (96, one (.bool (v0.f_Kind == 2)))]) (os' := [(101, .box (pvL (e_api_Re v0)))]) (O := []) (by kernel_rfl) (sound _ _) trivial ?_
          refine WA.cond (b := (v0.f_Kind == 2)) rfl (fun hb157 => ?_) (fun hb157 => ?_)
          · have hF := cond_t hF hb157
            refine WA.seq ?_
            refine WA.reg [1, 3, 99] [101] [] (env' := [(1, .val false [.ptr 101 1 0 0]), (3, one (.int .i64 (v0.f_L.length : Int))), (99, one (.bool ((v0.f_L.length : Int) == 1)))]) (os' := [(101, .box (pvL (e_api_Re v0)))]) (O := []) (by kernel_rfl) (sound _ _) trivial ?_
            refine WA.cond (b := ((v0.f_L.length : Int) == 1)) rfl (fun hb158 => ?_) (fun hb158 => ?_)
            · have hF := cond_t hF hb158
              refine WA.seq ?_
              refine WA.reg [2] [] [] (env' := [(2, one (.bool false))]) (os' := []) (O := []) (by kernel_rfl) (sound _ _) trivial ?_
              refine WA.ret ?_
              obtain rfl := Option.some.inj hF
              exact out_ret (one (.bool false)) [] (by kernel_rfl) (by kernel_rfl) (by kernel_rfl) (by kernel_rfl) (by decide) rfl rfl
            · have hF := cond_f hF hb158
              refine WA.skip ?_
              exact ⟨by kernel_rfl, by kernel_rfl, hF⟩
          · have hF := cond_f hF hb157
            refine WA.seq ?_
            refine WA.reg [1, 3, 35, 100] [101] [] (env' := [(1, .val false [.ptr 101 1 0 0]), (3, one (.int .i64 (v0.f_L.length : Int))), (35, one (.int .i64 v0.f_Kind)), (100, one (.bool (v0.f_Kind == 3)))]) (os' := [(101, .box (pvL (e_api_Re v0)))]) (O := []) (by kernel_rfl) (sound _ _) trivial ?_
            refine WA.cond (b := (v0.f_Kind == 3)) rfl (fun hb159 => ?_) (fun hb159 => ?_)
            · have hF := cond_t hF hb159
              refine WA.seq ?_
              refine WA.reg [1, 3, 103] [101] [] (env' := [(1, .val false [.ptr 101 1 0 0]), (3, one (.int .i64 (v0.f_L.length : Int))), (103, one (.bool (decide ((v0.f_L.length : Int) < 2))))]) (os' := [(101, .box (pvL (e_api_Re v0)))]) (O := []) (by kernel_rfl) (sound _ _) trivial ?_
              refine WA.cond (b := (decide ((v0.f_L.length : Int) < 2))) rfl (fun hb160 => ?_) (fun hb160 => ?_)
              · have hF := cond_t hF hb160
                refine WA.seq ?_
                refine WA.reg [2] [] [] (env' := [(2, one (.bool false))]) (os' := []) (O := []) (by kernel_rfl) (sound _ _) trivial ?_
                refine WA.ret ?_
                obtain rfl := Option.some.inj hF
                exact out_ret (one (.bool false)) [] (by kernel_rfl) (by kernel_rfl) (by kernel_rfl) (by kernel_rfl) (by decide) rfl rfl
              · have hF := cond_f hF hb160
                refine WA.skip ?_
                exact ⟨by kernel_rfl, by kernel_rfl, hF⟩
            · have hF := cond_f hF hb159
              refine WA.seq ?_
              refine WA.reg [1, 3, 104] [101] [] (env' := [(1, .val false [.ptr 101 1 0 0]), (3, one (.int .i64 (v0.f_L.length : Int))), (104, one (.bool (v0.f_Kind == 4)))]) (os' := [(101, .box (pvL (e_api_Re v0)))]) (O := []) (by kernel_rfl) (sound _ _) trivial ?_
              refine WA.cond (b := (v0.f_Kind == 4)) rfl (fun hb161 => ?_) (fun hb161 => ?_)
              · have hF := cond_t hF hb161
                refine WA.join (fun s_ => ∃ (v167 : Bool), pickE s_.env [1, 3, 134] = [(1, .val false [.ptr 101 1 0 0]), (3, one (.int .i64 (v0.f_L.length : Int))), (134, one (.bool v167))] ∧ pickE s_.os [101] = [(101, .box (pvL (e_api_Re v0)))] ∧ F43_j5 R43 k v0 v167 = some r) ?_ ?_
                · rintro s_ ⟨v167, he, ho, hF⟩
                  refine WA.keep _ _ he ho ?_
                  clear he ho
                  refine WA.cond (b := v167) rfl (fun hb168 => ?_) (fun hb168 => ?_)
                  · have hF := cond_t hF hb168
                    refine WA.seq ?_
                    refine WA.reg [2] [] [] (env' := [(2, one (.bool false))]) (os' := []) (O := []) (by kernel_rfl) (sound _ _) trivial ?_
                    refine WA.ret ?_
                    obtain rfl := Option.some.inj hF
                    exact out_ret (one (.bool false)) [] (by kernel_rfl) (by kernel_rfl) (by kernel_rfl) (by kernel_rfl) (by decide) rfl rfl
                  · have hF := cond_f hF hb168
                    refine WA.skip ?_
                    exact ⟨by kernel_rfl, by kernel_rfl, hF⟩
                · rcases Bool.eq_false_or_eq_true ((v0.f_L.length : Int) != 1) with hb162 | hb162
                  · have hF := cond_t hF hb162
                    refine WA.reg [1, 3, 134] [101] [(2, .bool true)] (env' := [(1, .val false [.ptr 101 1 0 0]), (3, one (.int .i64 (v0.f_L.length : Int))), (134, one (.bool true))]) (os' := [(101, .box (pvL (e_api_Re v0)))]) (O := [((v0.f_L.length : Int) != 1) = true]) (by kernel_rfl) (sound _ _) ⟨hb162, trivial⟩ ?_
                    exact ⟨true, by kernel_rfl, by kernel_rfl, hF⟩
                  · have hF := cond_f hF hb162
                    rcases Bool.eq_false_or_eq_true (decide (v0.f_Min < 0)) with hb163 | hb163
                    · have hF := cond_t hF hb163
                      refine WA.reg [1, 3, 134] [101] [(2, .bool false), (7, .bool true)] (env' := [(1, .val false [.ptr 101 1 0 0]), (3, one (.int .i64 (v0.f_L.length : Int))), (134, one (.bool true))]) (os' := [(101, .box (pvL (e_api_Re v0)))]) (O := [((v0.f_L.length : Int) != 1) = false, (decide (v0.f_Min < 0)) = true]) (by kernel_rfl) (sound _ _) ⟨hb162, hb163, trivial⟩ ?_
                      exact ⟨true, by kernel_rfl, by kernel_rfl, hF⟩
                    · have hF := cond_f hF hb163
                      rcases Bool.eq_false_or_eq_true (decide (v0.f_Min > 20)) with hb164 | hb164
                      · have hF := cond_t hF hb164
                        refine WA.reg [1, 3, 134] [101] [(2, .bool false), (7, .bool false), (12, .bool true)] (env' := [(1, .val false [.ptr 101 1 0 0]), (3, one (.int .i64 (v0.f_L.length : Int))), (134, one (.bool true))]) (os' := [(101, .box (pvL (e_api_Re v0)))]) (O := [((v0.f_L.length : Int) != 1) = false, (decide (v0.f_Min < 0)) = false, (decide (v0.f_Min > 20)) = true]) (by kernel_rfl) (sound _ _) ⟨hb162, hb163, hb164, trivial⟩ ?_
                        exact ⟨true, by kernel_rfl, by kernel_rfl, hF⟩
                      · have hF := cond_f hF hb164
                        rcases Bool.eq_false_or_eq_true (v0.f_Max != (-1)) with hb165 | hb165
                        · have hF := cond_t hF hb165
                          rcases Bool.eq_false_or_eq_true (decide (v0.f_Max < v0.f_Min)) with hb166 | hb166
                          · have hF := cond_t hF hb166
                            refine WA.reg [1, 3, 134] [101] [(2, .bool false), (7, .bool false), (12, .bool false), (16, .bool true), (22, .bool true)] (env' := [(1, .val false [.ptr 101 1 0 0]), (3, one (.int .i64 (v0.f_L.length : Int))), (134, one (.bool true))]) (os' := [(101, .box (pvL (e_api_Re v0)))]) (O := [((v0.f_L.length : Int) != 1) = false, (decide (v0.f_Min < 0)) = false, (decide (v0.f_Min > 20)) = false, (v0.f_Max != (-1)) = true, (decide (v0.f_Max < v0.f_Min)) = true]) (by kernel_rfl) (sound _ _) ⟨hb162, hb163, hb164, hb165, hb166, trivial⟩ ?_
                            exact ⟨true, by kernel_rfl, by kernel_rfl, hF⟩
                          · have hF := cond_f hF hb166
                            refine WA.reg [1, 3, 134] [101] [(2, .bool false), (7, .bool false), (12, .bool false), (16, .bool true), (22, .bool false)] (env' := [(1, .val false [.ptr 101 1 0 0]), (3, one (.int .i64 (v0.f_L.length : Int))), (134, one (.bool (decide (v0.f_Max > 20))))]) (os' := [(101, .box (pvL (e_api_Re v0)))]) (O := [((v0.f_L.length : Int) != 1) = false, (decide (v0.f_Min < 0)) = false, (decide (v0.f_Min > 20)) = false, (v0.f_Max != (-1)) = true, (decide (v0.f_Max < v0.f_Min)) = false]) (by kernel_rfl) (sound _ _) ⟨hb162, hb163, hb164, hb165, hb166, trivial⟩ ?_
                            exact ⟨(decide (v0.f_Max > 20)), by kernel_rfl, by kernel_rfl, hF⟩
                        · have hF := cond_f hF hb165
                          refine WA.reg [1, 3, 134] [101] [(2, .bool false), (7, .bool false), (12, .bool false), (16, .bool false)] (env' := [(1, .val false [.ptr 101 1 0 0]), (3, one (.int .i64 (v0.f_L.length : Int))), (134, one (.bool false))]) (os' := [(101, .box (pvL (e_api_Re v0)))]) (O := [((v0.f_L.length : Int) != 1) = false, (decide (v0.f_Min < 0)) = false, (decide (v0.f_Min > 20)) = false, (v0.f_Max != (-1)) = false]) (by kernel_rfl) (sound _ _) ⟨hb162, hb163, hb164, hb165, trivial⟩ ?_
                          exact ⟨false, by kernel_rfl, by kernel_rfl, hF⟩
              · have hF := cond_f hF hb161
                refine WA.seq ?_
                refine WA.reg [2] [] [] (env' := [(2, one (.bool false))]) (os' := []) (O := []) (by kernel_rfl) (sound _ _) trivial ?_
                refine WA.ret ?_
                obtain rfl := Option.some.inj hF
                exact out_ret (one (.bool false)) [] (by kernel_rfl) (by kernel_rfl) (by kernel_rfl) (by kernel_rfl) (by decide) rfl rfl
  · rcases Bool.eq_false_or_eq_true (v0.f_Kind != 1) with hb101 | hb101
    · have hF := cond_t hF hb101
      rcases Bool.eq_false_or_eq_true (decide ((v0.f_Set.length : Int) > 0)) with hb102 | hb102
      · have hF := cond_t hF hb102
        refine WA.regM (α := Int) (raw := ((v0.f_Set.map e_api_Range).length : Int)) (can := (v0.f_Set.length : Int)) (fun m_ => ([(1, .val false [.ptr 101 1 0 0]), (30, one (.bool true))], [(101, .box (pvL (e_api_Re v0)))], [(v0.f_Kind != 1) = true, (decide (m_ > 0)) = true])) ((by first | (simp only [List.length_map, List.length_append, List.length_cons, List.length_nil, List.length_set, List.length_replicate, List.length_take, List.length_drop, lens_api_Re]; done) | (simp only [List.length_map, List.length_append, List.length_cons, List.length_nil, List.length_set, List.length_replicate, List.length_take, List.length_drop, lens_api_Re]; omega) | omega)) [1, 30] [101] [(3, .bool true), (9, .bool true)] (env' := [(1, .val false [.ptr 101 1 0 0]), (30, one (.bool true))]) (os' := [(101, .box (pvL (e_api_Re v0)))]) (O := [(v0.f_Kind != 1) = true, (decide ((v0.f_Set.length : Int) > 0)) = true]) (by kernel_rfl) (by kernel_rfl) (sound _ _) ⟨hb101, hb102, trivial⟩ ?_
        exact ⟨true, by kernel_rfl, by kernel_rfl, hF⟩
      · have hF := cond_f hF hb102
        rcases Bool.eq_false_or_eq_true (v0.f_Kind != 4) with hb103 | hb103
        · have hF := cond_t hF hb103
          rcases Bool.eq_false_or_eq_true (v0.f_Min != 0) with hb104 | hb104
          · have hF := cond_t hF hb104
            refine WA.regM (α := Int) (raw := ((v0.f_Set.map e_api_Range).length : Int)) (can := (v0.f_Set.length : Int)) (fun m_ => ([(1, .val false [.ptr 101 1 0 0]), (30, one (.bool true))], [(101, .box (pvL (e_api_Re v0)))], [(v0.f_Kind != 1) = true, (decide (m_ > 0)) = false, (v0.f_Kind != 4) = true, (v0.f_Min != 0) = true])) ((by first | (simp only [List.length_map, List.length_append, List.length_cons, List.length_nil, List.length_set, List.length_replicate, List.length_take, List.length_drop, lens_api_Re]; done) | (simp only [List.length_map, List.length_append, List.length_cons, List.length_nil, List.length_set, List.length_replicate, List.length_take, List.length_drop, lens_api_Re]; omega) | omega)) [1, 30] [101] [(3, .bool true), (9, .bool false), (13, .bool true), (17, .bool true)] (env' := [(1, .val false [.ptr 101 1 0 0]), (30, one (.bool true))]) (os' := [(101, .box (pvL (e_api_Re v0)))]) (O := [(v0.f_Kind != 1) = true, (decide ((v0.f_Set.length : Int) > 0)) = false, (v0.f_Kind != 4) = true, (v0.f_Min != 0) = true]) (by kernel_rfl) (by kernel_rfl) (sound _ _) ⟨hb101, hb102, hb103, hb104, trivial⟩ ?_
            exact ⟨true, by kernel_rfl, by kernel_rfl, hF⟩
          · have hF := cond_f hF hb104
            refine WA.regM (α := Int) (raw := ((v0.f_Set.map e_api_Range).length : Int)) (can := (v0.f_Set.length : Int)) (fun m_ => ([(1, .val false [.ptr 101 1 0 0]), (30, one (.bool (v0.f_Max != 0)))], [(101, .box (pvL (e_api_Re v0)))], [(v0.f_Kind != 1) = true, (decide (m_ > 0)) = false, (v0.f_Kind != 4) = true, (v0.f_Min != 0) = false])) ((by first | (simp only [List.length_map, List.length_append, List.length_cons, List.length_nil, List.length_set, List.length_replicate, List.length_take, List.length_drop, lens_api_Re]; done) | (simp only [List.length_map, List.length_append, List.length_cons, List.length_nil, List.length_set, List.length_replicate, List.length_take, List.length_drop, lens_api_Re]; omega) | omega)) [1, 30] [101] [(3, .bool true), (9, .bool false), (13, .bool true), (17, .bool false)] (env' := [(1, .val false [.ptr 101 1 0 0]), (30, one (.bool (v0.f_Max != 0)))]) (os' := [(101, .box (pvL (e_api_Re v0)))]) (O := [(v0.f_Kind != 1) = true, (decide ((v0.f_Set.length : Int) > 0)) = false, (v0.f_Kind != 4) = true, (v0.f_Min != 0) = false]) (by kernel_rfl) (by kernel_rfl) (sound _ _) ⟨hb101, hb102, hb103, hb104, trivial⟩ ?_
            exact ⟨(v0.f_Max != 0), by kernel_rfl, by kernel_rfl, hF⟩
        · have hF := cond_f hF hb103
          refine WA.regM (α := Int) (raw := ((v0.f_Set.map e_api_Range).length : Int)) (can := (v0.f_Set.length : Int)) (fun m_ => ([(1, .val false [.ptr 101 1 0 0]), (30, one (.bool false))], [(101, .box (pvL (e_api_Re v0)))], [(v0.f_Kind != 1) = true, (decide (m_ > 0)) = false, (v0.f_Kind != 4) = false])) ((by first | (simp only [List.length_map, List.length_append, List.length_cons, List.length_nil, List.length_set, List.length_replicate, List.length_take, List.length_drop, lens_api_Re]; done) | (simp only [List.length_map, List.length_append, List.length_cons, List.length_nil, List.length_set, List.length_replicate, List.length_take, List.length_drop, lens_api_Re]; omega) | omega)) [1, 30] [101] [(3, .bool true), (9, .bool false), (13, .bool false)] (env' := [(1, .val false [.ptr 101 1 0 0]), (30, one (.bool false))]) (os' := [(101, .box (pvL (e_api_Re v0)))]) (O := [(v0.f_Kind != 1) = true, (decide ((v0.f_Set.length : Int) > 0)) = false, (v0.f_Kind != 4) = false]) (by kernel_rfl) (by kernel_rfl) (sound _ _) ⟨hb101, hb102, hb103, trivial⟩ ?_
          exact ⟨false, by kernel_rfl, by kernel_rfl, hF⟩
    · have hF := cond_f hF hb101
      rcases Bool.eq_false_or_eq_true (v0.f_Kind != 4) with hb105 | hb105
      · have hF := cond_t hF hb105
        rcases Bool.eq_false_or_eq_true (v0.f_Min != 0) with hb106 | hb106
        · have hF := cond_t hF hb106
          refine WA.reg [1, 30] [101] [(3, .bool false), (13, .bool true), (17, .bool true)] (env' := [(1, .val false [.ptr 101 1 0 0]), (30, one (.bool true))]) (os' := [(101, .box (pvL (e_api_Re v0)))]) (O := [(v0.f_Kind != 1) = false, (v0.f_Kind != 4) = true, (v0.f_Min != 0) = true]) (by kernel_rfl) (sound _ _) ⟨hb101, hb105, hb106, trivial⟩ ?_
          exact ⟨true, by kernel_rfl, by kernel_rfl, hF⟩
        · have hF := cond_f hF hb106
          refine WA.reg [1, 30] [101] [(3, .bool false), (13, .bool true), (17, .bool false)] (env' := [(1, .val false [.ptr 101 1 0 0]), (30, one (.bool (v0.f_Max != 0)))]) (os' := [(101, .box (pvL (e_api_Re v0)))]) (O := [(v0.f_Kind != 1) = false, (v0.f_Kind != 4) = true, (v0.f_Min != 0) = false]) (by kernel_rfl) (sound _ _) ⟨hb101, hb105, hb106, trivial⟩ ?_
          exact ⟨(v0.f_Max != 0), by kernel_rfl, by kernel_rfl, hF⟩
      · have hF := cond_f hF hb105
        refine WA.reg [1, 30] [101] [(3, .bool false), (13, .bool false)] (env' := [(1, .val false [.ptr 101 1 0 0]), (30, one (.bool false))]) (os' := [(101, .box (pvL (e_api_Re v0)))]) (O := [(v0.f_Kind != 1) = false, (v0.f_Kind != 4) = false]) (by kernel_rfl) (sound _ _) ⟨hb101, hb105, trivial⟩ ?_
        exact ⟨false, by kernel_rfl, by kernel_rfl, hF⟩
def F43 : Nat → api_Re → Option Bool
  | 0, _ => none
  | k + 1, v0 => F43_b (F43 k) k v0
theorem F43_ok : ∀ (k : Nat), ∀ (v0 : api_Re) (r : Bool), F43 k v0 = some r → Sim Tryz.prog GL0 43 [.val true (pvL (e_api_Re v0))] [] (one (.bool r)) []
  | 0 => fun _ _ hF => by cases hF
  | k + 1 => fun v0 r hF => F43_b_ok (F43 k) (F43_ok k) k v0 r hF
/-! entrepot entrepotref10.May -/
def F22_j0 (v106 : Bool) : Option Bool :=
  some v106
def F22 (k : Nat) (v0 : api_Re) : Option Bool :=
  (F42 k v0 1).bind fun y101 => cond (decide (y101 ≤ 16)) ((F43 k v0).bind fun y103 => cond y103 ((F20 k v0).bind fun y105 => (F22_j0 (decide (y105 ≤ 200)))) ((F22_j0 false))) ((F22_j0 false))
theorem F22_ok (k : Nat) (v0 : api_Re) (r : Bool) (hF : F22 k v0 = some r) : Sim Tryz.prog GL0 22 [.val true (pvL (e_api_Re v0))] [] (one (.bool r)) [] := by
  refine sim_of [] Tryz.func22 rfl (by kernel_rfl) (by kernel_rfl) ?_
  show WA _ _ 15 _ _ _
  refine WA.seq ?_
  refine WA.reg [1] [101] [(0, .obj 101)] (env' := [(1, .val false [.ptr 101 1 0 0])]) (os' := [(101, .box (pvL (e_api_Re v0)))]) (O := []) (by kernel_rfl) (sound _ _) trivial ?_
  refine WA.join (fun s_ => ∃ (v106 : Bool), pickE s_.env [2] = [(2, one (.bool v106))] ∧ pickE s_.os [] = [] ∧ F22_j0 v106 = some r) ?_ ?_
  · rintro s_ ⟨v106, he, ho, hF⟩
    refine WA.keep _ _ he ho ?_
    clear he ho
    refine WA.ret ?_
    obtain rfl := Option.some.inj hF
    exact out_ret (one (.bool v106)) [] (by kernel_rfl) (by kernel_rfl) (by kernel_rfl) (by kernel_rfl) (by decide) rfl rfl
  · obtain ⟨y101, hy101, hF⟩ := bind_some hF
    rcases Bool.eq_false_or_eq_true (decide (y101 ≤ 16)) with hb102 | hb102
    · have hF := cond_t hF hb102
      obtain ⟨y103, hy103, hF⟩ := bind_some hF
      rcases Bool.eq_false_or_eq_true y103 with hb104 | hb104
      · have hF := cond_t hF hb104
        obtain ⟨y105, hy105, hF⟩ := bind_some hF
        refine WA.reg [2] [] [(1, .callR [] (one (.int .i64 y101))), (3, .bool true), (5, .callR [] (one (.bool y103))), (7, .bool true), (9, .callR [] (one (.int .i64 y105)))] (env' := [(2, one (.bool (decide (y105 ≤ 200))))]) (os' := []) (O := [Sim Tryz.prog GL0 42 [.val true (pvL (e_api_Re v0)), one (.int .i64 1)] [] (one (.int .i64 y101)) [], ([] : List Nat).Nodup, (decide (y101 ≤ 16)) = true, Sim Tryz.prog GL0 43 [.val true (pvL (e_api_Re v0))] [] (one (.bool y103)) [], ([] : List Nat).Nodup, y103 = true, Sim Tryz.prog GL0 20 [.val true (pvL (e_api_Re v0))] [] (one (.int .i64 y105)) [], ([] : List Nat).Nodup]) (by kernel_rfl) (sound _ _) ⟨(F42_ok k _ _ _ hy101), (by decide), hb102, (F43_ok k _ _ hy103), (by decide), hb104, (F20_ok k _ _ hy105), (by decide), trivial⟩ ?_
        exact ⟨(decide (y105 ≤ 200)), by kernel_rfl, by kernel_rfl, hF⟩
      · have hF := cond_f hF hb104
        refine WA.reg [2] [] [(1, .callR [] (one (.int .i64 y101))), (3, .bool true), (5, .callR [] (one (.bool y103))), (7, .bool false)] (env' := [(2, one (.bool false))]) (os' := []) (O := [Sim Tryz.prog GL0 42 [.val true (pvL (e_api_Re v0)), one (.int .i64 1)] [] (one (.int .i64 y101)) [], ([] : List Nat).Nodup, (decide (y101 ≤ 16)) = true, Sim Tryz.prog GL0 43 [.val true (pvL (e_api_Re v0))] [] (one (.bool y103)) [], ([] : List Nat).Nodup, y103 = false]) (by kernel_rfl) (sound _ _) ⟨(F42_ok k _ _ _ hy101), (by decide), hb102, (F43_ok k _ _ hy103), (by decide), hb104, trivial⟩ ?_
        exact ⟨false, by kernel_rfl, by kernel_rfl, hF⟩
    · have hF := cond_f hF hb102
      refine WA.reg [2] [] [(1, .callR [] (one (.int .i64 y101))), (3, .bool false)] (env' := [(2, one (.bool false))]) (os' := []) (O := [Sim Tryz.prog GL0 42 [.val true (pvL (e_api_Re v0)), one (.int .i64 1)] [] (one (.int .i64 y101)) [], ([] : List Nat).Nodup, (decide (y101 ≤ 16)) = false]) (by kernel_rfl) (sound _ _) ⟨(F42_ok k _ _ _ hy101), (by decide), hb102, trivial⟩ ?_
      exact ⟨false, by kernel_rfl, by kernel_rfl, hF⟩
/-! entrepot entrepotref10.Same -/
def F29_b2 (R29 : api_Re → api_Re → Option Bool) (self2 : Int → Option Bool) (v0 : api_Re) (v1 : api_Re) (v132 : Int) : Option Bool :=
  (cond (decide (v132 < (v0.f_L.length : Int))) ((idxL v0.f_L v132).bind fun y134 => (idxL v1.f_L v132).bind fun y135 => (R29 y134 y135).bind fun y136 => (cond (!y136) ((some false)) ((self2 (w64 (v132 + 1)))))) (((some true))))
def F29_l2 (R29 : api_Re → api_Re → Option Bool) (v0 : api_Re) (v1 : api_Re) : Nat → Int → Option Bool
  | 0, _ => none
  | m_ + 1, v132 => F29_b2 R29 (F29_l2 R29 v0 v1 m_) v0 v1 v132
def F29_b1 (R29 : api_Re → api_Re → Option Bool) (k : Nat) (self1 : Int → Option Bool) (v0 : api_Re) (v1 : api_Re) (v116 : Int) : Option Bool :=
  (cond (decide (v116 < (v0.f_Set.length : Int))) ((idxL v0.f_Set v116).bind fun y118 => (idxL v1.f_Set v116).bind fun y119 => (cond (!((y118.f_Lo == y119.f_Lo) && ((y118.f_Hi == y119.f_Hi) && true))) ((some false)) ((self1 (w64 (v116 + 1)))))) (((F29_l2 R29 v0 v1 k 0))))
def F29_l1 (R29 : api_Re → api_Re → Option Bool) (k : Nat) (v0 : api_Re) (v1 : api_Re) : Nat → Int → Option Bool
  | 0, _ => none
  | m_ + 1, v116 => F29_b1 R29 k (F29_l1 R29 k v0 v1 m_) v0 v1 v116
def F29_j0 (R29 : api_Re → api_Re → Option Bool) (k : Nat) (v0 : api_Re) (v1 : api_Re) (v105 : Bool) : Option Bool :=
  cond v105 ((some false)) (((F29_l1 R29 k v0 v1 k 0)))
def F29_b (R29 : api_Re → api_Re → Option Bool) (k : Nat) (v0 : api_Re) (v1 : api_Re) : Option Bool :=
  (cond (v0.f_Kind != v1.f_Kind) ((F29_j0 R29 k v0 v1 true)) (cond (v0.f_Min != v1.f_Min) ((F29_j0 R29 k v0 v1 true)) (cond (v0.f_Max != v1.f_Max) ((F29_j0 R29 k v0 v1 true)) (cond ((v0.f_L.length : Int) != (v1.f_L.length : Int)) ((F29_j0 R29 k v0 v1 true)) ((F29_j0 R29 k v0 v1 ((v0.f_Set.length : Int) != (v1.f_Set.length : Int))))))))
theorem F29_b_ok (R29 : api_Re → api_Re → Option Bool) (IH29 : ∀ (v0 : api_Re) (v1 : api_Re) (r : Bool), R29 v0 v1 = some r → Sim Tryz.prog GL0 29 [.val true (pvL (e_api_Re v0)), .val true (pvL (e_api_Re v1))] [] (one (.bool r)) []) (k : Nat) (v0 : api_Re) (v1 : api_Re) (r : Bool) (hF : F29_b R29 k v0 v1 = some r) : Sim Tryz.prog GL0 29 [.val true (pvL (e_api_Re v0)), .val true (pvL (e_api_Re v1))] [] (one (.bool r)) [] := by
  refine sim_of [] Tryz.func29 rfl (by kernel_rfl) (by kernel_rfl) ?_
  show WA _ _ 81 _ _ _
  refine WA.seq ?_
  refine WA.reg [2, 3] [102, 103] [(0, .obj 102), (1, .obj 103)] (env' := [(2, .val false [.ptr 102 1 0 0]), (3, .val false [.ptr 103 1 0 0])]) (os' := [(102, .box (pvL (e_api_Re v0))), (103, .box (pvL (e_api_Re v1)))]) (O := []) (by kernel_rfl) (sound _ _) trivial ?_
  refine WA.seq ?_
  refine WA.join (fun s_ => ∃ (v105 : Bool), pickE s_.env [2, 3, 43] = [(2, .val false [.ptr 102 1 0 0]), (3, .val false [.ptr 103 1 0 0]), (43, one (.bool v105))] ∧ pickE s_.os [102, 103] = [(102, .box (pvL (e_api_Re v0))), (103, .box (pvL (e_api_Re v1)))] ∧ F29_j0 R29 k v0 v1 v105 = some r) ?_ ?_
  · rintro s_ ⟨v105, he, ho, hF⟩
    refine WA.keep _ _ he ho ?_
    clear he ho
    refine WA.cond (b := v105) rfl (fun hb106 => ?_) (fun hb106 => ?_)
    · have hF := cond_t hF hb106
      refine WA.seq ?_
      refine WA.reg [4] [] [] (env' := [(4, one (.bool false))]) (os' := []) (O := []) (by kernel_rfl) (sound _ _) trivial ?_
      refine WA.ret ?_
      obtain rfl := Option.some.inj hF
      exact out_ret (one (.bool false)) [] (by kernel_rfl) (by kernel_rfl) (by kernel_rfl) (by kernel_rfl) (by decide) rfl rfl
    · have hF := cond_f hF hb106
      refine WA.skip ?_
      refine WA.seq ?_
      refine WA.seq ?_
      refine WA.reg [2, 3, 5] [102, 103] [] (env' := [(2, .val false [.ptr 102 1 0 0]), (3, .val false [.ptr 103 1 0 0]), (5, one (.int .i64 0))]) (os' := [(102, .box (pvL (e_api_Re v0))), (103, .box (pvL (e_api_Re v1)))]) (O := []) (by kernel_rfl) (sound _ _) trivial ?_
      refine WA.block ?_
      refine WA.loop (fun m s_ => ∃ (v116 : Int), pickE s_.env [2, 3, 5] = [(2, .val false [.ptr 102 1 0 0]), (3, .val false [.ptr 103 1 0 0]), (5, one (.int .i64 v116))] ∧ pickE s_.os [102, 103] = [(102, .box (pvL (e_api_Re v0))), (103, .box (pvL (e_api_Re v1)))] ∧ F29_l1 R29 k v0 v1 m v116 = some r) k ⟨0, by kernel_rfl, by kernel_rfl, hF⟩ ?_
      clear hF
      rintro m1 s_ ⟨v116, he, ho, hF⟩
      refine WA.keep _ _ he ho ?_
      clear he ho
      cases m1 with
      | zero => cases hF
      | succ m1 =>
        obtain ⟨self1, hself1⟩ : ∃ g, g = F29_l1 R29 k v0 v1 m1 := ⟨_, rfl⟩
        have hF : F29_b1 R29 k self1 v0 v1 v116 = some r := by rw [hself1]; exact hF
        refine WA.seq ?_
        refine WA.seq ?_
        refine WA.regM (α := Int) (raw := ((v0.f_Set.map e_api_Range).length : Int)) (can := (v0.f_Set.length : Int)) (fun m_ => ([(2, .val false [.ptr 102 1 0 0]), (3, .val false [.ptr 103 1 0 0]), (5, one (.int .i64 v116)), (48, one (.bool (decide (v116 < m_))))], [(102, .box (pvL (e_api_Re v0))), (103, .box (pvL (e_api_Re v1)))], [])) ((by first | (simp only [List.length_map, List.length_append, List.length_cons, List.length_nil, List.length_set, List.length_replicate, List.length_take, List.length_drop, lens_api_Re]; done) | (simp only [List.length_map, List.length_append, List.length_cons, List.length_nil, List.length_set, List.length_replicate, List.length_take, List.length_drop, lens_api_Re]; omega) | omega)) [2, 3, 5, 48] [102, 103] [] (env' := [(2, .val false [.ptr 102 1 0 0]), (3, .val false [.ptr 103 1 0 0]), (5, one (.int .i64 v116)), (48, one (.bool (decide (v116 < (v0.f_Set.length : Int)))))]) (os' := [(102, .box (pvL (e_api_Re v0))), (103, .box (pvL (e_api_Re v1)))]) (O := []) (by kernel_rfl) (by kernel_rfl) (sound _ _) trivial ?_
        refine WA.cond (b := (decide (v116 < (v0.f_Set.length : Int)))) rfl (fun hb117 => ?_) (fun hb117 => ?_)
        · have hF := cond_t hF hb117
          refine WA.skip ?_
          refine WA.seq ?_
          refine WA.block ?_
          refine WA.seq ?_
          obtain ⟨y118, hy118, hF⟩ := bind_some hF
          obtain ⟨y119, hy119, hF⟩ := bind_some hF
          refine WA.regD (by kernel_rfl) [2, 3, 5, 61] [102, 103] [(3, .cells (e_api_Range y118)), (8, .cells (e_api_Range y119))] (env' := [(2, .val false [.ptr 102 1 0 0]), (3, .val false [.ptr 103 1 0 0]), (5, one (.int .i64 v116)), (61, one (.bool (!((y118.f_Lo == y119.f_Lo) && ((y118.f_Hi == y119.f_Hi) && true)))))]) (os' := [(102, .box (pvL (e_api_Re v0))), (103, .box (pvL (e_api_Re v1)))]) (O := [idxL (v0.f_Set.map e_api_Range) v116 = some (e_api_Range y118), idxL (v1.f_Set.map e_api_Range) v116 = some (e_api_Range y119)]) (by kernel_rfl) (by kernel_rfl) (sound _ _) ⟨(idx_map _ hy118), (idx_map _ hy119), trivial⟩ ?_
          refine WA.cond (b := (!((y118.f_Lo == y119.f_Lo) && ((y118.f_Hi == y119.f_Hi) && true)))) rfl (fun hb120 => ?_) (fun hb120 => ?_)
          · have hF := cond_t hF hb120
            refine WA.seq ?_
            refine WA.reg [4] [] [] (env' := [(4, one (.bool false))]) (os' := []) (O := []) (by kernel_rfl) (sound _ _) trivial ?_
            refine WA.ret ?_
            obtain rfl := Option.some.inj hF
            exact out_ret (one (.bool false)) [] (by kernel_rfl) (by kernel_rfl) (by kernel_rfl) (by kernel_rfl) (by decide) rfl rfl
          · have hF := cond_f hF hb120
            refine WA.skip ?_
            refine WA.reg [2, 3, 5] [102, 103] [] (env' := [(2, .val false [.ptr 102 1 0 0]), (3, .val false [.ptr 103 1 0 0]), (5, one (.int .i64 (w64 (v116 + 1))))]) (os' := [(102, .box (pvL (e_api_Re v0))), (103, .box (pvL (e_api_Re v1)))]) (O := []) (by kernel_rfl) (sound _ _) trivial ?_
            exact ⟨m1, Nat.lt_succ_self _, (w64 (v116 + 1)), by kernel_rfl, by kernel_rfl, by rw [hself1] at hF; exact hF⟩
        · have hF := cond_f hF hb117
          refine WA.exit ?_
          refine WA.seq ?_
          refine WA.seq ?_
          refine WA.reg [2, 3, 6] [102, 103] [] (env' := [(2, .val false [.ptr 102 1 0 0]), (3, .val false [.ptr 103 1 0 0]), (6, one (.int .i64 0))]) (os' := [(102, .box (pvL (e_api_Re v0))), (103, .box (pvL (e_api_Re v1)))]) (O := []) (by kernel_rfl) (sound _ _) trivial ?_
          refine WA.block ?_
          refine WA.loop (fun m s_ => ∃ (v132 : Int), pickE s_.env [2, 3, 6] = [(2, .val false [.ptr 102 1 0 0]), (3, .val false [.ptr 103 1 0 0]), (6, one (.int .i64 v132))] ∧ pickE s_.os [102, 103] = [(102, .box (pvL (e_api_Re v0))), (103, .box (pvL (e_api_Re v1)))] ∧ F29_l2 R29 v0 v1 m v132 = some r) k ⟨0, by kernel_rfl, by kernel_rfl, hF⟩ ?_
          clear hF
          rintro m2 s_ ⟨v132, he, ho, hF⟩
          refine WA.keep _ _ he ho ?_
          clear he ho
          cases m2 with
          | zero => cases hF
          | succ m2 =>
            obtain ⟨self2, hself2⟩ : ∃ g, g = F29_l2 R29 v0 v1 m2 := ⟨_, rfl⟩
            have hF : F29_b2 R29 self2 v0 v1 v132 = some r := by rw [hself2]; exact hF
            refine WA.seq ?_
            refine WA.seq ?_
            refine WA.regM (α := Int) (raw := ((es_api_Re v0.f_L).length : Int)) (can := (v0.f_L.length : Int)) (fun m_ => ([(2, .val false [.ptr 102 1 0 0]), (3, .val false [.ptr 103 1 0 0]), (6, one (.int .i64 v132)), (66, one (.bool (decide (v132 < m_))))], [(102, .box (pvL (e_api_Re v0))), (103, .box (pvL (e_api_Re v1)))], [])) ((by first | (simp only [List.length_map, List.length_append, List.length_cons, List.length_nil, List.length_set, List.length_replicate, List.length_take, List.length_drop, lens_api_Re]; done) | (simp only [List.length_map, List.length_append, List.length_cons, List.length_nil, List.length_set, List.length_replicate, List.length_take, List.length_drop, lens_api_Re]; omega) | omega)) [2, 3, 6, 66] [102, 103] [] (env' := [(2, .val false [.ptr 102 1 0 0]), (3, .val false [.ptr 103 1 0 0]), (6, one (.int .i64 v132)), (66, one (.bool (decide (v132 < (v0.f_L.length : Int)))))]) (os' := [(102, .box (pvL (e_api_Re v0))), (103, .box (pvL (e_api_Re v1)))]) (O := []) (by kernel_rfl) (by kernel_rfl) (sound _ _) trivial ?_
            refine WA.cond (b := (decide (v132 < (v0.f_L.length : Int)))) rfl (fun hb133 => ?_) (fun hb133 => ?_)
            · have hF := cond_t hF hb133
              refine WA.skip ?_
              refine WA.seq ?_
              refine WA.block ?_
              refine WA.seq ?_
              obtain ⟨y134, hy134, hF⟩ := bind_some hF
              obtain ⟨y135, hy135, hF⟩ := bind_some hF
              obtain ⟨y136, hy136, hF⟩ := bind_some hF
              refine WA.regD (by kernel_rfl) [2, 3, 6, 80] [102, 103] [(3, .cells (e_api_Re y134)), (8, .cells (e_api_Re y135)), (10, .callR [] (one (.bool y136)))] (env' := [(2, .val false [.ptr 102 1 0 0]), (3, .val false [.ptr 103 1 0 0]), (6, one (.int .i64 v132)), (80, one (.bool (!y136)))]) (os' := [(102, .box (pvL (e_api_Re v0))), (103, .box (pvL (e_api_Re v1)))]) (O := [idxL (es_api_Re v0.f_L) v132 = some (e_api_Re y134), idxL (es_api_Re v1.f_L) v132 = some (e_api_Re y135), Sim Tryz.prog GL0 29 [.val true (pvL (e_api_Re y134)), .val true (pvL (e_api_Re y135))] [] (one (.bool y136)) [], ([] : List Nat).Nodup]) (by kernel_rfl) (by kernel_rfl) (sound _ _) ⟨(idx_api_Re hy134), (idx_api_Re hy135), (IH29 _ _ _ hy136), (by decide), trivial⟩ ?_
              refine WA.cond (b := (!y136)) rfl (fun hb137 => ?_) (fun hb137 => ?_)
              · have hF := cond_t hF hb137
                refine WA.seq ?_
                refine WA.reg [4] [] [] (env' := [(4, one (.bool false))]) (os' := []) (O := []) (by kernel_rfl) (sound _ _) trivial ?_
                refine WA.ret ?_
                obtain rfl := Option.some.inj hF
                exact out_ret (one (.bool false)) [] (by kernel_rfl) (by kernel_rfl) (by kernel_rfl) (by kernel_rfl) (by decide) rfl rfl
              · have hF := cond_f hF hb137
                refine WA.skip ?_
                refine WA.reg [2, 3, 6] [102, 103] [] (env' := [(2, .val false [.ptr 102 1 0 0]), (3, .val false [.ptr 103 1 0 0]), (6, one (.int .i64 (w64 (v132 + 1))))]) (os' := [(102, .box (pvL (e_api_Re v0))), (103, .box (pvL (e_api_Re v1)))]) (O := []) (by kernel_rfl) (sound _ _) trivial ?_
                exact ⟨m2, Nat.lt_succ_self _, (w64 (v132 + 1)), by kernel_rfl, by kernel_rfl, by rw [hself2] at hF; exact hF⟩
            · have hF := cond_f hF hb133
              refine WA.exit ?_
              refine WA.seq ?_
              refine WA.reg [4] [] [] (env' := [(4, one (.bool true))]) (os' := []) (O := []) (by kernel_rfl) (sound _ _) trivial ?_
              refine WA.ret ?_
              obtain rfl := Option.some.inj hF
              exact out_ret (one (.bool true)) [] (by kernel_rfl) (by kernel_rfl) (by kernel_rfl) (by kernel_rfl) (by decide) rfl rfl
  · rcases Bool.eq_false_or_eq_true (v0.f_Kind != v1.f_Kind) with hb101 | hb101
    · have hF := cond_t hF hb101
      refine WA.reg [2, 3, 43] [102, 103] [(5, .bool true)] (env' := [(2, .val false [.ptr 102 1 0 0]), (3, .val false [.ptr 103 1 0 0]), (43, one (.bool true))]) (os' := [(102, .box (pvL (e_api_Re v0))), (103, .box (pvL (e_api_Re v1)))]) (O := [(v0.f_Kind != v1.f_Kind) = true]) (by kernel_rfl) (sound _ _) ⟨hb101, trivial⟩ ?_
      exact ⟨true, by kernel_rfl, by kernel_rfl, hF⟩
    · have hF := cond_f hF hb101
      rcases Bool.eq_false_or_eq_true (v0.f_Min != v1.f_Min) with hb102 | hb102
      · have hF := cond_t hF hb102
        refine WA.reg [2, 3, 43] [102, 103] [(5, .bool false), (12, .bool true)] (env' := [(2, .val false [.ptr 102 1 0 0]), (3, .val false [.ptr 103 1 0 0]), (43, one (.bool true))]) (os' := [(102, .box (pvL (e_api_Re v0))), (103, .box (pvL (e_api_Re v1)))]) (O := [(v0.f_Kind != v1.f_Kind) = false, (v0.f_Min != v1.f_Min) = true]) (by kernel_rfl) (sound _ _) ⟨hb101, hb102, trivial⟩ ?_
        exact ⟨true, by kernel_rfl, by kernel_rfl, hF⟩
      · have hF := cond_f hF hb102
        rcases Bool.eq_false_or_eq_true (v0.f_Max != v1.f_Max) with hb103 | hb103
        · have hF := cond_t hF hb103
          refine WA.reg [2, 3, 43] [102, 103] [(5, .bool false), (12, .bool false), (19, .bool true)] (env' := [(2, .val false [.ptr 102 1 0 0]), (3, .val false [.ptr 103 1 0 0]), (43, one (.bool true))]) (os' := [(102, .box (pvL (e_api_Re v0))), (103, .box (pvL (e_api_Re v1)))]) (O := [(v0.f_Kind != v1.f_Kind) = false, (v0.f_Min != v1.f_Min) = false, (v0.f_Max != v1.f_Max) = true]) (by kernel_rfl) (sound _ _) ⟨hb101, hb102, hb103, trivial⟩ ?_
          exact ⟨true, by kernel_rfl, by kernel_rfl, hF⟩
        · have hF := cond_f hF hb103
          rcases Bool.eq_false_or_eq_true ((v0.f_L.length : Int) != (v1.f_L.length : Int)) with hb104 | hb104
          · have hF := cond_t hF hb104
            refine WA.regM (α := Int × Int) (raw := (((es_api_Re v0.f_L).length : Int), ((es_api_Re v1.f_L).length : Int))) (can := ((v0.f_L.length : Int), (v1.f_L.length : Int))) (fun m_ => ([(2, .val false [.ptr 102 1 0 0]), (3, .val false [.ptr 103 1 0 0]), (43, one (.bool true))], [(102, .box (pvL (e_api_Re v0))), (103, .box (pvL (e_api_Re v1)))], [(v0.f_Kind != v1.f_Kind) = false, (v0.f_Min != v1.f_Min) = false, (v0.f_Max != v1.f_Max) = false, (m_.1 != m_.2) = true])) (pair_eq (by first | (simp only [List.length_map, List.length_append, List.length_cons, List.length_nil, List.length_set, List.length_replicate, List.length_take, List.length_drop, lens_api_Re]; done) | (simp only [List.length_map, List.length_append, List.length_cons, List.length_nil, List.length_set, List.length_replicate, List.length_take, List.length_drop, lens_api_Re]; omega) | omega) (by first | (simp only [List.length_map, List.length_append, List.length_cons, List.length_nil, List.length_set, List.length_replicate, List.length_take, List.length_drop, lens_api_Re]; done) | (simp only [List.length_map, List.length_append, List.length_cons, List.length_nil, List.length_set, List.length_replicate, List.length_take, List.length_drop, lens_api_Re]; omega) | omega)) [2, 3, 43] [102, 103] [(5, .bool false), (12, .bool false), (19, .bool false), (28, .bool true)] (env' := [(2, .val false [.ptr 102 1 0 0]), (3, .val false [.ptr 103 1 0 0]), (43, one (.bool true))]) (os' := [(102, .box (pvL (e_api_Re v0))), (103, .box (pvL (e_api_Re v1)))]) (O := [(v0.f_Kind != v1.f_Kind) = false, (v0.f_Min != v1.f_Min) = false, (v0.f_Max != v1.f_Max) = false, ((v0.f_L.length : Int) != (v1.f_L.length : Int)) = true]) (by kernel_rfl) (by kernel_rfl) (sound _ _) ⟨hb101, hb102, hb103, hb104, trivial⟩ ?_
            exact ⟨true, by kernel_rfl, by kernel_rfl, hF⟩
          · have hF := cond_f hF hb104
            refine WA.regM (α := Int × Int × Int × Int) (raw := (((v0.f_Set.map e_api_Range).length : Int), ((v1.f_Set.map e_api_Range).length : Int), ((es_api_Re v0.f_L).length : Int), ((es_api_Re v1.f_L).length : Int))) (can := ((v0.f_Set.length : Int), (v1.f_Set.length : Int), (v0.f_L.length : Int), (v1.f_L.length : Int))) (fun m_ => ([(2, .val false [.ptr 102 1 0 0]), (3, .val false [.ptr 103 1 0 0]), (43, one (.bool (m_.1 != m_.2.1)))], [(102, .box (pvL (e_api_Re v0))), (103, .box (pvL (e_api_Re v1)))], [(v0.f_Kind != v1.f_Kind) = false, (v0.f_Min != v1.f_Min) = false, (v0.f_Max != v1.f_Max) = false, (m_.2.2.1 != m_.2.2.2) = false])) (pair_eq (by first | (simp only [List.length_map, List.length_append, List.length_cons, List.length_nil, List.length_set, List.length_replicate, List.length_take, List.length_drop, lens_api_Re]; done) | (simp only [List.length_map, List.length_append, List.length_cons, List.length_nil, List.length_set, List.length_replicate, List.length_take, List.length_drop, lens_api_Re]; omega) | omega) (pair_eq (by first | (simp only [List.length_map, List.length_append, List.length_cons, List.length_nil, List.length_set, List.length_replicate, List.length_take, List.length_drop, lens_api_Re]; done) | (simp only [List.length_map, List.length_append, List.length_cons, List.length_nil, List.length_set, List.length_replicate, List.length_take, List.length_drop, lens_api_Re]; omega) | omega) (pair_eq (by first | (simp only [List.length_map, List.length_append, List.length_cons, List.length_nil, List.length_set, List.length_replicate, List.length_take, List.length_drop, lens_api_Re]; done) | (simp only [List.length_map, List.length_append, List.length_cons, List.length_nil, List.length_set, List.length_replicate, List.length_take, List.length_drop, lens_api_Re]; omega) | omega) (by first | (simp only [List.length_map, List.length_append, List.length_cons, List.length_nil, List.length_set, List.length_replicate, List.length_take, List.length_drop, lens_api_Re]; done) | (simp only [List.length_map, List.length_append, List.length_cons, List.length_nil, List.length_set, List.length_replicate, List.length_take, List.length_drop, lens_api_Re]; omega) | omega)))) [2, 3, 43] [102, 103] [(5, .bool false), (12, .bool false), (19, .bool false), (28, .bool false)] (env' := [(2, .val false [.ptr 102 1 0 0]), (3, .val false [.ptr 103 1 0 0]), (43, one (.bool ((v0.f_Set.length : Int) != (v1.f_Set.length : Int))))]) (os' := [(102, .box (pvL (e_api_Re v0))), (103, .box (pvL (e_api_Re v1)))]) (O := [(v0.f_Kind != v1.f_Kind) = false, (v0.f_Min != v1.f_Min) = false, (v0.f_Max != v1.f_Max) = false, ((v0.f_L.length : Int) != (v1.f_L.length : Int)) = false]) (by kernel_rfl) (by kernel_rfl) (sound _ _) ⟨hb101, hb102, hb103, hb104, trivial⟩ ?_
            exact ⟨((v0.f_Set.length : Int) != (v1.f_Set.length : Int)), by kernel_rfl, by kernel_rfl, hF⟩
def F29 : Nat → api_Re → api_Re → Option Bool
  | 0, _, _ => none
  | k + 1, v0, v1 => F29_b (F29 k) k v0 v1
theorem F29_ok : ∀ (k : Nat), ∀ (v0 : api_Re) (v1 : api_Re) (r : Bool), F29 k v0 v1 = some r → Sim Tryz.prog GL0 29 [.val true (pvL (e_api_Re v0)), .val true (pvL (e_api_Re v1))] [] (one (.bool r)) []
  | 0 => fun _ _ _ hF => by cases hF
  | k + 1 => fun v0 v1 r hF => F29_b_ok (F29 k) (F29_ok k) k v0 v1 r hF
/-! entrepot entrepotref10.in -/
def F68_j3 (self2 : Int → Option Bool) (v114 : Int) (v119 : Bool) : Option Bool :=
  cond v119 ((some true)) ((self2 (w64 (v114 + 1))))
def F68_b2 (self2 : Int → Option Bool) (v0 : List api_Range) (v1 : Int) (v114 : Int) : Option Bool :=
  (cond (decide (v114 < (v0.length : Int))) ((idxL v0 v114).bind fun y116 => cond (decide (y116.f_Lo ≤ v1)) ((idxL v0 v114).bind fun y118 => (F68_j3 self2 v114 (decide (v1 ≤ y118.f_Hi)))) ((F68_j3 self2 v114 false))) (((some false))))
def F68_l2 (v0 : List api_Range) (v1 : Int) : Nat → Int → Option Bool
  | 0, _ => none
  | m_ + 1, v114 => F68_b2 (F68_l2 v0 v1 m_) v0 v1 v114
def F68 (k : Nat) (v0 : List api_Range) (v1 : Int) : Option Bool :=
  ((F68_l2 v0 v1 k 0))
theorem F68_ok (k : Nat) (v0 : List api_Range) (v1 : Int) (r : Bool) (hF : F68 k v0 v1 = some r) : Sim Tryz.prog GL0 68 [one (.sl (v0.map e_api_Range)), one (.int .i64 v1)] [] (one (.bool r)) [] := by
  refine sim_of [] Tryz.func68 rfl (by kernel_rfl) (by kernel_rfl) ?_
  show WA _ _ 28 _ _ _
  refine WA.seq ?_
  refine WA.reg [0, 1] [] [] (env' := [(0, one (.sl (v0.map e_api_Range))), (1, one (.int .i64 v1))]) (os' := []) (O := []) (by kernel_rfl) (sound _ _) trivial ?_
  refine WA.seq ?_
  refine WA.seq ?_
  refine WA.reg [0, 1, 5] [] [] (env' := [(0, one (.sl (v0.map e_api_Range))), (1, one (.int .i64 v1)), (5, one (.int .i64 0))]) (os' := []) (O := []) (by kernel_rfl) (sound _ _) trivial ?_
  refine WA.block ?_
  refine WA.loop (fun m s_ => ∃ (v114 : Int), pickE s_.env [0, 1, 5] = [(0, one (.sl (v0.map e_api_Range))), (1, one (.int .i64 v1)), (5, one (.int .i64 v114))] ∧ pickE s_.os [] = [] ∧ F68_l2 v0 v1 m v114 = some r) k ⟨0, by kernel_rfl, by kernel_rfl, hF⟩ ?_
  clear hF
  rintro m2 s_ ⟨v114, he, ho, hF⟩
  refine WA.keep _ _ he ho ?_
  clear he ho
  cases m2 with
  | zero => cases hF
  | succ m2 =>
    obtain ⟨self2, hself2⟩ : ∃ g, g = F68_l2 v0 v1 m2 := ⟨_, rfl⟩
    have hF : F68_b2 self2 v0 v1 v114 = some r := by rw [hself2]; exact hF
    refine WA.seq ?_
    refine WA.seq ?_
    refine WA.regM (α := Int) (raw := ((v0.map e_api_Range).length : Int)) (can := (v0.length : Int)) (fun m_ => ([(0, one (.sl (v0.map e_api_Range))), (1, one (.int .i64 v1)), (5, one (.int .i64 v114)), (9, one (.bool (decide (v114 < m_))))], [], [])) ((by first | (simp only [List.length_map, List.length_append, List.length_cons, List.length_nil, List.length_set, List.length_replicate, List.length_take, List.length_drop, lens_api_Re]; done) | (simp only [List.length_map, List.length_append, List.length_cons, List.length_nil, List.length_set, List.length_replicate, List.length_take, List.length_drop, lens_api_Re]; omega) | omega)) [0, 1, 5, 9] [] [] (env' := [(0, one (.sl (v0.map e_api_Range))), (1, one (.int .i64 v1)), (5, one (.int .i64 v114)), (9, one (.bool (decide (v114 < (v0.length : Int)))))]) (os' := []) (O := []) (by kernel_rfl) (by kernel_rfl) (sound _ _) trivial ?_
    refine WA.cond (b := (decide (v114 < (v0.length : Int)))) rfl (fun hb115 => ?_) (fun hb115 => ?_)
    · have hF := cond_t hF hb115
      refine WA.skip ?_
      refine WA.seq ?_
      refine WA.block ?_
      refine WA.join (fun s_ => ∃ (v119 : Bool), pickE s_.env [0, 1, 5, 27] = [(0, one (.sl (v0.map e_api_Range))), (1, one (.int .i64 v1)), (5, one (.int .i64 v114)), (27, one (.bool v119))] ∧ pickE s_.os [] = [] ∧ F68_j3 self2 v114 v119 = some r) ?_ ?_
      · rintro s_ ⟨v119, he, ho, hF⟩
        refine WA.keep _ _ he ho ?_
        clear he ho
        refine WA.cond (b := v119) rfl (fun hb120 => ?_) (fun hb120 => ?_)
        · have hF := cond_t hF hb120
          refine WA.seq ?_
          refine WA.reg [4] [] [] (env' := [(4, one (.bool true))]) (os' := []) (O := []) (by kernel_rfl) (sound _ _) trivial ?_
          refine WA.ret ?_
          obtain rfl := Option.some.inj hF
          exact out_ret (one (.bool true)) [] (by kernel_rfl) (by kernel_rfl) (by kernel_rfl) (by kernel_rfl) (by decide) rfl rfl
        · have hF := cond_f hF hb120
          refine WA.skip ?_
          refine WA.reg [0, 1, 5] [] [] (env' := [(0, one (.sl (v0.map e_api_Range))), (1, one (.int .i64 v1)), (5, one (.int .i64 (w64 (v114 + 1))))]) (os' := []) (O := []) (by kernel_rfl) (sound _ _) trivial ?_
          exact ⟨m2, Nat.lt_succ_self _, (w64 (v114 + 1)), by kernel_rfl, by kernel_rfl, by rw [hself2] at hF; exact hF⟩
      · obtain ⟨y116, hy116, hF⟩ := bind_some hF
        rcases Bool.eq_false_or_eq_true (decide (y116.f_Lo ≤ v1)) with hb117 | hb117
        · have hF := cond_t hF hb117
          obtain ⟨y118, hy118, hF⟩ := bind_some hF
          refine WA.reg [0, 1, 5, 27] [] [(2, .cells (e_api_Range y116)), (7, .bool true), (11, .cells (e_api_Range y118))] (env' := [(0, one (.sl (v0.map e_api_Range))), (1, one (.int .i64 v1)), (5, one (.int .i64 v114)), (27, one (.bool (decide (v1 ≤ y118.f_Hi))))]) (os' := []) (O := [idxL (v0.map e_api_Range) v114 = some (e_api_Range y116), (decide (y116.f_Lo ≤ v1)) = true, idxL (v0.map e_api_Range) v114 = some (e_api_Range y118)]) (by kernel_rfl) (sound _ _) ⟨(idx_map _ hy116), hb117, (idx_map _ hy118), trivial⟩ ?_
          exact ⟨(decide (v1 ≤ y118.f_Hi)), by kernel_rfl, by kernel_rfl, hF⟩
        · have hF := cond_f hF hb117
          refine WA.reg [0, 1, 5, 27] [] [(2, .cells (e_api_Range y116)), (7, .bool false)] (env' := [(0, one (.sl (v0.map e_api_Range))), (1, one (.int .i64 v1)), (5, one (.int .i64 v114)), (27, one (.bool false))]) (os' := []) (O := [idxL (v0.map e_api_Range) v114 = some (e_api_Range y116), (decide (y116.f_Lo ≤ v1)) = false]) (by kernel_rfl) (sound _ _) ⟨(idx_map _ hy116), hb117, trivial⟩ ?_
          exact ⟨false, by kernel_rfl, by kernel_rfl, hF⟩
    · have hF := cond_f hF hb115
      refine WA.exit ?_
      refine WA.seq ?_
      refine WA.reg [4] [] [] (env' := [(4, one (.bool false))]) (os' := []) (O := []) (by kernel_rfl) (sound _ _) trivial ?_
      refine WA.ret ?_
      obtain rfl := Option.some.inj hF
      exact out_ret (one (.bool false)) [] (by kernel_rfl) (by kernel_rfl) (by kernel_rfl) (by kernel_rfl) (by decide) rfl rfl
/-! entrepot entrepotref10.or -/
def F69_j6 (self4 : (List Bool) → Bool → Int → Option (Bool × (List Bool))) (v143 : Int) (v159 : List Bool) (v161 : Bool) : Option (Bool × (List Bool)) :=
  self4 v159 v161 (w64 (v143 + 1))
def F69_j5 (self4 : (List Bool) → Bool → Int → Option (Bool × (List Bool))) (v1 : List Bool) (v140 : List Bool) (v143 : Int) (v150 : Bool) : Option (Bool × (List Bool)) :=
  if (0 : Int) ≤ v143 ∧ v143 < (v140.length : Int) then (idxL v140 v143).bind fun y152 => cond y152 (if (0 : Int) ≤ v143 ∧ v143 < (v140.length : Int) then (idxL v140 v143).bind fun y155 => (F69_j6 self4 v143 (v140.set (Int.toNat v143) true) v150) else none) ((idxL v1 v143).bind fun y156 => if (0 : Int) ≤ v143 ∧ v143 < (v140.length : Int) then (idxL v140 v143).bind fun y158 => (F69_j6 self4 v143 (v140.set (Int.toNat v143) y156) v150) else none) else none
def F69_b4 (self4 : (List Bool) → Bool → Int → Option (Bool × (List Bool))) (v1 : List Bool) (v140 : List Bool) (v142 : Bool) (v143 : Int) : Option (Bool × (List Bool)) :=
  (cond (decide (v143 < (v140.length : Int))) ((cond v142 ((F69_j5 self4 v1 v140 v143 true)) ((idxL v1 v143).bind fun y146 => cond y146 (if (0 : Int) ≤ v143 ∧ v143 < (v140.length : Int) then (idxL v140 v143).bind fun y149 => (F69_j5 self4 v1 v140 v143 (!y149)) else none) ((F69_j5 self4 v1 v140 v143 false))))) (((some (v142, v140)))))
def F69_l4 (v1 : List Bool) : Nat → (List Bool) → Bool → Int → Option (Bool × (List Bool))
  | 0, _, _, _ => none
  | m_ + 1, v140, v142, v143 => F69_b4 (F69_l4 v1 m_) v1 v140 v142 v143
def F69 (k : Nat) (v0 : List Bool) (v1 : List Bool) : Option (Bool × (List Bool)) :=
  (((F69_l4 v1 k v0 false 0)))
theorem F69_ok (k : Nat) (v0 : List Bool) (v1 : List Bool) (r : Bool × (List Bool)) (hF : F69 k v0 v1 = some r) {n0 : Nat} (hn_n0 : n0 = v0.length) : Sim Tryz.prog GL0 69 [.val false [.arr 0 n0], one (.sl (v1.map eBool))] [.arr 1 (v0.map eBool)] (one (.bool r.1)) [.arr 1 (r.2.map eBool)] := by
  refine sim_of [0] Tryz.func69 rfl (by kernel_rfl) (by kernel_rfl) ?_
  show WA _ _ 41 _ _ _
  refine WA.seq ?_
  refine WA.reg [0, 1] [0] [] (env' := [(0, .val false [.arr 0 n0]), (1, one (.sl (v1.map eBool)))]) (os' := [(0, .arr 1 (v0.map eBool))]) (O := []) (by kernel_rfl) (sound _ _) trivial ?_
  refine WA.seq ?_
  refine WA.reg [0, 1, 5] [0] [] (env' := [(0, .val false [.arr 0 n0]), (1, one (.sl (v1.map eBool))), (5, one (.bool false))]) (os' := [(0, .arr 1 (v0.map eBool))]) (O := []) (by kernel_rfl) (sound _ _) trivial ?_
  refine WA.seq ?_
  refine WA.seq ?_
  refine WA.reg [0, 1, 5, 6] [0] [] (env' := [(0, .val false [.arr 0 n0]), (1, one (.sl (v1.map eBool))), (5, one (.bool false)), (6, one (.int .i64 0))]) (os' := [(0, .arr 1 (v0.map eBool))]) (O := []) (by kernel_rfl) (sound _ _) trivial ?_
  refine WA.block ?_
  refine WA.loop (fun m s_ => ∃ (v140 : List Bool) (v141 : Nat) (v142 : Bool) (v143 : Int), pickE s_.env [0, 1, 5, 6] = [(0, .val false [.arr 0 v141]), (1, one (.sl (v1.map eBool))), (5, one (.bool v142)), (6, one (.int .i64 v143))] ∧ pickE s_.os [0] = [(0, .arr 1 (v140.map eBool))] ∧ v141 = (v140 : List _).length ∧ F69_l4 v1 m v140 v142 v143 = some r) k ⟨v0, n0, false, 0, by kernel_rfl, by kernel_rfl, (by first | omega | (simp only [List.length_map, List.length_append, List.length_cons, List.length_nil, List.length_set, List.length_replicate, List.length_take, List.length_drop, lens_api_Re]; done) | (simp only [List.length_map, List.length_append, List.length_cons, List.length_nil, List.length_set, List.length_replicate, List.length_take, List.length_drop, lens_api_Re]; omega) | (simp only [List.length_map, List.length_append, List.length_cons, List.length_nil, List.length_set, List.length_replicate, List.length_take, List.length_drop, lens_api_Re] at *; omega)), hF⟩ ?_
  clear hF
  rintro m4 s_ ⟨v140, v141, v142, v143, he, ho, hn_v141, hF⟩
  refine WA.keep _ _ he ho ?_
  clear he ho
  cases m4 with
  | zero => cases hF
  | succ m4 =>
    obtain ⟨self4, hself4⟩ : ∃ g, g = F69_l4 v1 m4 := ⟨_, rfl⟩
    have hF : F69_b4 self4 v1 v140 v142 v143 = some r := by rw [hself4]; exact hF
    refine WA.seq ?_
    refine WA.seq ?_
    refine WA.regM (α := Int) (raw := ((v141 : Nat) : Int)) (can := (v140.length : Int)) (fun m_ => ([(0, .val false [.arr 0 v141]), (1, one (.sl (v1.map eBool))), (5, one (.bool v142)), (6, one (.int .i64 v143)), (10, one (.bool (decide (v143 < m_))))], [(0, .arr 1 (v140.map eBool))], [])) ((by first | (simp only [List.length_map, List.length_append, List.length_cons, List.length_nil, List.length_set, List.length_replicate, List.length_take, List.length_drop, lens_api_Re]; done) | (simp only [List.length_map, List.length_append, List.length_cons, List.length_nil, List.length_set, List.length_replicate, List.length_take, List.length_drop, lens_api_Re]; omega) | omega)) [0, 1, 5, 6, 10] [0] [] (env' := [(0, .val false [.arr 0 v141]), (1, one (.sl (v1.map eBool))), (5, one (.bool v142)), (6, one (.int .i64 v143)), (10, one (.bool (decide (v143 < (v140.length : Int)))))]) (os' := [(0, .arr 1 (v140.map eBool))]) (O := []) (by kernel_rfl) (by kernel_rfl) (sound _ _) trivial ?_
    refine WA.cond (b := (decide (v143 < (v140.length : Int)))) rfl (fun hb144 => ?_) (fun hb144 => ?_)
    · have hF := cond_t hF hb144
      refine WA.skip ?_
      refine WA.join (fun s_ => ∃ (v159 : List Bool) (v160 : Nat) (v161 : Bool), pickE s_.env [0, 1, 5, 6] = [(0, .val false [.arr 0 v160]), (1, one (.sl (v1.map eBool))), (5, one (.bool v161)), (6, one (.int .i64 v143))] ∧ pickE s_.os [0] = [(0, .arr 1 (v159.map eBool))] ∧ v160 = (v159 : List _).length ∧ F69_j6 self4 v143 v159 v161 = some r) ?_ ?_
      · rintro s_ ⟨v159, v160, v161, he, ho, hn_v160, hF⟩
        refine WA.keep _ _ he ho ?_
        clear he ho
        refine WA.reg [0, 1, 5, 6] [0] [] (env' := [(0, .val false [.arr 0 v160]), (1, one (.sl (v1.map eBool))), (5, one (.bool v161)), (6, one (.int .i64 (w64 (v143 + 1))))]) (os' := [(0, .arr 1 (v159.map eBool))]) (O := []) (by kernel_rfl) (sound _ _) trivial ?_
        exact ⟨m4, Nat.lt_succ_self _, v159, v160, v161, (w64 (v143 + 1)), by kernel_rfl, by kernel_rfl, (by first | omega | (simp only [List.length_map, List.length_append, List.length_cons, List.length_nil, List.length_set, List.length_replicate, List.length_take, List.length_drop, lens_api_Re]; done) | (simp only [List.length_map, List.length_append, List.length_cons, List.length_nil, List.length_set, List.length_replicate, List.length_take, List.length_drop, lens_api_Re]; omega) | (simp only [List.length_map, List.length_append, List.length_cons, List.length_nil, List.length_set, List.length_replicate, List.length_take, List.length_drop, lens_api_Re] at *; omega)), by rw [hself4] at hF; exact hF⟩
      · refine WA.block ?_
        refine WA.join (fun s_ => ∃ (v150 : Bool), pickE s_.env [0, 1, 5, 6] = [(0, .val false [.arr 0 v141]), (1, one (.sl (v1.map eBool))), (5, one (.bool v150)), (6, one (.int .i64 v143))] ∧ pickE s_.os [0] = [(0, .arr 1 (v140.map eBool))] ∧ F69_j5 self4 v1 v140 v143 v150 = some r) ?_ ?_
        · rintro s_ ⟨v150, he, ho, hF⟩
          refine WA.keep _ _ he ho ?_
          clear he ho
          obtain ⟨hc151, hF⟩ := if_some hF
          obtain ⟨y152, hy152, hF⟩ := bind_some hF
          rcases Bool.eq_false_or_eq_true y152 with hb153 | hb153
          · have hF := cond_t hF hb153
            obtain ⟨hc154, hF⟩ := if_some hF
            obtain ⟨y155, hy155, hF⟩ := bind_some hF
            refine WA.regM (α := (List (List PV))) (raw := ((v140.map eBool).set (Int.toNat v143) (eBool true))) (can := ((v140.set (Int.toNat v143) true).map eBool)) (fun m_ => ([(0, .val false [.arr 0 v141]), (1, one (.sl (v1.map eBool))), (5, one (.bool v150)), (6, one (.int .i64 v143))], [(0, .arr 1 m_)], [v141 = (v140.map eBool).length, (0 : Int) ≤ v143, v143 < ((v141 : Nat) : Int), v141 = (v140.map eBool).length, (v140.map eBool)[Int.toNat v143]? = some [.bool y152], y152 = true, v141 = (v140.map eBool).length, (0 : Int) ≤ v143, v143 < ((v141 : Nat) : Int), v141 = (v140.map eBool).length, (v140.map eBool)[Int.toNat v143]? = some [.bool y155]])) ((by first | (simp only [len_map, app_map, take_map, drop_map, set_map, rep_map, lens_api_Re, app_api_Re, take_api_Re, drop_api_Re, set_api_Re, es_api_Re, e0_eq_api_Re]; done) | (simp only [List.map_append, List.map_cons, List.map_nil, List.map_take, List.map_drop, List.map_set, List.map_replicate, List.length_map, es_map_api_Re, e0_eq_api_Re]; done))) [0, 1, 5, 6] [0] [(5, .cells [.bool y152]), (6, .bool true), (13, .cells [.bool y155])] (env' := [(0, .val false [.arr 0 v141]), (1, one (.sl (v1.map eBool))), (5, one (.bool v150)), (6, one (.int .i64 v143))]) (os' := [(0, .arr 1 ((v140.set (Int.toNat v143) true).map eBool))]) (O := [v141 = (v140.map eBool).length, (0 : Int) ≤ v143, v143 < ((v141 : Nat) : Int), v141 = (v140.map eBool).length, (v140.map eBool)[Int.toNat v143]? = some [.bool y152], y152 = true, v141 = (v140.map eBool).length, (0 : Int) ≤ v143, v143 < ((v141 : Nat) : Int), v141 = (v140.map eBool).length, (v140.map eBool)[Int.toNat v143]? = some [.bool y155]]) (by kernel_rfl) (by kernel_rfl) (sound _ _) ⟨(by first | omega | (simp only [List.length_map, List.length_append, List.length_cons, List.length_nil, List.length_set, List.length_replicate, List.length_take, List.length_drop, lens_api_Re]; done) | (simp only [List.length_map, List.length_append, List.length_cons, List.length_nil, List.length_set, List.length_replicate, List.length_take, List.length_drop, lens_api_Re]; omega) | (simp only [List.length_map, List.length_append, List.length_cons, List.length_nil, List.length_set, List.length_replicate, List.length_take, List.length_drop, lens_api_Re] at *; omega)), hc151.1, (by have h_ := hc151.2; (try simp only [List.length_map, List.length_append, List.length_cons, List.length_nil, List.length_set, List.length_replicate, List.length_take, List.length_drop, lens_api_Re] at h_ ⊢); omega), (by first | omega | (simp only [List.length_map, List.length_append, List.length_cons, List.length_nil, List.length_set, List.length_replicate, List.length_take, List.length_drop, lens_api_Re]; done) | (simp only [List.length_map, List.length_append, List.length_cons, List.length_nil, List.length_set, List.length_replicate, List.length_take, List.length_drop, lens_api_Re]; omega) | (simp only [List.length_map, List.length_append, List.length_cons, List.length_nil, List.length_set, List.length_replicate, List.length_take, List.length_drop, lens_api_Re] at *; omega)), (get_of_idx (idx_map _ hy152)), hb153, (by first | omega | (simp only [List.length_map, List.length_append, List.length_cons, List.length_nil, List.length_set, List.length_replicate, List.length_take, List.length_drop, lens_api_Re]; done) | (simp only [List.length_map, List.length_append, List.length_cons, List.length_nil, List.length_set, List.length_replicate, List.length_take, List.length_drop, lens_api_Re]; omega) | (simp only [List.length_map, List.length_append, List.length_cons, List.length_nil, List.length_set, List.length_replicate, List.length_take, List.length_drop, lens_api_Re] at *; omega)), hc154.1, (by have h_ := hc154.2; (try simp only [List.length_map, List.length_append, List.length_cons, List.length_nil, List.length_set, List.length_replicate, List.length_take, List.length_drop, lens_api_Re] at h_ ⊢); omega), (by first | omega | (simp only [List.length_map, List.length_append, List.length_cons, List.length_nil, List.length_set, List.length_replicate, List.length_take, List.length_drop, lens_api_Re]; done) | (simp only [List.length_map, List.length_append, List.length_cons, List.length_nil, List.length_set, List.length_replicate, List.length_take, List.length_drop, lens_api_Re]; omega) | (simp only [List.length_map, List.length_append, List.length_cons, List.length_nil, List.length_set, List.length_replicate, List.length_take, List.length_drop, lens_api_Re] at *; omega)), (get_of_idx (idx_map _ hy155)), trivial⟩ ?_
            exact ⟨(v140.set (Int.toNat v143) true), v141, v150, by kernel_rfl, by kernel_rfl, (by first | omega | (simp only [List.length_map, List.length_append, List.length_cons, List.length_nil, List.length_set, List.length_replicate, List.length_take, List.length_drop, lens_api_Re]; done) | (simp only [List.length_map, List.length_append, List.length_cons, List.length_nil, List.length_set, List.length_replicate, List.length_take, List.length_drop, lens_api_Re]; omega) | (simp only [List.length_map, List.length_append, List.length_cons, List.length_nil, List.length_set, List.length_replicate, List.length_take, List.length_drop, lens_api_Re] at *; omega)), hF⟩
          · have hF := cond_f hF hb153
            obtain ⟨y156, hy156, hF⟩ := bind_some hF
            obtain ⟨hc157, hF⟩ := if_some hF
            obtain ⟨y158, hy158, hF⟩ := bind_some hF
            refine WA.regM (α := (List (List PV))) (raw := ((v140.map eBool).set (Int.toNat v143) (eBool y156))) (can := ((v140.set (Int.toNat v143) y156).map eBool)) (fun m_ => ([(0, .val false [.arr 0 v141]), (1, one (.sl (v1.map eBool))), (5, one (.bool v150)), (6, one (.int .i64 v143))], [(0, .arr 1 m_)], [v141 = (v140.map eBool).length, (0 : Int) ≤ v143, v143 < ((v141 : Nat) : Int), v141 = (v140.map eBool).length, (v140.map eBool)[Int.toNat v143]? = some [.bool y152], y152 = false, idxL (v1.map eBool) v143 = some [.bool y156], v141 = (v140.map eBool).length, (0 : Int) ≤ v143, v143 < ((v141 : Nat) : Int), v141 = (v140.map eBool).length, (v140.map eBool)[Int.toNat v143]? = some [.bool y158]])) ((by first | (simp only [len_map, app_map, take_map, drop_map, set_map, rep_map, lens_api_Re, app_api_Re, take_api_Re, drop_api_Re, set_api_Re, es_api_Re, e0_eq_api_Re]; done) | (simp only [List.map_append, List.map_cons, List.map_nil, List.map_take, List.map_drop, List.map_set, List.map_replicate, List.length_map, es_map_api_Re, e0_eq_api_Re]; done))) [0, 1, 5, 6] [0] [(5, .cells [.bool y152]), (6, .bool false), (9, .cells [.bool y156]), (13, .cells [.bool y158])] (env' := [(0, .val false [.arr 0 v141]), (1, one (.sl (v1.map eBool))), (5, one (.bool v150)), (6, one (.int .i64 v143))]) (os' := [(0, .arr 1 ((v140.set (Int.toNat v143) y156).map eBool))]) (O := [v141 = (v140.map eBool).length, (0 : Int) ≤ v143, v143 < ((v141 : Nat) : Int), v141 = (v140.map eBool).length, (v140.map eBool)[Int.toNat v143]? = some [.bool y152], y152 = false, idxL (v1.map eBool) v143 = some [.bool y156], v141 = (v140.map eBool).length, (0 : Int) ≤ v143, v143 < ((v141 : Nat) : Int), v141 = (v140.map eBool).length, (v140.map eBool)[Int.toNat v143]? = some [.bool y158]]) (by kernel_rfl) (by kernel_rfl) (sound _ _) ⟨(by first | omega | (simp only [List.length_map, List.length_append, List.length_cons, List.length_nil, List.length_set, List.length_replicate, List.length_take, List.length_drop, lens_api_Re]; done) | (simp only [List.length_map, List.length_append, List.length_cons, List.length_nil, List.length_set, List.length_replicate, List.length_take, List.length_drop, lens_api_Re]; omega) | (simp only [List.length_map, List.length_append, List.length_cons, List.length_nil, List.length_set, List.length_replicate, List.length_take, List.length_drop, lens_api_Re] at *; omega)), hc151.1, (by have h_ := hc151.2; (try simp only [List.length_map, List.length_append, List.length_cons, List.length_nil, List.length_set, List.length_replicate, List.length_take, List.length_drop, lens_api_Re] at h_ ⊢); omega), (by first | omega | (simp only [List.length_map, List.length_append, List.length_cons, List.length_nil, List.length_set, List.length_replicate, List.length_take, List.length_drop, lens_api_Re]; done) | (simp only [List.length_map, List.length_append, List.length_cons, List.length_nil, List.length_set, List.length_replicate, List.length_take, List.length_drop, lens_api_Re]; omega) | (simp only [List.length_map, List.length_append, List.length_cons, List.length_nil, List.length_set, List.length_replicate, List.length_take, List.length_drop, lens_api_Re] at *; omega)), (get_of_idx (idx_map _ hy152)), hb153, (idx_map _ hy156), (by first | omega | (simp only [List.length_map, List.length_append, List.length_cons, List.length_nil, List.length_set, List.length_replicate, List.length_take, List.length_drop, lens_api_Re]; done) | (simp only [List.length_map, List.length_append, List.length_cons, List.length_nil, List.length_set, List.length_replicate, List.length_take, List.length_drop, lens_api_Re]; omega) | (simp only [List.length_map, List.length_append, List.length_cons, List.length_nil, List.length_set, List.length_replicate, List.length_take, List.length_drop, lens_api_Re] at *; omega)), hc157.1, (by have h_ := hc157.2; (try simp only [List.length_map, List.length_append, List.length_cons, List.length_nil, List.length_set, List.length_replicate, List.length_take, List.length_drop, lens_api_Re] at h_ ⊢); omega), (by first | omega | (simp only [List.length_map, List.length_append, List.length_cons, List.length_nil, List.length_set, List.length_replicate, List.length_take, List.length_drop, lens_api_Re]; done) | (simp only [List.length_map, List.length_append, List.length_cons, List.length_nil, List.length_set, List.length_replicate, List.length_take, List.length_drop, lens_api_Re]; omega) | (simp only [List.length_map, List.length_append, List.length_cons, List.length_nil, List.length_set, List.length_replicate, List.length_take, List.length_drop, lens_api_Re] at *; omega)), (get_of_idx (idx_map _ hy158)), trivial⟩ ?_
            exact ⟨(v140.set (Int.toNat v143) y156), v141, v150, by kernel_rfl, by kernel_rfl, (by first | omega | (simp only [List.length_map, List.length_append, List.length_cons, List.length_nil, List.length_set, List.length_replicate, List.length_take, List.length_drop, lens_api_Re]; done) | (simp only [List.length_map, List.length_append, List.length_cons, List.length_nil, List.length_set, List.length_replicate, List.length_take, List.length_drop, lens_api_Re]; omega) | (simp only [List.length_map, List.length_append, List.length_cons, List.length_nil, List.length_set, List.length_replicate, List.length_take, List.length_drop, lens_api_Re] at *; omega)), hF⟩
        · rcases Bool.eq_false_or_eq_true v142 with hb145 | hb145
          · have hF := cond_t hF hb145
            refine WA.reg [0, 1, 5, 6] [0] [(1, .bool true)] (env' := [(0, .val false [.arr 0 v141]), (1, one (.sl (v1.map eBool))), (5, one (.bool true)), (6, one (.int .i64 v143))]) (os' := [(0, .arr 1 (v140.map eBool))]) (O := [v142 = true]) (by kernel_rfl) (sound _ _) ⟨hb145, trivial⟩ ?_
            exact ⟨true, by kernel_rfl, by kernel_rfl, hF⟩
          · have hF := cond_f hF hb145
            obtain ⟨y146, hy146, hF⟩ := bind_some hF
            rcases Bool.eq_false_or_eq_true y146 with hb147 | hb147
            · have hF := cond_t hF hb147
              obtain ⟨hc148, hF⟩ := if_some hF
              obtain ⟨y149, hy149, hF⟩ := bind_some hF
              refine WA.reg [0, 1, 5, 6] [0] [(1, .bool false), (4, .cells [.bool y146]), (6, .bool true), (10, .cells [.bool y149])] (env' := [(0, .val false [.arr 0 v141]), (1, one (.sl (v1.map eBool))), (5, one (.bool (!y149))), (6, one (.int .i64 v143))]) (os' := [(0, .arr 1 (v140.map eBool))]) (O := [v142 = false, idxL (v1.map eBool) v143 = some [.bool y146], y146 = true, v141 = (v140.map eBool).length, (0 : Int) ≤ v143, v143 < ((v141 : Nat) : Int), v141 = (v140.map eBool).length, (v140.map eBool)[Int.toNat v143]? = some [.bool y149]]) (by kernel_rfl) (sound _ _) ⟨hb145, (idx_map _ hy146), hb147, (by first | omega | (simp only [List.length_map, List.length_append, List.length_cons, List.length_nil, List.length_set, List.length_replicate, List.length_take, List.length_drop, lens_api_Re]; done) | (simp only [List.length_map, List.length_append, List.length_cons, List.length_nil, List.length_set, List.length_replicate, List.length_take, List.length_drop, lens_api_Re]; omega) | (simp only [List.length_map, List.length_append, List.length_cons, List.length_nil, List.length_set, List.length_replicate, List.length_take, List.length_drop, lens_api_Re] at *; omega)), hc148.1, (by have h_ := hc148.2; (try simp only [List.length_map, List.length_append, List.length_cons, List.length_nil, List.length_set, List.length_replicate, List.length_take, List.length_drop, lens_api_Re] at h_ ⊢); omega), (by first | omega | (simp only [List.length_map, List.length_append, List.length_cons, List.length_nil, List.length_set, List.length_replicate, List.length_take, List.length_drop, lens_api_Re]; done) | (simp only [List.length_map, List.length_append, List.length_cons, List.length_nil, List.length_set, List.length_replicate, List.length_take, List.length_drop, lens_api_Re]; omega) | (simp only [List.length_map, List.length_append, List.length_cons, List.length_nil, List.length_set, List.length_replicate, List.length_take, List.length_drop, lens_api_Re] at *; omega)), (get_of_idx (idx_map _ hy149)), trivial⟩ ?_
              exact ⟨(!y149), by kernel_rfl, by kernel_rfl, hF⟩
            · have hF := cond_f hF hb147
              refine WA.reg [0, 1, 5, 6] [0] [(1, .bool false), (4, .cells [.bool y146]), (6, .bool false)] (env' := [(0, .val false [.arr 0 v141]), (1, one (.sl (v1.map eBool))), (5, one (.bool false)), (6, one (.int .i64 v143))]) (os' := [(0, .arr 1 (v140.map eBool))]) (O := [v142 = false, idxL (v1.map eBool) v143 = some [.bool y146], y146 = false]) (by kernel_rfl) (sound _ _) ⟨hb145, (idx_map _ hy146), hb147, trivial⟩ ?_
              exact ⟨false, by kernel_rfl, by kernel_rfl, hF⟩
    · have hF := cond_f hF hb144
      refine WA.exit ?_
      refine WA.seq ?_
      refine WA.reg [4] [0] [] (env' := [(4, one (.bool v142))]) (os' := [(0, .arr 1 (v140.map eBool))]) (O := []) (by kernel_rfl) (sound _ _) trivial ?_
      refine WA.ret ?_
      obtain rfl := Option.some.inj hF
      exact out_ret (one (.bool v142)) [.arr 1 (v140.map eBool)] (by kernel_rfl) (by kernel_rfl) (by kernel_rfl) (by kernel_rfl) (by decide) rfl rfl
/-! entrepot entrepotref10.Dot -/
def F143 (k : Nat) : Option (List api_Range) :=
  ((some ([(⟨0, 55295⟩ : api_Range), (⟨57344, 1114111⟩ : api_Range)] : List api_Range)))
theorem F143_ok (k : Nat) (r : List api_Range) (hF : F143 k = some r) : Sim Tryz.prog GL0 143 [] [] (one (.sl (r.map e_api_Range))) [] := by
  refine sim_of [] Tryz.func143 rfl (by kernel_rfl) (by kernel_rfl) ?_
  show WA _ _ 4 _ _ _
  refine WA.seq ?_
  refine WA.reg [] [] [] (env' := []) (os' := []) (O := []) (by kernel_rfl) (sound _ _) trivial ?_
  refine WA.seq ?_
  refine WA.reg [0] [] [] (env' := [(0, one (.sl (([(⟨0, 55295⟩ : api_Range), (⟨57344, 1114111⟩ : api_Range)] : List api_Range).map e_api_Range)))]) (os' := []) (O := []) (by kernel_rfl) (sound _ _) trivial ?_
  refine WA.ret ?_
  obtain rfl := Option.some.inj hF
  exact out_ret (one (.sl (([(⟨0, 55295⟩ : api_Range), (⟨57344, 1114111⟩ : api_Range)] : List api_Range).map e_api_Range))) [] (by kernel_rfl) (by kernel_rfl) (by kernel_rfl) (by kernel_rfl) (by decide) rfl rfl
/-! entrepot entrepotref10.meet -/
def F190_j12 (self11 : (List api_Range) → Int → Option (List api_Range)) (v199 : Int) (v207 : List api_Range) : Option (List api_Range) :=
  self11 v207 (w64 (v199 + 1))
def F190_b11 (self8 : (List api_Range) → Int → Option (List api_Range)) (self11 : (List api_Range) → Int → Option (List api_Range)) (v0 : List api_Range) (v1 : List api_Range) (v174 : Int) (v197 : List api_Range) (v199 : Int) : Option (List api_Range) :=
  (cond (decide (v199 < (v1.length : Int))) ((idxL v0 v174).bind fun y201 => (idxL v1 v199).bind fun y202 => (idxL v0 v174).bind fun y203 => (idxL v1 v199).bind fun y204 => ((cond (decide ((mx y201.f_Lo y202.f_Lo) ≤ (mn y203.f_Hi y204.f_Hi))) (if v197.length + ([(⟨(mx y201.f_Lo y202.f_Lo), (mn y203.f_Hi y204.f_Hi)⟩ : api_Range)] : List api_Range).length ≤ 1073741824 then (F190_j12 self11 v199 (v197 ++ ([(⟨(mx y201.f_Lo y202.f_Lo), (mn y203.f_Hi y204.f_Hi)⟩ : api_Range)] : List api_Range))) else none) ((F190_j12 self11 v199 v197))))) ((self8 v197 (w64 (v174 + 1)))))
def F190_l11 (self8 : (List api_Range) → Int → Option (List api_Range)) (v0 : List api_Range) (v1 : List api_Range) (v174 : Int) : Nat → (List api_Range) → Int → Option (List api_Range)
  | 0, _, _ => none
  | m_ + 1, v197, v199 => F190_b11 self8 (F190_l11 self8 v0 v1 v174 m_) v0 v1 v174 v197 v199
def F190_b8 (k : Nat) (self8 : (List api_Range) → Int → Option (List api_Range)) (v0 : List api_Range) (v1 : List api_Range) (v172 : List api_Range) (v174 : Int) : Option (List api_Range) :=
  (cond (decide (v174 < (v0.length : Int))) (((F190_l11 self8 v0 v1 v174 k v172 0))) (((some v172))))
def F190_l8 (k : Nat) (v0 : List api_Range) (v1 : List api_Range) : Nat → (List api_Range) → Int → Option (List api_Range)
  | 0, _, _ => none
  | m_ + 1, v172, v174 => F190_b8 k (F190_l8 k v0 v1 m_) v0 v1 v172 v174
def F190 (k : Nat) (v0 : List api_Range) (v1 : List api_Range) : Option (List api_Range) :=
  (((F190_l8 k v0 v1 k ([] : List api_Range) 0)))
theorem F190_ok (k : Nat) (v0 : List api_Range) (v1 : List api_Range) (r : List api_Range) (hF : F190 k v0 v1 = some r) : Sim Tryz.prog GL0 190 [one (.sl (v0.map e_api_Range)), one (.sl (v1.map e_api_Range))] [] (one (.sl (r.map e_api_Range))) [] := by
  refine sim_of [] Tryz.func190 rfl (by kernel_rfl) (by kernel_rfl) ?_
  show WA _ _ 54 _ _ _
  refine WA.seq ?_
  refine WA.reg [0, 1] [] [] (env' := [(0, one (.sl (v0.map e_api_Range))), (1, one (.sl (v1.map e_api_Range)))]) (os' := []) (O := []) (by kernel_rfl) (sound _ _) trivial ?_
  refine WA.seq ?_
  refine WA.reg [0, 1, 5] [105] [(0, .obj 105)] (env' := [(0, one (.sl (v0.map e_api_Range))), (1, one (.sl (v1.map e_api_Range))), (5, .val false [.arr 105 0])]) (os' := [(105, .arr 2 (([] : List api_Range).map e_api_Range))]) (O := []) (by kernel_rfl) (sound _ _) trivial ?_
  refine WA.seq ?_
  refine WA.seq ?_
  refine WA.reg [0, 1, 5, 6] [105] [] (env' := [(0, one (.sl (v0.map e_api_Range))), (1, one (.sl (v1.map e_api_Range))), (5, .val false [.arr 105 0]), (6, one (.int .i64 0))]) (os' := [(105, .arr 2 (([] : List api_Range).map e_api_Range))]) (O := []) (by kernel_rfl) (sound _ _) trivial ?_
  refine WA.block ?_
  refine WA.loop (fun m s_ => ∃ (v172 : List api_Range) (v173 : Nat) (v174 : Int), pickE s_.env [0, 1, 5, 6] = [(0, one (.sl (v0.map e_api_Range))), (1, one (.sl (v1.map e_api_Range))), (5, .val false [.arr 105 v173]), (6, one (.int .i64 v174))] ∧ pickE s_.os [105] = [(105, .arr 2 (v172.map e_api_Range))] ∧ v173 = (v172 : List _).length ∧ F190_l8 k v0 v1 m v172 v174 = some r) k ⟨([] : List api_Range), 0, 0, by kernel_rfl, by kernel_rfl, (by first | omega | (simp only [List.length_map, List.length_append, List.length_cons, List.length_nil, List.length_set, List.length_replicate, List.length_take, List.length_drop, lens_api_Re]; done) | (simp only [List.length_map, List.length_append, List.length_cons, List.length_nil, List.length_set, List.length_replicate, List.length_take, List.length_drop, lens_api_Re]; omega) | (simp only [List.length_map, List.length_append, List.length_cons, List.length_nil, List.length_set, List.length_replicate, List.length_take, List.length_drop, lens_api_Re] at *; omega)), hF⟩ ?_
  clear hF
  rintro m8 s_ ⟨v172, v173, v174, he, ho, hn_v173, hF⟩
  refine WA.keep _ _ he ho ?_
  clear he ho
  cases m8 with
  | zero => cases hF
  | succ m8 =>
    obtain ⟨self8, hself8⟩ : ∃ g, g = F190_l8 k v0 v1 m8 := ⟨_, rfl⟩
    have hF : F190_b8 k self8 v0 v1 v172 v174 = some r := by rw [hself8]; exact hF
    refine WA.seq ?_
    refine WA.seq ?_
    refine WA.regM (α := Int) (raw := ((v0.map e_api_Range).length : Int)) (can := (v0.length : Int)) (fun m_ => ([(0, one (.sl (v0.map e_api_Range))), (1, one (.sl (v1.map e_api_Range))), (5, .val false [.arr 105 v173]), (6, one (.int .i64 v174)), (13, one (.bool (decide (v174 < m_))))], [(105, .arr 2 (v172.map e_api_Range))], [])) ((by first | (simp only [List.length_map, List.length_append, List.length_cons, List.length_nil, List.length_set, List.length_replicate, List.length_take, List.length_drop, lens_api_Re]; done) | (simp only [List.length_map, List.length_append, List.length_cons, List.length_nil, List.length_set, List.length_replicate, List.length_take, List.length_drop, lens_api_Re]; omega) | omega)) [0, 1, 5, 6, 13] [105] [] (env' := [(0, one (.sl (v0.map e_api_Range))), (1, one (.sl (v1.map e_api_Range))), (5, .val false [.arr 105 v173]), (6, one (.int .i64 v174)), (13, one (.bool (decide (v174 < (v0.length : Int)))))]) (os' := [(105, .arr 2 (v172.map e_api_Range))]) (O := []) (by kernel_rfl) (by kernel_rfl) (sound _ _) trivial ?_
    refine WA.cond (b := (decide (v174 < (v0.length : Int)))) rfl (fun hb175 => ?_) (fun hb175 => ?_)
    · have hF := cond_t hF hb175
      refine WA.skip ?_
      refine WA.seq ?_
      refine WA.block ?_
      refine WA.seq ?_
      refine WA.reg [0, 1, 5, 6, 7] [105] [] (env' := [(0, one (.sl (v0.map e_api_Range))), (1, one (.sl (v1.map e_api_Range))), (5, .val false [.arr 105 v173]), (6, one (.int .i64 v174)), (7, one (.int .i64 0))]) (os' := [(105, .arr 2 (v172.map e_api_Range))]) (O := []) (by kernel_rfl) (sound _ _) trivial ?_
      refine WA.block ?_
      refine WA.loop (fun m s_ => ∃ (v197 : List api_Range) (v198 : Nat) (v199 : Int), pickE s_.env [0, 1, 5, 6, 7] = [(0, one (.sl (v0.map e_api_Range))), (1, one (.sl (v1.map e_api_Range))), (5, .val false [.arr 105 v198]), (6, one (.int .i64 v174)), (7, one (.int .i64 v199))] ∧ pickE s_.os [105] = [(105, .arr 2 (v197.map e_api_Range))] ∧ v198 = (v197 : List _).length ∧ F190_l11 self8 v0 v1 v174 m v197 v199 = some r) k ⟨v172, v173, 0, by kernel_rfl, by kernel_rfl, (by first | omega | (simp only [List.length_map, List.length_append, List.length_cons, List.length_nil, List.length_set, List.length_replicate, List.length_take, List.length_drop, lens_api_Re]; done) | (simp only [List.length_map, List.length_append, List.length_cons, List.length_nil, List.length_set, List.length_replicate, List.length_take, List.length_drop, lens_api_Re]; omega) | (simp only [List.length_map, List.length_append, List.length_cons, List.length_nil, List.length_set, List.length_replicate, List.length_take, List.length_drop, lens_api_Re] at *; omega)), hF⟩ ?_
      clear hF
      rintro m11 s_ ⟨v197, v198, v199, he, ho, hn_v198, hF⟩
      refine WA.keep _ _ he ho ?_
      clear he ho
      cases m11 with
      | zero => cases hF
      | succ m11 =>
        obtain ⟨self11, hself11⟩ : ∃ g, g = F190_l11 self8 v0 v1 v174 m11 := ⟨_, rfl⟩
        have hF : F190_b11 self8 self11 v0 v1 v174 v197 v199 = some r := by rw [hself11]; exact hF
        refine WA.seq ?_
        refine WA.seq ?_
        refine WA.regM (α := Int) (raw := ((v1.map e_api_Range).length : Int)) (can := (v1.length : Int)) (fun m_ => ([(0, one (.sl (v0.map e_api_Range))), (1, one (.sl (v1.map e_api_Range))), (5, .val false [.arr 105 v198]), (6, one (.int .i64 v174)), (7, one (.int .i64 v199)), (19, one (.bool (decide (v199 < m_))))], [(105, .arr 2 (v197.map e_api_Range))], [])) ((by first | (simp only [List.length_map, List.length_append, List.length_cons, List.length_nil, List.length_set, List.length_replicate, List.length_take, List.length_drop, lens_api_Re]; done) | (simp only [List.length_map, List.length_append, List.length_cons, List.length_nil, List.length_set, List.length_replicate, List.length_take, List.length_drop, lens_api_Re]; omega) | omega)) [0, 1, 5, 6, 7, 19] [105] [] (env' := [(0, one (.sl (v0.map e_api_Range))), (1, one (.sl (v1.map e_api_Range))), (5, .val false [.arr 105 v198]), (6, one (.int .i64 v174)), (7, one (.int .i64 v199)), (19, one (.bool (decide (v199 < (v1.length : Int)))))]) (os' := [(105, .arr 2 (v197.map e_api_Range))]) (O := []) (by kernel_rfl) (by kernel_rfl) (sound _ _) trivial ?_
        refine WA.cond (b := (decide (v199 < (v1.length : Int)))) rfl (fun hb200 => ?_) (fun hb200 => ?_)
        · have hF := cond_t hF hb200
          refine WA.skip ?_
          refine WA.join (fun s_ => ∃ (v207 : List api_Range) (v208 : Nat), pickE s_.env [0, 1, 5, 6, 7] = [(0, one (.sl (v0.map e_api_Range))), (1, one (.sl (v1.map e_api_Range))), (5, .val false [.arr 105 v208]), (6, one (.int .i64 v174)), (7, one (.int .i64 v199))] ∧ pickE s_.os [105] = [(105, .arr 2 (v207.map e_api_Range))] ∧ v208 = (v207 : List _).length ∧ F190_j12 self11 v199 v207 = some r) ?_ ?_
          · rintro s_ ⟨v207, v208, he, ho, hn_v208, hF⟩
            refine WA.keep _ _ he ho ?_
            clear he ho
            refine WA.reg [0, 1, 5, 6, 7] [105] [] (env' := [(0, one (.sl (v0.map e_api_Range))), (1, one (.sl (v1.map e_api_Range))), (5, .val false [.arr 105 v208]), (6, one (.int .i64 v174)), (7, one (.int .i64 (w64 (v199 + 1))))]) (os' := [(105, .arr 2 (v207.map e_api_Range))]) (O := []) (by kernel_rfl) (sound _ _) trivial ?_
            exact ⟨m11, Nat.lt_succ_self _, v207, v208, (w64 (v199 + 1)), by kernel_rfl, by kernel_rfl, (by first | omega | (simp only [List.length_map, List.length_append, List.length_cons, List.length_nil, List.length_set, List.length_replicate, List.length_take, List.length_drop, lens_api_Re]; done) | (simp only [List.length_map, List.length_append, List.length_cons, List.length_nil, List.length_set, List.length_replicate, List.length_take, List.length_drop, lens_api_Re]; omega) | (simp only [List.length_map, List.length_append, List.length_cons, List.length_nil, List.length_set, List.length_replicate, List.length_take, List.length_drop, lens_api_Re] at *; omega)), by rw [hself11] at hF; exact hF⟩
          · refine WA.block ?_
            refine WA.seq ?_
            obtain ⟨y201, hy201, hF⟩ := bind_some hF
            obtain ⟨y202, hy202, hF⟩ := bind_some hF
            obtain ⟨y203, hy203, hF⟩ := bind_some hF
            obtain ⟨y204, hy204, hF⟩ := bind_some hF
            refine WA.regD (by kernel_rfl) [0, 1, 5, 6, 7, 8, 9] [105] [(2, .cells (e_api_Range y201)), (7, .cells (e_api_Range y202)), (13, .cells (e_api_Range y203)), (18, .cells (e_api_Range y204))] (env' := [(0, one (.sl (v0.map e_api_Range))), (1, one (.sl (v1.map e_api_Range))), (5, .val false [.arr 105 v198]), (6, one (.int .i64 v174)), (7, one (.int .i64 v199)), (8, one (.int .i64 (mx y201.f_Lo y202.f_Lo))), (9, one (.int .i64 (mn y203.f_Hi y204.f_Hi)))]) (os' := [(105, .arr 2 (v197.map e_api_Range))]) (O := [idxL (v0.map e_api_Range) v174 = some (e_api_Range y201), idxL (v1.map e_api_Range) v199 = some (e_api_Range y202), idxL (v0.map e_api_Range) v174 = some (e_api_Range y203), idxL (v1.map e_api_Range) v199 = some (e_api_Range y204)]) (by kernel_rfl) (by kernel_rfl) (sound _ _) ⟨(idx_map _ hy201), (idx_map _ hy202), (idx_map _ hy203), (idx_map _ hy204), trivial⟩ ?_
            refine WA.seq ?_
            refine WA.reg [0, 1, 5, 6, 7, 8, 9, 46] [105] [] (env' := [(0, one (.sl (v0.map e_api_Range))), (1, one (.sl (v1.map e_api_Range))), (5, .val false [.arr 105 v198]), (6, one (.int .i64 v174)), (7, one (.int .i64 v199)), (8, one (.int .i64 (mx y201.f_Lo y202.f_Lo))), (9, one (.int .i64 (mn y203.f_Hi y204.f_Hi))), (46, one (.bool (decide ((mx y201.f_Lo y202.f_Lo) ≤ (mn y203.f_Hi y204.f_Hi)))))]) (os' := [(105, .arr 2 (v197.map e_api_Range))]) (O := []) (by kernel_rfl) (sound _ _) trivial ?_
            refine WA.cond (b := (decide ((mx y201.f_Lo y202.f_Lo) ≤ (mn y203.f_Hi y204.f_Hi)))) rfl (fun hb205 => ?_) (fun hb205 => ?_)
            · have hF := cond_t hF hb205
              obtain ⟨hc206, hF⟩ := if_some hF
              refine WA.regM (α := (List (List PV))) (raw := ((v197.map e_api_Range) ++ (([(⟨(mx y201.f_Lo y202.f_Lo), (mn y203.f_Hi y204.f_Hi)⟩ : api_Range)] : List api_Range).map e_api_Range))) (can := ((v197 ++ ([(⟨(mx y201.f_Lo y202.f_Lo), (mn y203.f_Hi y204.f_Hi)⟩ : api_Range)] : List api_Range)).map e_api_Range)) (fun m_ => ([(0, one (.sl (v0.map e_api_Range))), (1, one (.sl (v1.map e_api_Range))), (5, .val false [.arr 105 (v198 + 1)]), (6, one (.int .i64 v174)), (7, one (.int .i64 v199))], [(105, .arr 2 m_)], [v198 = (v197.map e_api_Range).length, (v197.map e_api_Range).length + (([(⟨(mx y201.f_Lo y202.f_Lo), (mn y203.f_Hi y204.f_Hi)⟩ : api_Range)] : List api_Range).map e_api_Range).length ≤ 1073741824, ∀ es, es ∈ (([(⟨(mx y201.f_Lo y202.f_Lo), (mn y203.f_Hi y204.f_Hi)⟩ : api_Range)] : List api_Range).map e_api_Range) → es.length = 2])) ((by first | (simp only [len_map, app_map, take_map, drop_map, set_map, rep_map, lens_api_Re, app_api_Re, take_api_Re, drop_api_Re, set_api_Re, es_api_Re, e0_eq_api_Re]; done) | (simp only [List.map_append, List.map_cons, List.map_nil, List.map_take, List.map_drop, List.map_set, List.map_replicate, List.length_map, es_map_api_Re, e0_eq_api_Re]; done))) [0, 1, 5, 6, 7] [105] [] (env' := [(0, one (.sl (v0.map e_api_Range))), (1, one (.sl (v1.map e_api_Range))), (5, .val false [.arr 105 (v198 + 1)]), (6, one (.int .i64 v174)), (7, one (.int .i64 v199))]) (os' := [(105, .arr 2 ((v197 ++ ([(⟨(mx y201.f_Lo y202.f_Lo), (mn y203.f_Hi y204.f_Hi)⟩ : api_Range)] : List api_Range)).map e_api_Range))]) (O := [v198 = (v197.map e_api_Range).length, (v197.map e_api_Range).length + (([(⟨(mx y201.f_Lo y202.f_Lo), (mn y203.f_Hi y204.f_Hi)⟩ : api_Range)] : List api_Range).map e_api_Range).length ≤ 1073741824, ∀ es, es ∈ (([(⟨(mx y201.f_Lo y202.f_Lo), (mn y203.f_Hi y204.f_Hi)⟩ : api_Range)] : List api_Range).map e_api_Range) → es.length = 2]) (by kernel_rfl) (by kernel_rfl) (sound _ _) ⟨(by first | omega | (simp only [List.length_map, List.length_append, List.length_cons, List.length_nil, List.length_set, List.length_replicate, List.length_take, List.length_drop, lens_api_Re]; done) | (simp only [List.length_map, List.length_append, List.length_cons, List.length_nil, List.length_set, List.length_replicate, List.length_take, List.length_drop, lens_api_Re]; omega) | (simp only [List.length_map, List.length_append, List.length_cons, List.length_nil, List.length_set, List.length_replicate, List.length_take, List.length_drop, lens_api_Re] at *; omega)), (by first | exact hc206 | (simp only [List.length_map, lens_api_Re] ; exact hc206)), (len_api_Range ([(⟨(mx y201.f_Lo y202.f_Lo), (mn y203.f_Hi y204.f_Hi)⟩ : api_Range)] : List api_Range)), trivial⟩ ?_
              exact ⟨(v197 ++ ([(⟨(mx y201.f_Lo y202.f_Lo), (mn y203.f_Hi y204.f_Hi)⟩ : api_Range)] : List api_Range)), (v198 + 1), by kernel_rfl, by kernel_rfl, (by first | omega | (simp only [List.length_map, List.length_append, List.length_cons, List.length_nil, List.length_set, List.length_replicate, List.length_take, List.length_drop, lens_api_Re]; done) | (simp only [List.length_map, List.length_append, List.length_cons, List.length_nil, List.length_set, List.length_replicate, List.length_take, List.length_drop, lens_api_Re]; omega) | (simp only [List.length_map, List.length_append, List.length_cons, List.length_nil, List.length_set, List.length_replicate, List.length_take, List.length_drop, lens_api_Re] at *; omega)), hF⟩
            · have hF := cond_f hF hb205
              refine WA.skip ?_
              exact ⟨v197, v198, by kernel_rfl, by kernel_rfl, (by first | omega | (simp only [List.length_map, List.length_append, List.length_cons, List.length_nil, List.length_set, List.length_replicate, List.length_take, List.length_drop, lens_api_Re]; done) | (simp only [List.length_map, List.length_append, List.length_cons, List.length_nil, List.length_set, List.length_replicate, List.length_take, List.length_drop, lens_api_Re]; omega) | (simp only [List.length_map, List.length_append, List.length_cons, List.length_nil, List.length_set, List.length_replicate, List.length_take, List.length_drop, lens_api_Re] at *; omega)), hF⟩
        · have hF := cond_f hF hb200
          refine WA.exit ?_
          refine WA.reg [0, 1, 5, 6] [105] [] (env' := [(0, one (.sl (v0.map e_api_Range))), (1, one (.sl (v1.map e_api_Range))), (5, .val false [.arr 105 v198]), (6, one (.int .i64 (w64 (v174 + 1))))]) (os' := [(105, .arr 2 (v197.map e_api_Range))]) (O := []) (by kernel_rfl) (sound _ _) trivial ?_
          exact ⟨m8, Nat.lt_succ_self _, v197, v198, (w64 (v174 + 1)), by kernel_rfl, by kernel_rfl, (by first | omega | (simp only [List.length_map, List.length_append, List.length_cons, List.length_nil, List.length_set, List.length_replicate, List.length_take, List.length_drop, lens_api_Re]; done) | (simp only [List.length_map, List.length_append, List.length_cons, List.length_nil, List.length_set, List.length_replicate, List.length_take, List.length_drop, lens_api_Re]; omega) | (simp only [List.length_map, List.length_append, List.length_cons, List.length_nil, List.length_set, List.length_replicate, List.length_take, List.length_drop, lens_api_Re] at *; omega)), by rw [hself8] at hF; exact hF⟩
    · have hF := cond_f hF hb175
      refine WA.exit ?_
      refine WA.seq ?_
      refine WA.reg [4] [105] [] (env' := [(4, .val false [.arr 105 v173])]) (os' := [(105, .arr 2 (v172.map e_api_Range))]) (O := []) (by kernel_rfl) (sound _ _) trivial ?_
      refine WA.freeze 105 4 (s := 2) (n := v173) (els := (v172.map e_api_Range)) rfl rfl (by first | omega | (simp only [List.length_map, List.length_append, List.length_cons, List.length_nil, List.length_set, List.length_replicate, List.length_take, List.length_drop, lens_api_Re]; done) | (simp only [List.length_map, List.length_append, List.length_cons, List.length_nil, List.length_set, List.length_replicate, List.length_take, List.length_drop, lens_api_Re]; omega) | (simp only [List.length_map, List.length_append, List.length_cons, List.length_nil, List.length_set, List.length_replicate, List.length_take, List.length_drop, lens_api_Re] at *; omega)) ?_
      refine WA.keep [4] [] (env' := [(4, one (.sl (v172.map e_api_Range)))]) (os' := []) (by kernel_rfl) (by kernel_rfl) ?_
      refine WA.ret ?_
      obtain rfl := Option.some.inj hF
      exact out_ret (one (.sl (v172.map e_api_Range))) [] (by kernel_rfl) (by kernel_rfl) (by kernel_rfl) (by kernel_rfl) (by decide) rfl rfl
/-! entrepot entrepotref10.not -/
def F175_j3 (self2 : (List api_Range) → Int → Int → Option (List api_Range)) (v0 : List api_Range) (v124 : Int) (v130 : List api_Range) : Option (List api_Range) :=
  (idxL v0 v124).bind fun y132 => (self2 v130 (w64 (y132.f_Hi + 1)) (w64 (v124 + 1)))
def F175_j4 (k : Nat) (v135 : List api_Range) : Option (List api_Range) :=
  (F143 k).bind fun y138 => (F190 k v135 y138).bind fun y139 => (some y139)
def F175_b2 (k : Nat) (self2 : (List api_Range) → Int → Int → Option (List api_Range)) (v0 : List api_Range) (v121 : List api_Range) (v123 : Int) (v124 : Int) : Option (List api_Range) :=
  (cond (decide (v124 < (v0.length : Int))) ((idxL v0 v124).bind fun y126 => (cond (decide (v123 < y126.f_Lo)) ((idxL v0 v124).bind fun y128 => if v121.length + ([(⟨v123, (w64 (y128.f_Lo - 1))⟩ : api_Range)] : List api_Range).length ≤ 1073741824 then (F175_j3 self2 v0 v124 (v121 ++ ([(⟨v123, (w64 (y128.f_Lo - 1))⟩ : api_Range)] : List api_Range))) else none) ((F175_j3 self2 v0 v124 v121)))) (((cond (decide (v123 ≤ 1114111)) (if v121.length + ([(⟨v123, 1114111⟩ : api_Range)] : List api_Range).length ≤ 1073741824 then (F175_j4 k (v121 ++ ([(⟨v123, 1114111⟩ : api_Range)] : List api_Range))) else none) ((F175_j4 k v121))))))
def F175_l2 (k : Nat) (v0 : List api_Range) : Nat → (List api_Range) → Int → Int → Option (List api_Range)
  | 0, _, _, _ => none
  | m_ + 1, v121, v123, v124 => F175_b2 k (F175_l2 k v0 m_) v0 v121 v123 v124
def F175 (k : Nat) (v0 : List api_Range) : Option (List api_Range) :=
  ((((F175_l2 k v0 k ([] : List api_Range) 0 0))))
theorem F175_ok (k : Nat) (v0 : List api_Range) (r : List api_Range) (hF : F175 k v0 = some r) : Sim Tryz.prog GL0 175 [one (.sl (v0.map e_api_Range))] [] (one (.sl (r.map e_api_Range))) [] := by
  refine sim_of [] Tryz.func175 rfl (by kernel_rfl) (by kernel_rfl) ?_
  show WA _ _ 46 _ _ _
  refine WA.seq ?_
  refine WA.reg [0] [] [] (env' := [(0, one (.sl (v0.map e_api_Range)))]) (os' := []) (O := []) (by kernel_rfl) (sound _ _) trivial ?_
  refine WA.seq ?_
  refine WA.reg [0, 3] [103] [(0, .obj 103)] (env' := [(0, one (.sl (v0.map e_api_Range))), (3, .val false [.arr 103 0])]) (os' := [(103, .arr 2 (([] : List api_Range).map e_api_Range))]) (O := []) (by kernel_rfl) (sound _ _) trivial ?_
  refine WA.seq ?_
  refine WA.reg [0, 3, 4] [103] [] (env' := [(0, one (.sl (v0.map e_api_Range))), (3, .val false [.arr 103 0]), (4, one (.int .i64 0))]) (os' := [(103, .arr 2 (([] : List api_Range).map e_api_Range))]) (O := []) (by kernel_rfl) (sound _ _) trivial ?_
  refine WA.seq ?_
  refine WA.seq ?_
  refine WA.reg [0, 3, 4, 5] [103] [] (env' := [(0, one (.sl (v0.map e_api_Range))), (3, .val false [.arr 103 0]), (4, one (.int .i64 0)), (5, one (.int .i64 0))]) (os' := [(103, .arr 2 (([] : List api_Range).map e_api_Range))]) (O := []) (by kernel_rfl) (sound _ _) trivial ?_
  refine WA.block ?_
  refine WA.loop (fun m s_ => ∃ (v121 : List api_Range) (v122 : Nat) (v123 : Int) (v124 : Int), pickE s_.env [0, 3, 4, 5] = [(0, one (.sl (v0.map e_api_Range))), (3, .val false [.arr 103 v122]), (4, one (.int .i64 v123)), (5, one (.int .i64 v124))] ∧ pickE s_.os [103] = [(103, .arr 2 (v121.map e_api_Range))] ∧ v122 = (v121 : List _).length ∧ F175_l2 k v0 m v121 v123 v124 = some r) k ⟨([] : List api_Range), 0, 0, 0, by kernel_rfl, by kernel_rfl, (by first | omega | (simp only [List.length_map, List.length_append, List.length_cons, List.length_nil, List.length_set, List.length_replicate, List.length_take, List.length_drop, lens_api_Re]; done) | (simp only [List.length_map, List.length_append, List.length_cons, List.length_nil, List.length_set, List.length_replicate, List.length_take, List.length_drop, lens_api_Re]; omega) | (simp only [List.length_map, List.length_append, List.length_cons, List.length_nil, List.length_set, List.length_replicate, List.length_take, List.length_drop, lens_api_Re] at *; omega)), hF⟩ ?_
  clear hF
  rintro m2 s_ ⟨v121, v122, v123, v124, he, ho, hn_v122, hF⟩
  refine WA.keep _ _ he ho ?_
  clear he ho
  cases m2 with
  | zero => cases hF
  | succ m2 =>
    obtain ⟨self2, hself2⟩ : ∃ g, g = F175_l2 k v0 m2 := ⟨_, rfl⟩
    have hF : F175_b2 k self2 v0 v121 v123 v124 = some r := by rw [hself2]; exact hF
    refine WA.seq ?_
    refine WA.seq ?_
    refine WA.regM (α := Int) (raw := ((v0.map e_api_Range).length : Int)) (can := (v0.length : Int)) (fun m_ => ([(0, one (.sl (v0.map e_api_Range))), (3, .val false [.arr 103 v122]), (4, one (.int .i64 v123)), (5, one (.int .i64 v124)), (9, one (.bool (decide (v124 < m_))))], [(103, .arr 2 (v121.map e_api_Range))], [])) ((by first | (simp only [List.length_map, List.length_append, List.length_cons, List.length_nil, List.length_set, List.length_replicate, List.length_take, List.length_drop, lens_api_Re]; done) | (simp only [List.length_map, List.length_append, List.length_cons, List.length_nil, List.length_set, List.length_replicate, List.length_take, List.length_drop, lens_api_Re]; omega) | omega)) [0, 3, 4, 5, 9] [103] [] (env' := [(0, one (.sl (v0.map e_api_Range))), (3, .val false [.arr 103 v122]), (4, one (.int .i64 v123)), (5, one (.int .i64 v124)), (9, one (.bool (decide (v124 < (v0.length : Int)))))]) (os' := [(103, .arr 2 (v121.map e_api_Range))]) (O := []) (by kernel_rfl) (by kernel_rfl) (sound _ _) trivial ?_
    refine WA.cond (b := (decide (v124 < (v0.length : Int)))) rfl (fun hb125 => ?_) (fun hb125 => ?_)
    · have hF := cond_t hF hb125
      refine WA.skip ?_
      refine WA.seq ?_
      refine WA.block ?_
      refine WA.join (fun s_ => ∃ (v130 : List api_Range) (v131 : Nat), pickE s_.env [0, 3, 5] = [(0, one (.sl (v0.map e_api_Range))), (3, .val false [.arr 103 v131]), (5, one (.int .i64 v124))] ∧ pickE s_.os [103] = [(103, .arr 2 (v130.map e_api_Range))] ∧ v131 = (v130 : List _).length ∧ F175_j3 self2 v0 v124 v130 = some r) ?_ ?_
      · rintro s_ ⟨v130, v131, he, ho, hn_v131, hF⟩
        refine WA.keep _ _ he ho ?_
        clear he ho
        obtain ⟨y132, hy132, hF⟩ := bind_some hF
        refine WA.reg [0, 3, 4, 5] [103] [(2, .cells (e_api_Range y132))] (env' := [(0, one (.sl (v0.map e_api_Range))), (3, .val false [.arr 103 v131]), (4, one (.int .i64 (w64 (y132.f_Hi + 1)))), (5, one (.int .i64 v124))]) (os' := [(103, .arr 2 (v130.map e_api_Range))]) (O := [idxL (v0.map e_api_Range) v124 = some (e_api_Range y132)]) (by kernel_rfl) (sound _ _) ⟨(idx_map _ hy132), trivial⟩ ?_
        refine WA.reg [0, 3, 4, 5] [103] [] (env' := [(0, one (.sl (v0.map e_api_Range))), (3, .val false [.arr 103 v131]), (4, one (.int .i64 (w64 (y132.f_Hi + 1)))), (5, one (.int .i64 (w64 (v124 + 1))))]) (os' := [(103, .arr 2 (v130.map e_api_Range))]) (O := []) (by kernel_rfl) (sound _ _) trivial ?_
        exact ⟨m2, Nat.lt_succ_self _, v130, v131, (w64 (y132.f_Hi + 1)), (w64 (v124 + 1)), by kernel_rfl, by kernel_rfl, (by first | omega | (simp only [List.length_map, List.length_append, List.length_cons, List.length_nil, List.length_set, List.length_replicate, List.length_take, List.length_drop, lens_api_Re]; done) | (simp only [List.length_map, List.length_append, List.length_cons, List.length_nil, List.length_set, List.length_replicate, List.length_take, List.length_drop, lens_api_Re]; omega) | (simp only [List.length_map, List.length_append, List.length_cons, List.length_nil, List.length_set, List.length_replicate, List.length_take, List.length_drop, lens_api_Re] at *; omega)), by rw [hself2] at hF; exact hF⟩
      · refine WA.seq ?_
        obtain ⟨y126, hy126, hF⟩ := bind_some hF
        refine WA.reg [0, 3, 4, 5, 18] [103] [(3, .cells (e_api_Range y126))] (env' := [(0, one (.sl (v0.map e_api_Range))), (3, .val false [.arr 103 v122]), (4, one (.int .i64 v123)), (5, one (.int .i64 v124)), (18, one (.bool (decide (v123 < y126.f_Lo))))]) (os' := [(103, .arr 2 (v121.map e_api_Range))]) (O := [idxL (v0.map e_api_Range) v124 = some (e_api_Range y126)]) (by kernel_rfl) (sound _ _) ⟨(idx_map _ hy126), trivial⟩ ?_
        refine WA.cond (b := (decide (v123 < y126.f_Lo))) rfl (fun hb127 => ?_) (fun hb127 => ?_)
        · have hF := cond_t hF hb127
          obtain ⟨y128, hy128, hF⟩ := bind_some hF
          obtain ⟨hc129, hF⟩ := if_some hF
          refine WA.regM (α := (List (List PV))) (raw := ((v121.map e_api_Range) ++ (([(⟨v123, (w64 (y128.f_Lo - 1))⟩ : api_Range)] : List api_Range).map e_api_Range))) (can := ((v121 ++ ([(⟨v123, (w64 (y128.f_Lo - 1))⟩ : api_Range)] : List api_Range)).map e_api_Range)) (fun m_ => ([(0, one (.sl (v0.map e_api_Range))), (3, .val false [.arr 103 (v122 + 1)]), (5, one (.int .i64 v124))], [(103, .arr 2 m_)], [idxL (v0.map e_api_Range) v124 = some (e_api_Range y128), v122 = (v121.map e_api_Range).length, (v121.map e_api_Range).length + (([(⟨v123, (w64 (y128.f_Lo - 1))⟩ : api_Range)] : List api_Range).map e_api_Range).length ≤ 1073741824, ∀ es, es ∈ (([(⟨v123, (w64 (y128.f_Lo - 1))⟩ : api_Range)] : List api_Range).map e_api_Range) → es.length = 2])) ((by first | (simp only [len_map, app_map, take_map, drop_map, set_map, rep_map, lens_api_Re, app_api_Re, take_api_Re, drop_api_Re, set_api_Re, es_api_Re, e0_eq_api_Re]; done) | (simp only [List.map_append, List.map_cons, List.map_nil, List.map_take, List.map_drop, List.map_set, List.map_replicate, List.length_map, es_map_api_Re, e0_eq_api_Re]; done))) [0, 3, 5] [103] [(4, .cells (e_api_Range y128))] (env' := [(0, one (.sl (v0.map e_api_Range))), (3, .val false [.arr 103 (v122 + 1)]), (5, one (.int .i64 v124))]) (os' := [(103, .arr 2 ((v121 ++ ([(⟨v123, (w64 (y128.f_Lo - 1))⟩ : api_Range)] : List api_Range)).map e_api_Range))]) (O := [idxL (v0.map e_api_Range) v124 = some (e_api_Range y128), v122 = (v121.map e_api_Range).length, (v121.map e_api_Range).length + (([(⟨v123, (w64 (y128.f_Lo - 1))⟩ : api_Range)] : List api_Range).map e_api_Range).length ≤ 1073741824, ∀ es, es ∈ (([(⟨v123, (w64 (y128.f_Lo - 1))⟩ : api_Range)] : List api_Range).map e_api_Range) → es.length = 2]) (by kernel_rfl) (by kernel_rfl) (sound _ _) ⟨(idx_map _ hy128), (by first | omega | (simp only [List.length_map, List.length_append, List.length_cons, List.length_nil, List.length_set, List.length_replicate, List.length_take, List.length_drop, lens_api_Re]; done) | (simp only [List.length_map, List.length_append, List.length_cons, List.length_nil, List.length_set, List.length_replicate, List.length_take, List.length_drop, lens_api_Re]; omega) | (simp only [List.length_map, List.length_append, List.length_cons, List.length_nil, List.length_set, List.length_replicate, List.length_take, List.length_drop, lens_api_Re] at *; omega)), (by first | exact hc129 | (simp only [List.length_map, lens_api_Re] ; exact hc129)), (len_api_Range ([(⟨v123, (w64 (y128.f_Lo - 1))⟩ : api_Range)] : List api_Range)), trivial⟩ ?_
          exact ⟨(v121 ++ ([(⟨v123, (w64 (y128.f_Lo - 1))⟩ : api_Range)] : List api_Range)), (v122 + 1), by kernel_rfl, by kernel_rfl, (by first | omega | (simp only [List.length_map, List.length_append, List.length_cons, List.length_nil, List.length_set, List.length_replicate, List.length_take, List.length_drop, lens_api_Re]; done) | (simp only [List.length_map, List.length_append, List.length_cons, List.length_nil, List.length_set, List.length_replicate, List.length_take, List.length_drop, lens_api_Re]; omega) | (simp only [List.length_map, List.length_append, List.length_cons, List.length_nil, List.length_set, List.length_replicate, List.length_take, List.length_drop, lens_api_Re] at *; omega)), hF⟩
        · have hF := cond_f hF hb127
          refine WA.skip ?_
          exact ⟨v121, v122, by kernel_rfl, by kernel_rfl, (by first | omega | (simp only [List.length_map, List.length_append, List.length_cons, List.length_nil, List.length_set, List.length_replicate, List.length_take, List.length_drop, lens_api_Re]; done) | (simp only [List.length_map, List.length_append, List.length_cons, List.length_nil, List.length_set, List.length_replicate, List.length_take, List.length_drop, lens_api_Re]; omega) | (simp only [List.length_map, List.length_append, List.length_cons, List.length_nil, List.length_set, List.length_replicate, List.length_take, List.length_drop, lens_api_Re] at *; omega)), hF⟩
    · have hF := cond_f hF hb125
      refine WA.exit ?_
      refine WA.join (fun s_ => ∃ (v135 : List api_Range) (v136 : Nat), pickE s_.env [3] = [(3, .val false [.arr 103 v136])] ∧ pickE s_.os [103] = [(103, .arr 2 (v135.map e_api_Range))] ∧ v136 = (v135 : List _).length ∧ F175_j4 k v135 = some r) ?_ ?_
      · rintro s_ ⟨v135, v136, he, ho, hn_v136, hF⟩
        refine WA.keep _ _ he ho ?_
        clear he ho
        refine WA.seq ?_
        refine WA.freeze 103 3 (s := 2) (n := v136) (els := (v135.map e_api_Range)) rfl rfl (by first | omega | (simp only [List.length_map, List.length_append, List.length_cons, List.length_nil, List.length_set, List.length_replicate, List.length_take, List.length_drop, lens_api_Re]; done) | (simp only [List.length_map, List.length_append, List.length_cons, List.length_nil, List.length_set, List.length_replicate, List.length_take, List.length_drop, lens_api_Re]; omega) | (simp only [List.length_map, List.length_append, List.length_cons, List.length_nil, List.length_set, List.length_replicate, List.length_take, List.length_drop, lens_api_Re] at *; omega)) ?_
        refine WA.keep [3] [] (env' := [(3, one (.sl (v135.map e_api_Range)))]) (os' := []) (by kernel_rfl) (by kernel_rfl) ?_
        obtain ⟨y138, hy138, hF⟩ := bind_some hF
        obtain ⟨y139, hy139, hF⟩ := bind_some hF
        refine WA.reg [2] [] [(1, .callR [] (one (.sl (y138.map e_api_Range)))), (2, .callR [] (one (.sl (y139.map e_api_Range))))] (env' := [(2, one (.sl (y139.map e_api_Range)))]) (os' := []) (O := [Sim Tryz.prog GL0 143 [] [] (one (.sl (y138.map e_api_Range))) [], ([] : List Nat).Nodup, Sim Tryz.prog GL0 190 [one (.sl (v135.map e_api_Range)), one (.sl (y138.map e_api_Range))] [] (one (.sl (y139.map e_api_Range))) [], ([] : List Nat).Nodup]) (by kernel_rfl) (sound _ _) ⟨(F143_ok k _ hy138), (by decide), (F190_ok k _ _ _ hy139), (by decide), trivial⟩ ?_
        refine WA.ret ?_
        obtain rfl := Option.some.inj hF
        exact out_ret (one (.sl (y139.map e_api_Range))) [] (by kernel_rfl) (by kernel_rfl) (by kernel_rfl) (by kernel_rfl) (by decide) rfl rfl
      · refine WA.seq ?_
        refine WA.reg [3, 4, 37] [103] [] (env' := [(3, .val false [.arr 103 v122]), (4, one (.int .i64 v123)), (37, one (.bool (decide (v123 ≤ 1114111))))]) (os' := [(103, .arr 2 (v121.map e_api_Range))]) (O := []) (by kernel_rfl) (sound _ _) trivial ?_
        refine WA.cond (b := (decide (v123 ≤ 1114111))) rfl (fun hb133 => ?_) (fun hb133 => ?_)
        · have hF := cond_t hF hb133
          obtain ⟨hc134, hF⟩ := if_some hF
          refine WA.regM (α := (List (List PV))) (raw := ((v121.map e_api_Range) ++ (([(⟨v123, 1114111⟩ : api_Range)] : List api_Range).map e_api_Range))) (can := ((v121 ++ ([(⟨v123, 1114111⟩ : api_Range)] : List api_Range)).map e_api_Range)) (fun m_ => ([(3, .val false [.arr 103 (v122 + 1)])], [(103, .arr 2 m_)], [v122 = (v121.map e_api_Range).length, (v121.map e_api_Range).length + (([(⟨v123, 1114111⟩ : api_Range)] : List api_Range).map e_api_Range).length ≤ 1073741824, ∀ es, es ∈ (([(⟨v123, 1114111⟩ : api_Range)] : List api_Range).map e_api_Range) → es.length = 2])) ((by first | (simp only [len_map, app_map, take_map, drop_map, set_map, rep_map, lens_api_Re, app_api_Re, take_api_Re, drop_api_Re, set_api_Re, es_api_Re, e0_eq_api_Re]; done) | (simp only [List.map_append, List.map_cons, List.map_nil, List.map_take, List.map_drop, List.map_set, List.map_replicate, List.length_map, es_map_api_Re, e0_eq_api_Re]; done))) [3] [103] [] (env' := [(3, .val false [.arr 103 (v122 + 1)])]) (os' := [(103, .arr 2 ((v121 ++ ([(⟨v123, 1114111⟩ : api_Range)] : List api_Range)).map e_api_Range))]) (O := [v122 = (v121.map e_api_Range).length, (v121.map e_api_Range).length + (([(⟨v123, 1114111⟩ : api_Range)] : List api_Range).map e_api_Range).length ≤ 1073741824, ∀ es, es ∈ (([(⟨v123, 1114111⟩ : api_Range)] : List api_Range).map e_api_Range) → es.length = 2]) (by kernel_rfl) (by kernel_rfl) (sound _ _) ⟨(by first | omega | (simp only [List.length_map, List.length_append, List.length_cons, List.length_nil, List.length_set, List.length_replicate, List.length_take, List.length_drop, lens_api_Re]; done) | (simp only [List.length_map, List.length_append, List.length_cons, List.length_nil, List.length_set, List.length_replicate, List.length_take, List.length_drop, lens_api_Re]; omega) | (simp only [List.length_map, List.length_append, List.length_cons, List.length_nil, List.length_set, List.length_replicate, List.length_take, List.length_drop, lens_api_Re] at *; omega)), (by first | exact hc134 | (simp only [List.length_map, lens_api_Re] ; exact hc134)), (len_api_Range ([(⟨v123, 1114111⟩ : api_Range)] : List api_Range)), trivial⟩ ?_
          exact ⟨(v121 ++ ([(⟨v123, 1114111⟩ : api_Range)] : List api_Range)), (v122 + 1), by kernel_rfl, by kernel_rfl, (by first | omega | (simp only [List.length_map, List.length_append, List.length_cons, List.length_nil, List.length_set, List.length_replicate, List.length_take, List.length_drop, lens_api_Re]; done) | (simp only [List.length_map, List.length_append, List.length_cons, List.length_nil, List.length_set, List.length_replicate, List.length_take, List.length_drop, lens_api_Re]; omega) | (simp only [List.length_map, List.length_append, List.length_cons, List.length_nil, List.length_set, List.length_replicate, List.length_take, List.length_drop, lens_api_Re] at *; omega)), hF⟩
        · have hF := cond_f hF hb133
          refine WA.skip ?_
          exact ⟨v121, v122, by kernel_rfl, by kernel_rfl, (by first | omega | (simp only [List.length_map, List.length_append, List.length_cons, List.length_nil, List.length_set, List.length_replicate, List.length_take, List.length_drop, lens_api_Re]; done) | (simp only [List.length_map, List.length_append, List.length_cons, List.length_nil, List.length_set, List.length_replicate, List.length_take, List.length_drop, lens_api_Re]; omega) | (simp only [List.length_map, List.length_append, List.length_cons, List.length_nil, List.length_set, List.length_replicate, List.length_take, List.length_drop, lens_api_Re] at *; omega)), hF⟩
/-! entrepot entrepotref10.one -/
def F145 (k : Nat) (v0 : Int) : Option api_Re :=
  ((some (⟨1, ([(⟨v0, v0⟩ : api_Range)] : List api_Range), ([] : List api_Re), 0, 0⟩ : api_Re)))
theorem F145_ok (k : Nat) (v0 : Int) (r : api_Re) (hF : F145 k v0 = some r) : Sim Tryz.prog GL0 145 [one (.int .i64 v0)] [] (.val true (pvL (e_api_Re r))) [] := by
  refine sim_of [] Tryz.func145 rfl (by kernel_rfl) (by kernel_rfl) ?_
  show WA _ _ 8 _ _ _
  refine WA.seq ?_
  refine WA.reg [0, 2] [102] [(0, .obj 102)] (env' := [(0, one (.int .i64 v0)), (2, .val false [.ptr 102 1 0 0])]) (os' := [(102, .box (pvL (e_api_Re (⟨0, ([] : List api_Range), ([] : List api_Re), 0, 0⟩ : api_Re))))]) (O := []) (by kernel_rfl) (sound _ _) trivial ?_
  refine WA.seq ?_
  refine WA.reg [2] [102] [] (env' := [(2, .val false [.ptr 102 1 0 0])]) (os' := [(102, .box (pvL (e_api_Re (⟨1, ([(⟨v0, v0⟩ : api_Range)] : List api_Range), ([] : List api_Re), 0, 0⟩ : api_Re))))]) (O := []) (by kernel_rfl) (sound _ _) trivial ?_
  refine WA.ret ?_
  obtain rfl := Option.some.inj hF
  exact out_ret (.val true (pvL (e_api_Re (⟨1, ([(⟨v0, v0⟩ : api_Range)] : List api_Range), ([] : List api_Re), 0, 0⟩ : api_Re)))) [] (by kernel_rfl) (by kernel_rfl) (by kernel_rfl) (by kernel_rfl) (by decide) rfl rfl
/-! entrepot entrepotref10.among -/
def F146_b0 (self0 : Int → Option Bool) (v0 : List UInt8) (v1 : Int) (v108 : Int) : Option Bool :=
  (cond (decide (v108 < (v0.length : Int))) ((idxL v0 v108).bind fun y110 => (cond ((y110.toNat : Int) == v1) ((some true)) ((self0 (w64 (v108 + 1)))))) (((some false))))
def F146_l0 (v0 : List UInt8) (v1 : Int) : Nat → Int → Option Bool
  | 0, _ => none
  | m_ + 1, v108 => F146_b0 (F146_l0 v0 v1 m_) v0 v1 v108
def F146 (k : Nat) (v0 : List UInt8) (v1 : Int) : Option Bool :=
  ((F146_l0 v0 v1 k 0))
theorem F146_ok (k : Nat) (v0 : List UInt8) (v1 : Int) (r : Bool) (hF : F146 k v0 v1 = some r) : Sim Tryz.prog GL0 146 [one (.str v0), one (.int .u8 v1)] [] (one (.bool r)) [] := by
  refine sim_of [] Tryz.func146 rfl (by kernel_rfl) (by kernel_rfl) ?_
  show WA _ _ 17 _ _ _
  refine WA.seq ?_
  refine WA.reg [0, 1] [] [] (env' := [(0, one (.str v0)), (1, one (.int .u8 v1))]) (os' := []) (O := []) (by kernel_rfl) (sound _ _) trivial ?_
  refine WA.seq ?_
  refine WA.seq ?_
  refine WA.reg [0, 1, 5] [] [] (env' := [(0, one (.str v0)), (1, one (.int .u8 v1)), (5, one (.int .i64 0))]) (os' := []) (O := []) (by kernel_rfl) (sound _ _) trivial ?_
  refine WA.block ?_
  refine WA.loop (fun m s_ => ∃ (v108 : Int), pickE s_.env [0, 1, 5] = [(0, one (.str v0)), (1, one (.int .u8 v1)), (5, one (.int .i64 v108))] ∧ pickE s_.os [] = [] ∧ F146_l0 v0 v1 m v108 = some r) k ⟨0, by kernel_rfl, by kernel_rfl, hF⟩ ?_
  clear hF
  rintro m0 s_ ⟨v108, he, ho, hF⟩
  refine WA.keep _ _ he ho ?_
  clear he ho
  cases m0 with
  | zero => cases hF
  | succ m0 =>
    obtain ⟨self0, hself0⟩ : ∃ g, g = F146_l0 v0 v1 m0 := ⟨_, rfl⟩
    have hF : F146_b0 self0 v0 v1 v108 = some r := by rw [hself0]; exact hF
    refine WA.seq ?_
    refine WA.seq ?_
    refine WA.reg [0, 1, 5, 9] [] [] (env' := [(0, one (.str v0)), (1, one (.int .u8 v1)), (5, one (.int .i64 v108)), (9, one (.bool (decide (v108 < (v0.length : Int)))))]) (os' := []) (O := []) (by kernel_rfl) (sound _ _) trivial ?_
    refine WA.cond (b := (decide (v108 < (v0.length : Int)))) rfl (fun hb109 => ?_) (fun hb109 => ?_)
    · have hF := cond_t hF hb109
      refine WA.skip ?_
      refine WA.seq ?_
      refine WA.block ?_
      refine WA.seq ?_
      obtain ⟨y110, hy110, hF⟩ := bind_some hF
      refine WA.reg [0, 1, 5, 16] [] [(2, .num (y110.toNat : Int))] (env' := [(0, one (.str v0)), (1, one (.int .u8 v1)), (5, one (.int .i64 v108)), (16, one (.bool ((y110.toNat : Int) == v1)))]) (os' := []) (O := [(idxL v0 v108).map (fun b => (b.toNat : Int)) = some (y110.toNat : Int)]) (by kernel_rfl) (sound _ _) ⟨(by rw [hy110]; rfl), trivial⟩ ?_
      refine WA.cond (b := ((y110.toNat : Int) == v1)) rfl (fun hb111 => ?_) (fun hb111 => ?_)
      · have hF := cond_t hF hb111
        refine WA.seq ?_
        refine WA.reg [4] [] [] (env' := [(4, one (.bool true))]) (os' := []) (O := []) (by kernel_rfl) (sound _ _) trivial ?_
        refine WA.ret ?_
        obtain rfl := Option.some.inj hF
        exact out_ret (one (.bool true)) [] (by kernel_rfl) (by kernel_rfl) (by kernel_rfl) (by kernel_rfl) (by decide) rfl rfl
      · have hF := cond_f hF hb111
        refine WA.skip ?_
        refine WA.reg [0, 1, 5] [] [] (env' := [(0, one (.str v0)), (1, one (.int .u8 v1)), (5, one (.int .i64 (w64 (v108 + 1))))]) (os' := []) (O := []) (by kernel_rfl) (sound _ _) trivial ?_
        exact ⟨m0, Nat.lt_succ_self _, (w64 (v108 + 1)), by kernel_rfl, by kernel_rfl, by rw [hself0] at hF; exact hF⟩
    · have hF := cond_f hF hb109
      refine WA.exit ?_
      refine WA.seq ?_
      refine WA.reg [4] [] [] (env' := [(4, one (.bool false))]) (os' := []) (O := []) (by kernel_rfl) (sound _ _) trivial ?_
      refine WA.ret ?_
      obtain rfl := Option.some.inj hF
      exact out_ret (one (.bool false)) [] (by kernel_rfl) (by kernel_rfl) (by kernel_rfl) (by kernel_rfl) (by decide) rfl rfl
/-! entrepot entrepotref10.points -/
def F44_b0 (k : Nat) (self0 : (List Int) → Int → Option (List Int)) (v0 : List UInt8) (v110 : List Int) (v112 : Int) : Option (List Int) :=
  (cond (decide (v112 < (v0.length : Int))) ((F46 k v0 v112).bind fun y114 => (if v110.length + ([y114.1] : List Int).length ≤ 1073741824 then (self0 (v110 ++ ([y114.1] : List Int)) (w64 (v112 + y114.2))) else none)) (((some v110))))
def F44_l0 (k : Nat) (v0 : List UInt8) : Nat → (List Int) → Int → Option (List Int)
  | 0, _, _ => none
  | m_ + 1, v110, v112 => F44_b0 k (F44_l0 k v0 m_) v0 v110 v112
def F44 (k : Nat) (v0 : List UInt8) : Option (List Int) :=
  (((F44_l0 k v0 k ([] : List Int) 0)))
theorem F44_ok (k : Nat) (v0 : List UInt8) (r : List Int) (hF : F44 k v0 = some r) : Sim Tryz.prog GL0 44 [one (.str v0)] [] (one (.sl (r.map (eInt .i64)))) [] := by
  refine sim_of [] Tryz.func44 rfl (by kernel_rfl) (by kernel_rfl) ?_
  show WA _ _ 25 _ _ _
  refine WA.seq ?_
  refine WA.reg [0] [] [] (env' := [(0, one (.str v0))]) (os' := []) (O := []) (by kernel_rfl) (sound _ _) trivial ?_
  refine WA.seq ?_
  refine WA.reg [0, 3] [103] [(0, .obj 103)] (env' := [(0, one (.str v0)), (3, .val false [.arr 103 0])]) (os' := [(103, .arr 1 (([] : List Int).map (eInt .i64)))]) (O := []) (by kernel_rfl) (sound _ _) trivial ?_
  refine WA.seq ?_
  refine WA.seq ?_
  refine WA.reg [0, 3, 4] [103] [] (env' := [(0, one (.str v0)), (3, .val false [.arr 103 0]), (4, one (.int .i64 0))]) (os' := [(103, .arr 1 (([] : List Int).map (eInt .i64)))]) (O := []) (by kernel_rfl) (sound _ _) trivial ?_
  refine WA.block ?_
  refine WA.loop (fun m s_ => ∃ (v110 : List Int) (v111 : Nat) (v112 : Int), pickE s_.env [0, 3, 4] = [(0, one (.str v0)), (3, .val false [.arr 103 v111]), (4, one (.int .i64 v112))] ∧ pickE s_.os [103] = [(103, .arr 1 (v110.map (eInt .i64)))] ∧ v111 = (v110 : List _).length ∧ F44_l0 k v0 m v110 v112 = some r) k ⟨([] : List Int), 0, 0, by kernel_rfl, by kernel_rfl, (by first | omega | (simp only [List.length_map, List.length_append, List.length_cons, List.length_nil, List.length_set, List.length_replicate, List.length_take, List.length_drop, lens_api_Re]; done) | (simp only [List.length_map, List.length_append, List.length_cons, List.length_nil, List.length_set, List.length_replicate, List.length_take, List.length_drop, lens_api_Re]; omega) | (simp only [List.length_map, List.length_append, List.length_cons, List.length_nil, List.length_set, List.length_replicate, List.length_take, List.length_drop, lens_api_Re] at *; omega)), hF⟩ ?_
  clear hF
  rintro m0 s_ ⟨v110, v111, v112, he, ho, hn_v111, hF⟩
  refine WA.keep _ _ he ho ?_
  clear he ho
  cases m0 with
  | zero => cases hF
  | succ m0 =>
    obtain ⟨self0, hself0⟩ : ∃ g, g = F44_l0 k v0 m0 := ⟨_, rfl⟩
    have hF : F44_b0 k self0 v0 v110 v112 = some r := by rw [hself0]; exact hF
    refine WA.seq ?_
    refine WA.seq ?_
    refine WA.reg [0, 3, 4, 10] [103] [] (env' := [(0, one (.str v0)), (3, .val false [.arr 103 v111]), (4, one (.int .i64 v112)), (10, one (.bool (decide (v112 < (v0.length : Int)))))]) (os' := [(103, .arr 1 (v110.map (eInt .i64)))]) (O := []) (by kernel_rfl) (sound _ _) trivial ?_
    refine WA.cond (b := (decide (v112 < (v0.length : Int)))) rfl (fun hb113 => ?_) (fun hb113 => ?_)
    · have hF := cond_t hF hb113
      refine WA.skip ?_
      refine WA.block ?_
      refine WA.seq ?_
      obtain ⟨y114, hy114, hF⟩ := bind_some hF
      refine WA.reg [0, 3, 4, 5, 6] [103] [(2, .callR [] (.tup [(false, [.pv (.int .i64 y114.1)]), (false, [.pv (.int .i64 y114.2)])]))] (env' := [(0, one (.str v0)), (3, .val false [.arr 103 v111]), (4, one (.int .i64 v112)), (5, one (.int .i64 y114.1)), (6, one (.int .i64 y114.2))]) (os' := [(103, .arr 1 (v110.map (eInt .i64)))]) (O := [Sim Tryz.prog GL0 46 [one (.str v0), one (.int .i64 v112)] [] (.tup [(false, [.pv (.int .i64 y114.1)]), (false, [.pv (.int .i64 y114.2)])]) [], ([] : List Nat).Nodup]) (by kernel_rfl) (sound _ _) ⟨(F46_ok k _ _ _ hy114), (by decide), trivial⟩ ?_
      refine WA.seq ?_
      obtain ⟨hc115, hF⟩ := if_some hF
      refine WA.regM (α := (List (List PV))) (raw := ((v110.map (eInt .i64)) ++ (([y114.1] : List Int).map (eInt .i64)))) (can := ((v110 ++ ([y114.1] : List Int)).map (eInt .i64))) (fun m_ => ([(0, one (.str v0)), (3, .val false [.arr 103 (v111 + 1)]), (4, one (.int .i64 v112)), (6, one (.int .i64 y114.2))], [(103, .arr 1 m_)], [v111 = (v110.map (eInt .i64)).length, (v110.map (eInt .i64)).length + (([y114.1] : List Int).map (eInt .i64)).length ≤ 1073741824, ∀ es, es ∈ (([y114.1] : List Int).map (eInt .i64)) → es.length = 1])) ((by first | (simp only [len_map, app_map, take_map, drop_map, set_map, rep_map, lens_api_Re, app_api_Re, take_api_Re, drop_api_Re, set_api_Re, es_api_Re, e0_eq_api_Re]; done) | (simp only [List.map_append, List.map_cons, List.map_nil, List.map_take, List.map_drop, List.map_set, List.map_replicate, List.length_map, es_map_api_Re, e0_eq_api_Re]; done))) [0, 3, 4, 6] [103] [] (env' := [(0, one (.str v0)), (3, .val false [.arr 103 (v111 + 1)]), (4, one (.int .i64 v112)), (6, one (.int .i64 y114.2))]) (os' := [(103, .arr 1 ((v110 ++ ([y114.1] : List Int)).map (eInt .i64)))]) (O := [v111 = (v110.map (eInt .i64)).length, (v110.map (eInt .i64)).length + (([y114.1] : List Int).map (eInt .i64)).length ≤ 1073741824, ∀ es, es ∈ (([y114.1] : List Int).map (eInt .i64)) → es.length = 1]) (by kernel_rfl) (by kernel_rfl) (sound _ _) ⟨(by first | omega | (simp only [List.length_map, List.length_append, List.length_cons, List.length_nil, List.length_set, List.length_replicate, List.length_take, List.length_drop, lens_api_Re]; done) | (simp only [List.length_map, List.length_append, List.length_cons, List.length_nil, List.length_set, List.length_replicate, List.length_take, List.length_drop, lens_api_Re]; omega) | (simp only [List.length_map, List.length_append, List.length_cons, List.length_nil, List.length_set, List.length_replicate, List.length_take, List.length_drop, lens_api_Re] at *; omega)), (by first | exact hc115 | (simp only [List.length_map, lens_api_Re] ; exact hc115)), (len_one _ _ _ (fun _ => rfl)), trivial⟩ ?_
      refine WA.reg [0, 3, 4] [103] [] (env' := [(0, one (.str v0)), (3, .val false [.arr 103 (v111 + 1)]), (4, one (.int .i64 (w64 (v112 + y114.2))))]) (os' := [(103, .arr 1 ((v110 ++ ([y114.1] : List Int)).map (eInt .i64)))]) (O := []) (by kernel_rfl) (sound _ _) trivial ?_
      exact ⟨m0, Nat.lt_succ_self _, (v110 ++ ([y114.1] : List Int)), (v111 + 1), (w64 (v112 + y114.2)), by kernel_rfl, by kernel_rfl, (by first | omega | (simp only [List.length_map, List.length_append, List.length_cons, List.length_nil, List.length_set, List.length_replicate, List.length_take, List.length_drop, lens_api_Re]; done) | (simp only [List.length_map, List.length_append, List.length_cons, List.length_nil, List.length_set, List.length_replicate, List.length_take, List.length_drop, lens_api_Re]; omega) | (simp only [List.length_map, List.length_append, List.length_cons, List.length_nil, List.length_set, List.length_replicate, List.length_take, List.length_drop, lens_api_Re] at *; omega)), by rw [hself0] at hF; exact hF⟩
    · have hF := cond_f hF hb113
      refine WA.exit ?_
      refine WA.seq ?_
      refine WA.reg [2] [103] [] (env' := [(2, .val false [.arr 103 v111])]) (os' := [(103, .arr 1 (v110.map (eInt .i64)))]) (O := []) (by kernel_rfl) (sound _ _) trivial ?_
      refine WA.freeze 103 2 (s := 1) (n := v111) (els := (v110.map (eInt .i64))) rfl rfl (by first | omega | (simp only [List.length_map, List.length_append, List.length_cons, List.length_nil, List.length_set, List.length_replicate, List.length_take, List.length_drop, lens_api_Re]; done) | (simp only [List.length_map, List.length_append, List.length_cons, List.length_nil, List.length_set, List.length_replicate, List.length_take, List.length_drop, lens_api_Re]; omega) | (simp only [List.length_map, List.length_append, List.length_cons, List.length_nil, List.length_set, List.length_replicate, List.length_take, List.length_drop, lens_api_Re] at *; omega)) ?_
      refine WA.keep [2] [] (env' := [(2, one (.sl (v110.map (eInt .i64))))]) (os' := []) (by kernel_rfl) (by kernel_rfl) ?_
      refine WA.ret ?_
      obtain rfl := Option.some.inj hF
      exact out_ret (one (.sl (v110.map (eInt .i64)))) [] (by kernel_rfl) (by kernel_rfl) (by kernel_rfl) (by kernel_rfl) (by decide) rfl rfl
/-! entrepot entrepotlaw10.digits -/
def F35 (k : Nat) (v0 : Int) : Option (List UInt8) :=
  ((cond (decide (v0 ≥ 10)) (if (10 : Int) ≠ 0 then if (10 : Int) ≠ 0 then if (0 : Int) ≤ (w64 (Int.tdiv v0 10)) ∧ ((w64 (Int.tdiv v0 10)) : Int) ≤ (w64 ((w64 (Int.tdiv v0 10)) + 1)) ∧ (w64 ((w64 (Int.tdiv v0 10)) + 1)) ≤ (([48, 49, 50, 51, 52, 53, 54, 55, 56, 57] : List UInt8).length : Int) then if (10 : Int) ≠ 0 then if (10 : Int) ≠ 0 then if (0 : Int) ≤ (Int.tmod v0 10) ∧ ((Int.tmod v0 10) : Int) ≤ (w64 ((Int.tmod v0 10) + 1)) ∧ (w64 ((Int.tmod v0 10) + 1)) ≤ (([48, 49, 50, 51, 52, 53, 54, 55, 56, 57] : List UInt8).length : Int) then if ((([48, 49, 50, 51, 52, 53, 54, 55, 56, 57] : List UInt8).take (Int.toNat (w64 ((w64 (Int.tdiv v0 10)) + 1)))).drop (Int.toNat (w64 (Int.tdiv v0 10)))).length + ((([48, 49, 50, 51, 52, 53, 54, 55, 56, 57] : List UInt8).take (Int.toNat (w64 ((Int.tmod v0 10) + 1)))).drop (Int.toNat (Int.tmod v0 10))).length ≤ 4611686018427387904 then (some (((([48, 49, 50, 51, 52, 53, 54, 55, 56, 57] : List UInt8).take (Int.toNat (w64 ((w64 (Int.tdiv v0 10)) + 1)))).drop (Int.toNat (w64 (Int.tdiv v0 10)))) ++ ((([48, 49, 50, 51, 52, 53, 54, 55, 56, 57] : List UInt8).take (Int.toNat (w64 ((Int.tmod v0 10) + 1)))).drop (Int.toNat (Int.tmod v0 10))))) else none else none else none else none else none else none else none) ((if (0 : Int) ≤ v0 ∧ (v0 : Int) ≤ (w64 (v0 + 1)) ∧ (w64 (v0 + 1)) ≤ (([48, 49, 50, 51, 52, 53, 54, 55, 56, 57] : List UInt8).length : Int) then (some ((([48, 49, 50, 51, 52, 53, 54, 55, 56, 57] : List UInt8).take (Int.toNat (w64 (v0 + 1)))).drop (Int.toNat v0))) else none))))
theorem F35_ok (k : Nat) (v0 : Int) (r : List UInt8) (hF : F35 k v0 = some r) : Sim Tryz.prog GL0 35 [one (.int .i64 v0)] [] (one (.str r)) [] := by
  refine sim_of [] Tryz.func35 rfl (by kernel_rfl) (by kernel_rfl) ?_
  show WA _ _ 22 _ _ _
  refine WA.seq ?_
  refine WA.reg [0] [] [] (env' := [(0, one (.int .i64 v0))]) (os' := []) (O := []) (by kernel_rfl) (sound _ _) trivial ?_
  refine WA.seq ?_
  refine WA.seq ?_
  refine WA.reg [0, 4] [] [] (env' := [(0, one (.int .i64 v0)), (4, one (.bool (decide (v0 ≥ 10))))]) (os' := []) (O := []) (by kernel_rfl) (sound _ _) trivial ?_
  refine WA.cond (b := (decide (v0 ≥ 10))) rfl (fun hb101 => ?_) (fun hb101 => ?_)
  · have hF := cond_t hF hb101
    refine WA.seq ?_
    obtain ⟨hc102, hF⟩ := if_some hF
    obtain ⟨hc103, hF⟩ := if_some hF
    obtain ⟨hc104, hF⟩ := if_some hF
    obtain ⟨hc105, hF⟩ := if_some hF
    obtain ⟨hc106, hF⟩ := if_some hF
    obtain ⟨hc107, hF⟩ := if_some hF
    obtain ⟨hc108, hF⟩ := if_some hF
    refine WA.regD (by kernel_rfl) [2] [] [] (env' := [(2, one (.str (((([48, 49, 50, 51, 52, 53, 54, 55, 56, 57] : List UInt8).take (Int.toNat (w64 ((w64 (Int.tdiv v0 10)) + 1)))).drop (Int.toNat (w64 (Int.tdiv v0 10)))) ++ ((([48, 49, 50, 51, 52, 53, 54, 55, 56, 57] : List UInt8).take (Int.toNat (w64 ((Int.tmod v0 10) + 1)))).drop (Int.toNat (Int.tmod v0 10))))))]) (os' := []) (O := [(10 : Int) ≠ 0, (10 : Int) ≠ 0, (0 : Int) ≤ (w64 (Int.tdiv v0 10)), ((w64 (Int.tdiv v0 10)) : Int) ≤ (w64 ((w64 (Int.tdiv v0 10)) + 1)), (w64 ((w64 (Int.tdiv v0 10)) + 1)) ≤ (([48, 49, 50, 51, 52, 53, 54, 55, 56, 57] : List UInt8).length : Int), (10 : Int) ≠ 0, (10 : Int) ≠ 0, (0 : Int) ≤ (Int.tmod v0 10), ((Int.tmod v0 10) : Int) ≤ (w64 ((Int.tmod v0 10) + 1)), (w64 ((Int.tmod v0 10) + 1)) ≤ (([48, 49, 50, 51, 52, 53, 54, 55, 56, 57] : List UInt8).length : Int), ((([48, 49, 50, 51, 52, 53, 54, 55, 56, 57] : List UInt8).take (Int.toNat (w64 ((w64 (Int.tdiv v0 10)) + 1)))).drop (Int.toNat (w64 (Int.tdiv v0 10)))).length + ((([48, 49, 50, 51, 52, 53, 54, 55, 56, 57] : List UInt8).take (Int.toNat (w64 ((Int.tmod v0 10) + 1)))).drop (Int.toNat (Int.tmod v0 10))).length ≤ 4611686018427387904]) (by kernel_rfl) (by kernel_rfl) (sound _ _) ⟨hc102, hc103, hc104.1, hc104.2.1, hc104.2.2, hc105, hc106, hc107.1, hc107.2.1, hc107.2.2, hc108, trivial⟩ ?_
    refine WA.ret ?_
    obtain rfl := Option.some.inj hF
    exact out_ret (one (.str (((([48, 49, 50, 51, 52, 53, 54, 55, 56, 57] : List UInt8).take (Int.toNat (w64 ((w64 (Int.tdiv v0 10)) + 1)))).drop (Int.toNat (w64 (Int.tdiv v0 10)))) ++ ((([48, 49, 50, 51, 52, 53, 54, 55, 56, 57] : List UInt8).take (Int.toNat (w64 ((Int.tmod v0 10) + 1)))).drop (Int.toNat (Int.tmod v0 10)))))) [] (by kernel_rfl) (by kernel_rfl) (by kernel_rfl) (by kernel_rfl) (by decide) rfl rfl
  · have hF := cond_f hF hb101
    refine WA.skip ?_
    refine WA.seq ?_
    obtain ⟨hc109, hF⟩ := if_some hF
    refine WA.reg [2] [] [] (env' := [(2, one (.str ((([48, 49, 50, 51, 52, 53, 54, 55, 56, 57] : List UInt8).take (Int.toNat (w64 (v0 + 1)))).drop (Int.toNat v0))))]) (os' := []) (O := [(0 : Int) ≤ v0, (v0 : Int) ≤ (w64 (v0 + 1)), (w64 (v0 + 1)) ≤ (([48, 49, 50, 51, 52, 53, 54, 55, 56, 57] : List UInt8).length : Int)]) (by kernel_rfl) (sound _ _) ⟨hc109.1, hc109.2.1, hc109.2.2, trivial⟩ ?_
    refine WA.ret ?_
    obtain rfl := Option.some.inj hF
    exact out_ret (one (.str ((([48, 49, 50, 51, 52, 53, 54, 55, 56, 57] : List UInt8).take (Int.toNat (w64 (v0 + 1)))).drop (Int.toNat v0)))) [] (by kernel_rfl) (by kernel_rfl) (by kernel_rfl) (by kernel_rfl) (by decide) rfl rfl
end Go.Proofs.YthilboheomikjaaGreatDoor
