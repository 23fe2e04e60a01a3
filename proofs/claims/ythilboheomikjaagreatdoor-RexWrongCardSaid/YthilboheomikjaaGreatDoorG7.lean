import Derived.Test.YthilboheomikjaaGreatDoorG6
import Derived.Test.YthilboheomikjaaGreatDoorA22
import Derived.Test.YthilboheomikjaaGreatDoorP2
namespace Go.Proofs.YthilboheomikjaaGreatDoor
open Go.AL
set_option linter.unusedVariables false
set_option linter.unusedSimpArgs false
set_option maxRecDepth 100000

structure rex_reader where
  f_s : List UInt8
  f_at : Int
  f_over : Bool
def e_rex_reader (x : rex_reader) : List PV := [.str x.f_s, .int .i64 x.f_at, .bool x.f_over]
theorem len_rex_reader (l : List rex_reader) : ∀ es, es ∈ l.map e_rex_reader → es.length = 3 := fun es h => by obtain ⟨y, _, rfl⟩ := List.mem_map.1 h; rfl
/-!   entrepot rex.reader .is -/
def F97 (k : Nat) (v0 : rex_reader) (v1 : List UInt8) : Option Bool :=
  (if (0 : Int) ≤ v0.f_at ∧ (v0.f_at : Int) ≤ (v0.f_s.length : Int) ∧ (v0.f_s.length : Int) ≤ (v0.f_s.length : Int) then (F116 k ((v0.f_s.take (Int.toNat (v0.f_s.length : Int))).drop (Int.toNat v0.f_at)) v1).bind fun y102 => (some y102) else none)
theorem F97_ok (k : Nat) (v0 : rex_reader) (v1 : List UInt8) (r : Bool) (hF : F97 k v0 v1 = some r) : Sim Tryz.prog GL0 97 [.val false [.ptr 0 1 0 0], one (.str v1)] [.box (pvL (e_rex_reader v0))] (one (.bool r)) [.box (pvL (e_rex_reader v0))] := by
  refine sim_of [0] Tryz.func97 rfl (by kernel_rfl) (by kernel_rfl) ?_
  show WA _ _ 16 _ _ _
  refine WA.seq ?_
  refine WA.reg [0, 1] [0] [] (env' := [(0, .val false [.ptr 0 1 0 0]), (1, one (.str v1))]) (os' := [(0, .box (pvL (e_rex_reader v0)))]) (O := []) (by kernel_rfl) (sound _ _) trivial ?_
  refine WA.seq ?_
  obtain ⟨hc101, hF⟩ := if_some hF
  obtain ⟨y102, hy102, hF⟩ := bind_some hF
  refine WA.regD (by kernel_rfl) [4] [0] [(10, .callR [] (one (.bool y102)))] (env' := [(4, one (.bool y102))]) (os' := [(0, .box (pvL (e_rex_reader v0)))]) (O := [(0 : Int) ≤ v0.f_at, (v0.f_at : Int) ≤ (v0.f_s.length : Int), (v0.f_s.length : Int) ≤ (v0.f_s.length : Int), Sim Tryz.prog GL0 116 [one (.str ((v0.f_s.take (Int.toNat (v0.f_s.length : Int))).drop (Int.toNat v0.f_at))), one (.str v1)] [] (one (.bool y102)) [], ([] : List Nat).Nodup]) (by kernel_rfl) (by kernel_rfl) (sound _ _) ⟨hc101.1, hc101.2.1, hc101.2.2, (F116_ok k _ _ _ hy102), (by decide), trivial⟩ ?_
  refine WA.ret ?_
  obtain rfl := Option.some.inj hF
  exact out_ret (one (.bool y102)) [.box (pvL (e_rex_reader v0))] (by kernel_rfl) (by kernel_rfl) (by kernel_rfl) (by kernel_rfl) (by decide) rfl rfl
/-!   entrepot rex.reader .take -/
def F71 (k : Nat) (v0 : rex_reader) (v1 : List UInt8) : Option (Bool × rex_reader) :=
  (F97 k v0 v1).bind fun y101 => (cond (!y101) ((some (false, v0))) ((((some (true, ({ v0 with f_at := (w64 (v0.f_at + (v1.length : Int))) } : rex_reader)))))))
theorem F71_ok (k : Nat) (v0 : rex_reader) (v1 : List UInt8) (r : Bool × rex_reader) (hF : F71 k v0 v1 = some r) : Sim Tryz.prog GL0 71 [.val false [.ptr 0 1 0 0], one (.str v1)] [.box (pvL (e_rex_reader v0))] (one (.bool r.1)) [.box (pvL (e_rex_reader r.2))] := by
  refine sim_of [0] Tryz.func71 rfl (by kernel_rfl) (by kernel_rfl) ?_
  show WA _ _ 19 _ _ _
  refine WA.seq ?_
  refine WA.reg [0, 1] [0] [] (env' := [(0, .val false [.ptr 0 1 0 0]), (1, one (.str v1))]) (os' := [(0, .box (pvL (e_rex_reader v0)))]) (O := []) (by kernel_rfl) (sound _ _) trivial ?_
  refine WA.seq ?_
  refine WA.seq ?_
  obtain ⟨y101, hy101, hF⟩ := bind_some hF
  refine WA.reg [0, 1, 8] [0] [(2, .callR [0] (one (.bool y101)))] (env' := [(0, .val false [.ptr 0 1 0 0]), (1, one (.str v1)), (8, one (.bool (!y101)))]) (os' := [(0, .box (pvL (e_rex_reader v0)))]) (O := [Sim Tryz.prog GL0 97 [.val false [.ptr 0 1 0 0], one (.str v1)] [.box (pvL (e_rex_reader v0))] (one (.bool y101)) [.box (pvL (e_rex_reader v0))], ([0] : List Nat).Nodup]) (by kernel_rfl) (sound _ _) ⟨(F97_ok k _ _ _ hy101), (by decide), trivial⟩ ?_
  refine WA.cond (b := (!y101)) rfl (fun hb102 => ?_) (fun hb102 => ?_)
  · have hF := cond_t hF hb102
    refine WA.seq ?_
    refine WA.reg [4] [0] [] (env' := [(4, one (.bool false))]) (os' := [(0, .box (pvL (e_rex_reader v0)))]) (O := []) (by kernel_rfl) (sound _ _) trivial ?_
    refine WA.ret ?_
    obtain rfl := Option.some.inj hF
    exact out_ret (one (.bool false)) [.box (pvL (e_rex_reader v0))] (by kernel_rfl) (by kernel_rfl) (by kernel_rfl) (by kernel_rfl) (by decide) rfl rfl
  · have hF := cond_f hF hb102
    refine WA.skip ?_
    refine WA.seq ?_
    refine WA.reg [] [0] [] (env' := []) (os' := [(0, .box (pvL (e_rex_reader ({ v0 with f_at := (w64 (v0.f_at + (v1.length : Int))) } : rex_reader))))]) (O := []) (by kernel_rfl) (sound _ _) trivial ?_
    refine WA.seq ?_
    refine WA.reg [4] [0] [] (env' := [(4, one (.bool true))]) (os' := [(0, .box (pvL (e_rex_reader ({ v0 with f_at := (w64 (v0.f_at + (v1.length : Int))) } : rex_reader))))]) (O := []) (by kernel_rfl) (sound _ _) trivial ?_
    refine WA.ret ?_
    obtain rfl := Option.some.inj hF
    exact out_ret (one (.bool true)) [.box (pvL (e_rex_reader ({ v0 with f_at := (w64 (v0.f_at + (v1.length : Int))) } : rex_reader)))] (by kernel_rfl) (by kernel_rfl) (by kernel_rfl) (by kernel_rfl) (by decide) rfl rfl
/-!   entrepot rex.reader .next -/
def F140_j0 (v0 : rex_reader) (y101 : Int × Int) (v103 : Bool) : Option (Option (Int × rex_reader)) :=
  cond v103 (some none) ((((some (some (y101.1, ({ v0 with f_at := (w64 (v0.f_at + y101.2)) } : rex_reader)))))))
def F140 (k : Nat) (v0 : rex_reader) : Option (Option (Int × rex_reader)) :=
  (F55 k v0.f_s v0.f_at).bind fun y101 => (cond (y101.2 == 0) ((F140_j0 v0 y101 true)) ((F140_j0 v0 y101 (decide (y101.1 < 0)))))
theorem F140_ok (k : Nat) (v0 : rex_reader) (r : Option (Int × rex_reader)) (hF : F140 k v0 = some r) : SimP Tryz.prog GL0 badV 140 [.val false [.ptr 0 1 0 0]] [.box (pvL (e_rex_reader v0))] (r.map fun r => (one (.int .i64 r.1), [.box (pvL (e_rex_reader r.2))])) := by
  refine simP_of [0] Tryz.func140 rfl (by kernel_rfl) (by kernel_rfl) ?_
  show WA _ _ 35 _ _ _
  refine WA.seq ?_
  refine WA.reg [0] [0] [] (env' := [(0, .val false [.ptr 0 1 0 0])]) (os' := [(0, .box (pvL (e_rex_reader v0)))]) (O := []) (by kernel_rfl) (sound _ _) trivial ?_
  refine WA.seq ?_
  obtain ⟨y101, hy101, hF⟩ := bind_some hF
  refine WA.regD (by kernel_rfl) [0, 3, 4] [0] [(8, .callR [] (.tup [(false, [.pv (.int .i64 y101.1)]), (false, [.pv (.int .i64 y101.2)])]))] (env' := [(0, .val false [.ptr 0 1 0 0]), (3, one (.int .i64 y101.1)), (4, one (.int .i64 y101.2))]) (os' := [(0, .box (pvL (e_rex_reader v0)))]) (O := [Sim Tryz.prog GL0 55 [one (.str v0.f_s), one (.int .i64 v0.f_at)] [] (.tup [(false, [.pv (.int .i64 y101.1)]), (false, [.pv (.int .i64 y101.2)])]) [], ([] : List Nat).Nodup]) (by kernel_rfl) (by kernel_rfl) (sound _ _) ⟨(F55_ok k _ _ _ hy101), (by decide), trivial⟩ ?_
  refine WA.seq ?_
  refine WA.join (fun s_ => ∃ (v103 : Bool), pickE s_.env [0, 3, 4, 22] = [(0, .val false [.ptr 0 1 0 0]), (3, one (.int .i64 y101.1)), (4, one (.int .i64 y101.2)), (22, one (.bool v103))] ∧ pickE s_.os [0] = [(0, .box (pvL (e_rex_reader v0)))] ∧ F140_j0 v0 y101 v103 = some r) ?_ ?_
  · rintro s_ ⟨v103, he, ho, hF⟩
    refine WA.keep _ _ he ho ?_
    clear he ho
    refine WA.cond (b := v103) rfl (fun hb104 => ?_) (fun hb104 => ?_)
    · have hF := cond_t hF hb104
      refine WA.bad [] (t := 70) (env1 := []) (os1 := [(0, .box (pvL (e_rex_reader v0)))]) (O := []) (by kernel_rfl) (sound _ _) trivial ?_
      obtain rfl := Option.some.inj hF
      exact ⟨rfl, [(e_rex_reader v0)], by kernel_rfl, rfl⟩
    · have hF := cond_f hF hb104
      refine WA.skip ?_
      refine WA.seq ?_
      refine WA.reg [3] [0] [] (env' := [(3, one (.int .i64 y101.1))]) (os' := [(0, .box (pvL (e_rex_reader ({ v0 with f_at := (w64 (v0.f_at + y101.2)) } : rex_reader))))]) (O := []) (by kernel_rfl) (sound _ _) trivial ?_
      refine WA.seq ?_
      refine WA.reg [2] [0] [] (env' := [(2, one (.int .i64 y101.1))]) (os' := [(0, .box (pvL (e_rex_reader ({ v0 with f_at := (w64 (v0.f_at + y101.2)) } : rex_reader))))]) (O := []) (by kernel_rfl) (sound _ _) trivial ?_
      refine WA.ret ?_
      obtain rfl := Option.some.inj hF
      exact out_ret (one (.int .i64 y101.1)) [.box (pvL (e_rex_reader ({ v0 with f_at := (w64 (v0.f_at + y101.2)) } : rex_reader)))] (by kernel_rfl) (by kernel_rfl) (by kernel_rfl) (by kernel_rfl) (by decide) rfl rfl
  · rcases Bool.eq_false_or_eq_true (y101.2 == 0) with hb102 | hb102
    · have hF := cond_t hF hb102
      refine WA.reg [0, 3, 4, 22] [0] [(2, .bool true)] (env' := [(0, .val false [.ptr 0 1 0 0]), (3, one (.int .i64 y101.1)), (4, one (.int .i64 y101.2)), (22, one (.bool true))]) (os' := [(0, .box (pvL (e_rex_reader v0)))]) (O := [(y101.2 == 0) = true]) (by kernel_rfl) (sound _ _) ⟨hb102, trivial⟩ ?_
      exact ⟨true, by kernel_rfl, by kernel_rfl, hF⟩
    · have hF := cond_f hF hb102
      refine WA.reg [0, 3, 4, 22] [0] [(2, .bool false)] (env' := [(0, .val false [.ptr 0 1 0 0]), (3, one (.int .i64 y101.1)), (4, one (.int .i64 y101.2)), (22, one (.bool (decide (y101.1 < 0))))]) (os' := [(0, .box (pvL (e_rex_reader v0)))]) (O := [(y101.2 == 0) = false]) (by kernel_rfl) (sound _ _) ⟨hb102, trivial⟩ ?_
      exact ⟨(decide (y101.1 < 0)), by kernel_rfl, by kernel_rfl, hF⟩
/-!   entrepot rex.reader .digits -/
def F142_j5 (y128 : Int) (v130 : rex_reader) : Option (Option (Int × rex_reader)) :=
  (some (some (y128, v130)))
def F142_j4 (k : Nat) (v0 : rex_reader) (v116 : rex_reader) (v125 : Bool) : Option (Option (Int × rex_reader)) :=
  cond v125 (some none) ((if (0 : Int) ≤ v0.f_at ∧ (v0.f_at : Int) ≤ v116.f_at ∧ v116.f_at ≤ (v116.f_s.length : Int) then (F172 k ((v116.f_s.take (Int.toNat v116.f_at)).drop (Int.toNat v0.f_at))).bind fun y128 => (cond v116.f_over ((F142_j5 y128 ({ v116 with f_over := true } : rex_reader))) ((F142_j5 y128 ({ v116 with f_over := (decide (y128 > 20)) } : rex_reader)))) else none))
def F142_j3 (k : Nat) (self2 : rex_reader → Option (Option (Int × rex_reader))) (v0 : rex_reader) (v116 : rex_reader) (v122 : Bool) : Option (Option (Int × rex_reader)) :=
  cond v122 ((self2 ({ v116 with f_at := (w64 (v116.f_at + 1)) } : rex_reader))) ((cond (v116.f_at == v0.f_at) ((F142_j4 k v0 v116 true)) ((F142_j4 k v0 v116 (decide (v116.f_at > (w64 (v0.f_at + 3))))))))
def F142_b2 (k : Nat) (self2 : rex_reader → Option (Option (Int × rex_reader))) (v0 : rex_reader) (v116 : rex_reader) : Option (Option (Int × rex_reader)) :=
  cond (decide (v116.f_at < (v116.f_s.length : Int))) (cond (decide (v116.f_at < (w64 (v0.f_at + 4)))) ((idxL v116.f_s v116.f_at).bind fun y119 => cond (decide ((y119.toNat : Int) ≥ 48)) ((idxL v116.f_s v116.f_at).bind fun y121 => (F142_j3 k self2 v0 v116 (decide ((y121.toNat : Int) ≤ 57)))) ((F142_j3 k self2 v0 v116 false))) ((F142_j3 k self2 v0 v116 false))) ((F142_j3 k self2 v0 v116 false))
def F142_l2 (k : Nat) (v0 : rex_reader) : Nat → rex_reader → Option (Option (Int × rex_reader))
  | 0, _ => none
  | m_ + 1, v116 => F142_b2 k (F142_l2 k v0 m_) v0 v116
def F142 (k : Nat) (v0 : rex_reader) : Option (Option (Int × rex_reader)) :=
  ((F142_l2 k v0 k v0))
theorem F142_ok (k : Nat) (v0 : rex_reader) (r : Option (Int × rex_reader)) (hF : F142 k v0 = some r) : SimP Tryz.prog GL0 badV 142 [.val false [.ptr 0 1 0 0]] [.box (pvL (e_rex_reader v0))] (r.map fun r => (one (.int .i64 r.1), [.box (pvL (e_rex_reader r.2))])) := by
  refine simP_of [0] Tryz.func142 rfl (by kernel_rfl) (by kernel_rfl) ?_
  show WA _ _ 103 _ _ _
  refine WA.seq ?_
  refine WA.reg [0] [0] [] (env' := [(0, .val false [.ptr 0 1 0 0])]) (os' := [(0, .box (pvL (e_rex_reader v0)))]) (O := []) (by kernel_rfl) (sound _ _) trivial ?_
  refine WA.seq ?_
  refine WA.reg [0, 3] [0] [] (env' := [(0, .val false [.ptr 0 1 0 0]), (3, one (.int .i64 v0.f_at))]) (os' := [(0, .box (pvL (e_rex_reader v0)))]) (O := []) (by kernel_rfl) (sound _ _) trivial ?_
  refine WA.seq ?_
  refine WA.block ?_
  refine WA.loop (fun m s_ => ∃ (v116 : rex_reader), pickE s_.env [0, 3] = [(0, .val false [.ptr 0 1 0 0]), (3, one (.int .i64 v0.f_at))] ∧ pickE s_.os [0] = [(0, .box (pvL (e_rex_reader v116)))] ∧ F142_l2 k v0 m v116 = some r) k ⟨v0, by kernel_rfl, by kernel_rfl, hF⟩ ?_
  clear hF
  rintro m2 s_ ⟨v116, he, ho, hF⟩
  refine WA.keep _ _ he ho ?_
  clear he ho
  cases m2 with
  | zero => cases hF
  | succ m2 =>
    obtain ⟨self2, hself2⟩ : ∃ g, g = F142_l2 k v0 m2 := ⟨_, rfl⟩
    have hF : F142_b2 k self2 v0 v116 = some r := by first | (rw [hself2]; exact hF) | exact hF
    refine WA.seq ?_
    refine WA.join (fun s_ => ∃ (v122 : Bool), pickE s_.env [0, 3, 52] = [(0, .val false [.ptr 0 1 0 0]), (3, one (.int .i64 v0.f_at)), (52, one (.bool v122))] ∧ pickE s_.os [0] = [(0, .box (pvL (e_rex_reader v116)))] ∧ F142_j3 k self2 v0 v116 v122 = some r) ?_ ?_
    · rintro s_ ⟨v122, he, ho, hF⟩
      refine WA.keep _ _ he ho ?_
      clear he ho
      refine WA.cond (b := v122) rfl (fun hb123 => ?_) (fun hb123 => ?_)
      · have hF := cond_t hF hb123
        refine WA.skip ?_
        refine WA.block ?_
        refine WA.reg [0, 3] [0] [] (env' := [(0, .val false [.ptr 0 1 0 0]), (3, one (.int .i64 v0.f_at))]) (os' := [(0, .box (pvL (e_rex_reader ({ v116 with f_at := (w64 (v116.f_at + 1)) } : rex_reader))))]) (O := []) (by kernel_rfl) (sound _ _) trivial ?_
        exact ⟨m2, Nat.lt_succ_self _, ({ v116 with f_at := (w64 (v116.f_at + 1)) } : rex_reader), by kernel_rfl, by kernel_rfl, by rw [hself2] at hF; exact hF⟩
      · have hF := cond_f hF hb123
        refine WA.exit ?_
        refine WA.seq ?_
        refine WA.join (fun s_ => ∃ (v125 : Bool), pickE s_.env [0, 3, 74] = [(0, .val false [.ptr 0 1 0 0]), (3, one (.int .i64 v0.f_at)), (74, one (.bool v125))] ∧ pickE s_.os [0] = [(0, .box (pvL (e_rex_reader v116)))] ∧ F142_j4 k v0 v116 v125 = some r) ?_ ?_
        · rintro s_ ⟨v125, he, ho, hF⟩
          refine WA.keep _ _ he ho ?_
          clear he ho
          refine WA.cond (b := v125) rfl (fun hb126 => ?_) (fun hb126 => ?_)
          · have hF := cond_t hF hb126
            refine WA.bad [] (t := 70) (env1 := []) (os1 := [(0, .box (pvL (e_rex_reader v116)))]) (O := []) (by kernel_rfl) (sound _ _) trivial ?_
            obtain rfl := Option.some.inj hF
            exact ⟨rfl, [(e_rex_reader v116)], by kernel_rfl, rfl⟩
          · have hF := cond_f hF hb126
            refine WA.skip ?_
            refine WA.seq ?_
            obtain ⟨hc127, hF⟩ := if_some hF
            obtain ⟨y128, hy128, hF⟩ := bind_some hF
            refine WA.regD (by kernel_rfl) [0, 4] [0] [(10, .callR [] (.tup [(false, [.pv (.int .i64 y128)]), (false, [.pv .nilif])]))] (env' := [(0, .val false [.ptr 0 1 0 0]), (4, one (.int .i64 y128))]) (os' := [(0, .box (pvL (e_rex_reader v116)))]) (O := [(0 : Int) ≤ v0.f_at, (v0.f_at : Int) ≤ v116.f_at, v116.f_at ≤ (v116.f_s.length : Int), Sim Tryz.prog GL0 172 [one (.str ((v116.f_s.take (Int.toNat v116.f_at)).drop (Int.toNat v0.f_at)))] [] (.tup [(false, [.pv (.int .i64 y128)]), (false, [.pv .nilif])]) [], ([] : List Nat).Nodup]) (by kernel_rfl) (by kernel_rfl) (sound _ _) ⟨hc127.1, hc127.2.1, hc127.2.2, (F172_ok k _ _ hy128), (by decide), trivial⟩ ?_
            refine WA.join (fun s_ => ∃ (v130 : rex_reader), pickE s_.env [4] = [(4, one (.int .i64 y128))] ∧ pickE s_.os [0] = [(0, .box (pvL (e_rex_reader v130)))] ∧ F142_j5 y128 v130 = some r) ?_ ?_
            · rintro s_ ⟨v130, he, ho, hF⟩
              refine WA.keep _ _ he ho ?_
              clear he ho
              refine WA.seq ?_
              refine WA.reg [2] [0] [] (env' := [(2, one (.int .i64 y128))]) (os' := [(0, .box (pvL (e_rex_reader v130)))]) (O := []) (by kernel_rfl) (sound _ _) trivial ?_
              refine WA.ret ?_
              obtain rfl := Option.some.inj hF
              exact out_ret (one (.int .i64 y128)) [.box (pvL (e_rex_reader v130))] (by kernel_rfl) (by kernel_rfl) (by kernel_rfl) (by kernel_rfl) (by decide) rfl rfl
            · rcases Bool.eq_false_or_eq_true v116.f_over with hb129 | hb129
              · have hF := cond_t hF hb129
                refine WA.reg [4] [0] [(5, .bool true)] (env' := [(4, one (.int .i64 y128))]) (os' := [(0, .box (pvL (e_rex_reader ({ v116 with f_over := true } : rex_reader))))]) (O := [v116.f_over = true]) (by kernel_rfl) (sound _ _) ⟨hb129, trivial⟩ ?_
                exact ⟨({ v116 with f_over := true } : rex_reader), by kernel_rfl, by kernel_rfl, hF⟩
              · have hF := cond_f hF hb129
                refine WA.reg [4] [0] [(5, .bool false)] (env' := [(4, one (.int .i64 y128))]) (os' := [(0, .box (pvL (e_rex_reader ({ v116 with f_over := (decide (y128 > 20)) } : rex_reader))))]) (O := [v116.f_over = false]) (by kernel_rfl) (sound _ _) ⟨hb129, trivial⟩ ?_
                exact ⟨({ v116 with f_over := (decide (y128 > 20)) } : rex_reader), by kernel_rfl, by kernel_rfl, hF⟩
        · rcases Bool.eq_false_or_eq_true (v116.f_at == v0.f_at) with hb124 | hb124
          · have hF := cond_t hF hb124
            refine WA.reg [0, 3, 74] [0] [(6, .bool true)] (env' := [(0, .val false [.ptr 0 1 0 0]), (3, one (.int .i64 v0.f_at)), (74, one (.bool true))]) (os' := [(0, .box (pvL (e_rex_reader v116)))]) (O := [(v116.f_at == v0.f_at) = true]) (by kernel_rfl) (sound _ _) ⟨hb124, trivial⟩ ?_
            exact ⟨true, by kernel_rfl, by kernel_rfl, hF⟩
          · have hF := cond_f hF hb124
            refine WA.reg [0, 3, 74] [0] [(6, .bool false)] (env' := [(0, .val false [.ptr 0 1 0 0]), (3, one (.int .i64 v0.f_at)), (74, one (.bool (decide (v116.f_at > (w64 (v0.f_at + 3))))))]) (os' := [(0, .box (pvL (e_rex_reader v116)))]) (O := [(v116.f_at == v0.f_at) = false]) (by kernel_rfl) (sound _ _) ⟨hb124, trivial⟩ ?_
            exact ⟨(decide (v116.f_at > (w64 (v0.f_at + 3)))), by kernel_rfl, by kernel_rfl, hF⟩
    · rcases Bool.eq_false_or_eq_true (decide (v116.f_at < (v116.f_s.length : Int))) with hb117 | hb117
      · have hF := cond_t hF hb117
        rcases Bool.eq_false_or_eq_true (decide (v116.f_at < (w64 (v0.f_at + 4)))) with hb118 | hb118
        · have hF := cond_t hF hb118
          obtain ⟨y119, hy119, hF⟩ := bind_some hF
          rcases Bool.eq_false_or_eq_true (decide ((y119.toNat : Int) ≥ 48)) with hb120 | hb120
          · have hF := cond_t hF hb120
            obtain ⟨y121, hy121, hF⟩ := bind_some hF
            refine WA.regD (by kernel_rfl) [0, 3, 52] [0] [(10, .bool true), (19, .bool true), (28, .num (y119.toNat : Int)), (31, .bool true), (40, .num (y121.toNat : Int))] (env' := [(0, .val false [.ptr 0 1 0 0]), (3, one (.int .i64 v0.f_at)), (52, one (.bool (decide ((y121.toNat : Int) ≤ 57))))]) (os' := [(0, .box (pvL (e_rex_reader v116)))]) (O := [(decide (v116.f_at < (v116.f_s.length : Int))) = true, (decide (v116.f_at < (w64 (v0.f_at + 4)))) = true, (idxL v116.f_s v116.f_at).map (fun b => (b.toNat : Int)) = some (y119.toNat : Int), (decide ((y119.toNat : Int) ≥ 48)) = true, (idxL v116.f_s v116.f_at).map (fun b => (b.toNat : Int)) = some (y121.toNat : Int)]) (by kernel_rfl) (by kernel_rfl) (sound _ _) ⟨hb117, hb118, (by rw [hy119]; rfl), hb120, (by rw [hy121]; rfl), trivial⟩ ?_
            exact ⟨(decide ((y121.toNat : Int) ≤ 57)), by kernel_rfl, by kernel_rfl, hF⟩
          · have hF := cond_f hF hb120
            refine WA.regD (by kernel_rfl) [0, 3, 52] [0] [(10, .bool true), (19, .bool true), (28, .num (y119.toNat : Int)), (31, .bool false)] (env' := [(0, .val false [.ptr 0 1 0 0]), (3, one (.int .i64 v0.f_at)), (52, one (.bool false))]) (os' := [(0, .box (pvL (e_rex_reader v116)))]) (O := [(decide (v116.f_at < (v116.f_s.length : Int))) = true, (decide (v116.f_at < (w64 (v0.f_at + 4)))) = true, (idxL v116.f_s v116.f_at).map (fun b => (b.toNat : Int)) = some (y119.toNat : Int), (decide ((y119.toNat : Int) ≥ 48)) = false]) (by kernel_rfl) (by kernel_rfl) (sound _ _) ⟨hb117, hb118, (by rw [hy119]; rfl), hb120, trivial⟩ ?_
            exact ⟨false, by kernel_rfl, by kernel_rfl, hF⟩
        · have hF := cond_f hF hb118
          refine WA.regD (by kernel_rfl) [0, 3, 52] [0] [(10, .bool true), (19, .bool false)] (env' := [(0, .val false [.ptr 0 1 0 0]), (3, one (.int .i64 v0.f_at)), (52, one (.bool false))]) (os' := [(0, .box (pvL (e_rex_reader v116)))]) (O := [(decide (v116.f_at < (v116.f_s.length : Int))) = true, (decide (v116.f_at < (w64 (v0.f_at + 4)))) = false]) (by kernel_rfl) (by kernel_rfl) (sound _ _) ⟨hb117, hb118, trivial⟩ ?_
          exact ⟨false, by kernel_rfl, by kernel_rfl, hF⟩
      · have hF := cond_f hF hb117
        refine WA.regD (by kernel_rfl) [0, 3, 52] [0] [(10, .bool false)] (env' := [(0, .val false [.ptr 0 1 0 0]), (3, one (.int .i64 v0.f_at)), (52, one (.bool false))]) (os' := [(0, .box (pvL (e_rex_reader v116)))]) (O := [(decide (v116.f_at < (v116.f_s.length : Int))) = false]) (by kernel_rfl) (by kernel_rfl) (sound _ _) ⟨hb117, trivial⟩ ?_
        exact ⟨false, by kernel_rfl, by kernel_rfl, hF⟩
/-!   entrepot rex.reader .times -/
def F118_j0 (k : Nat) (y101 : Int × rex_reader) (v108 : rex_reader) (v109 : Int) : Option (Option (Int × Int × rex_reader)) :=
  (F71 k v108 ([125] : List UInt8)).bind fun y110 => (cond (!y110.1) (some none) (((some (some (y101.1, v109, y110.2))))))
def F118 (k : Nat) (v0 : rex_reader) : Option (Option (Int × Int × rex_reader)) :=
  (orP (F142 k v0) fun y101 => ((F71 k y101.2 ([44] : List UInt8)).bind fun y102 => (cond y102.1 ((F97 k y102.2 ([125] : List UInt8)).bind fun y104 => (cond (!y104) (orP (F142 k y102.2) fun y106 => (cond y106.2.f_over ((F118_j0 k y101 ({ y106.2 with f_over := true } : rex_reader) y106.1)) ((F118_j0 k y101 ({ y106.2 with f_over := (decide (y106.1 < y101.1)) } : rex_reader) y106.1)))) ((F118_j0 k y101 y102.2 (-1))))) ((F118_j0 k y101 y102.2 y101.1)))))
theorem F118_ok (k : Nat) (v0 : rex_reader) (r : Option (Int × Int × rex_reader)) (hF : F118 k v0 = some r) : SimP Tryz.prog GL0 badV 118 [.val false [.ptr 0 1 0 0]] [.box (pvL (e_rex_reader v0))] (r.map fun r => (.tup [(false, [.pv (.int .i64 r.1)]), (false, [.pv (.int .i64 r.2.1)])], [.box (pvL (e_rex_reader r.2.2))])) := by
  refine simP_of [0] Tryz.func118 rfl (by kernel_rfl) (by kernel_rfl) ?_
  show WA _ _ 35 _ _ _
  refine WA.seq ?_
  refine WA.reg [0] [0] [] (env' := [(0, .val false [.ptr 0 1 0 0])]) (os' := [(0, .box (pvL (e_rex_reader v0)))]) (O := []) (by kernel_rfl) (sound _ _) trivial ?_
  refine WA.seq ?_
  rcases orP_some hF with ⟨hz, hr⟩ | ⟨y101, hy101, hF⟩
  · subst hr
    refine WA.regP 1 [0] [] [] badV (f := 142) (args := [.val false [.ptr 0 1 0 0]]) (os := [.box (pvL (e_rex_reader v0))]) (env1 := []) (os1 := [(0, .box (pvL (e_rex_reader v0)))]) (O := []) (by kernel_rfl) (sound _ _) trivial (by decide) (F142_ok k _ _ hz) (fun psl hpsl => ?_)
    obtain ⟨ps, rfl⟩ := one_of_len hpsl
    exact ⟨rfl, [ps], by kernel_rfl, rfl⟩
  · refine WA.reg [0, 4] [0] [(1, .call [0] (one (.int .i64 y101.1)) [.box (pvL (e_rex_reader y101.2))] [])] (env' := [(0, .val false [.ptr 0 1 0 0]), (4, one (.int .i64 y101.1))]) (os' := [(0, .box (pvL (e_rex_reader y101.2)))]) (O := [Sim Tryz.prog GL0 142 [.val false [.ptr 0 1 0 0]] [.box (pvL (e_rex_reader v0))] (one (.int .i64 y101.1)) [.box (pvL (e_rex_reader y101.2))], ([0] : List Nat).Nodup]) (by kernel_rfl) (sound _ _) ⟨(F142_ok k _ _ hy101), (by decide), trivial⟩ ?_
    refine WA.seq ?_
    refine WA.reg [0, 4, 5] [0] [] (env' := [(0, .val false [.ptr 0 1 0 0]), (4, one (.int .i64 y101.1)), (5, one (.int .i64 y101.1))]) (os' := [(0, .box (pvL (e_rex_reader y101.2)))]) (O := []) (by kernel_rfl) (sound _ _) trivial ?_
    refine WA.join (fun s_ => ∃ (v108 : rex_reader) (v109 : Int), pickE s_.env [0, 4, 5] = [(0, .val false [.ptr 0 1 0 0]), (4, one (.int .i64 y101.1)), (5, one (.int .i64 v109))] ∧ pickE s_.os [0] = [(0, .box (pvL (e_rex_reader v108)))] ∧ F118_j0 k y101 v108 v109 = some r) ?_ ?_
    · rintro s_ ⟨v108, v109, he, ho, hF⟩
      refine WA.keep _ _ he ho ?_
      clear he ho
      refine WA.seq ?_
      refine WA.seq ?_
      obtain ⟨y110, hy110, hF⟩ := bind_some hF
      refine WA.reg [4, 5, 30] [0] [(1, .call [0] (one (.bool y110.1)) [.box (pvL (e_rex_reader y110.2))] [])] (env' := [(4, one (.int .i64 y101.1)), (5, one (.int .i64 v109)), (30, one (.bool (!y110.1)))]) (os' := [(0, .box (pvL (e_rex_reader y110.2)))]) (O := [Sim Tryz.prog GL0 71 [.val false [.ptr 0 1 0 0], one (.str ([125] : List UInt8))] [.box (pvL (e_rex_reader v108))] (one (.bool y110.1)) [.box (pvL (e_rex_reader y110.2))], ([0] : List Nat).Nodup]) (by kernel_rfl) (sound _ _) ⟨(F71_ok k _ _ _ hy110), (by decide), trivial⟩ ?_
      refine WA.cond (b := (!y110.1)) rfl (fun hb111 => ?_) (fun hb111 => ?_)
      · have hF := cond_t hF hb111
        refine WA.bad [] (t := 70) (env1 := []) (os1 := [(0, .box (pvL (e_rex_reader y110.2)))]) (O := []) (by kernel_rfl) (sound _ _) trivial ?_
        obtain rfl := Option.some.inj hF
        exact ⟨rfl, [(e_rex_reader y110.2)], by kernel_rfl, rfl⟩
      · have hF := cond_f hF hb111
        refine WA.skip ?_
        refine WA.seq ?_
        refine WA.reg [2, 3] [0] [] (env' := [(2, one (.int .i64 y101.1)), (3, one (.int .i64 v109))]) (os' := [(0, .box (pvL (e_rex_reader y110.2)))]) (O := []) (by kernel_rfl) (sound _ _) trivial ?_
        refine WA.ret ?_
        obtain rfl := Option.some.inj hF
        exact out_ret (.tup [(false, [.pv (.int .i64 y101.1)]), (false, [.pv (.int .i64 v109)])]) [.box (pvL (e_rex_reader y110.2))] (by kernel_rfl) (by kernel_rfl) (by kernel_rfl) (by kernel_rfl) (by decide) rfl rfl
    · refine WA.seq ?_
      obtain ⟨y102, hy102, hF⟩ := bind_some hF
      refine WA.reg [0, 4, 5, 10] [0] [(1, .call [0] (one (.bool y102.1)) [.box (pvL (e_rex_reader y102.2))] [])] (env' := [(0, .val false [.ptr 0 1 0 0]), (4, one (.int .i64 y101.1)), (5, one (.int .i64 y101.1)), (10, one (.bool y102.1))]) (os' := [(0, .box (pvL (e_rex_reader y102.2)))]) (O := [Sim Tryz.prog GL0 71 [.val false [.ptr 0 1 0 0], one (.str ([44] : List UInt8))] [.box (pvL (e_rex_reader y101.2))] (one (.bool y102.1)) [.box (pvL (e_rex_reader y102.2))], ([0] : List Nat).Nodup]) (by kernel_rfl) (sound _ _) ⟨(F71_ok k _ _ _ hy102), (by decide), trivial⟩ ?_
      refine WA.cond (b := y102.1) rfl (fun hb103 => ?_) (fun hb103 => ?_)
      · have hF := cond_t hF hb103
        refine WA.seq ?_
        refine WA.reg [0, 4, 5] [0] [] (env' := [(0, .val false [.ptr 0 1 0 0]), (4, one (.int .i64 y101.1)), (5, one (.int .i64 (-1)))]) (os' := [(0, .box (pvL (e_rex_reader y102.2)))]) (O := []) (by kernel_rfl) (sound _ _) trivial ?_
        refine WA.seq ?_
        obtain ⟨y104, hy104, hF⟩ := bind_some hF
        refine WA.reg [0, 4, 5, 13] [0] [(1, .callR [0] (one (.bool y104)))] (env' := [(0, .val false [.ptr 0 1 0 0]), (4, one (.int .i64 y101.1)), (5, one (.int .i64 (-1))), (13, one (.bool (!y104)))]) (os' := [(0, .box (pvL (e_rex_reader y102.2)))]) (O := [Sim Tryz.prog GL0 97 [.val false [.ptr 0 1 0 0], one (.str ([125] : List UInt8))] [.box (pvL (e_rex_reader y102.2))] (one (.bool y104)) [.box (pvL (e_rex_reader y102.2))], ([0] : List Nat).Nodup]) (by kernel_rfl) (sound _ _) ⟨(F97_ok k _ _ _ hy104), (by decide), trivial⟩ ?_
        refine WA.cond (b := (!y104)) rfl (fun hb105 => ?_) (fun hb105 => ?_)
        · have hF := cond_t hF hb105
          refine WA.seq ?_
          rcases orP_some hF with ⟨hz, hr⟩ | ⟨y106, hy106, hF⟩
          · subst hr
            refine WA.regP 1 [0] [] [] badV (f := 142) (args := [.val false [.ptr 0 1 0 0]]) (os := [.box (pvL (e_rex_reader y102.2))]) (env1 := []) (os1 := [(0, .box (pvL (e_rex_reader y102.2)))]) (O := []) (by kernel_rfl) (sound _ _) trivial (by decide) (F142_ok k _ _ hz) (fun psl hpsl => ?_)
            obtain ⟨ps, rfl⟩ := one_of_len hpsl
            exact ⟨rfl, [ps], by kernel_rfl, rfl⟩
          · refine WA.reg [0, 4, 5] [0] [(1, .call [0] (one (.int .i64 y106.1)) [.box (pvL (e_rex_reader y106.2))] [])] (env' := [(0, .val false [.ptr 0 1 0 0]), (4, one (.int .i64 y101.1)), (5, one (.int .i64 y106.1))]) (os' := [(0, .box (pvL (e_rex_reader y106.2)))]) (O := [Sim Tryz.prog GL0 142 [.val false [.ptr 0 1 0 0]] [.box (pvL (e_rex_reader y102.2))] (one (.int .i64 y106.1)) [.box (pvL (e_rex_reader y106.2))], ([0] : List Nat).Nodup]) (by kernel_rfl) (sound _ _) ⟨(F142_ok k _ _ hy106), (by decide), trivial⟩ ?_
            rcases Bool.eq_false_or_eq_true y106.2.f_over with hb107 | hb107
            · have hF := cond_t hF hb107
              refine WA.reg [0, 4, 5] [0] [(5, .bool true)] (env' := [(0, .val false [.ptr 0 1 0 0]), (4, one (.int .i64 y101.1)), (5, one (.int .i64 y106.1))]) (os' := [(0, .box (pvL (e_rex_reader ({ y106.2 with f_over := true } : rex_reader))))]) (O := [y106.2.f_over = true]) (by kernel_rfl) (sound _ _) ⟨hb107, trivial⟩ ?_
              exact ⟨({ y106.2 with f_over := true } : rex_reader), y106.1, by kernel_rfl, by kernel_rfl, hF⟩
            · have hF := cond_f hF hb107
              refine WA.reg [0, 4, 5] [0] [(5, .bool false)] (env' := [(0, .val false [.ptr 0 1 0 0]), (4, one (.int .i64 y101.1)), (5, one (.int .i64 y106.1))]) (os' := [(0, .box (pvL (e_rex_reader ({ y106.2 with f_over := (decide (y106.1 < y101.1)) } : rex_reader))))]) (O := [y106.2.f_over = false]) (by kernel_rfl) (sound _ _) ⟨hb107, trivial⟩ ?_
              exact ⟨({ y106.2 with f_over := (decide (y106.1 < y101.1)) } : rex_reader), y106.1, by kernel_rfl, by kernel_rfl, hF⟩
        · have hF := cond_f hF hb105
          refine WA.skip ?_
          exact ⟨y102.2, (-1), by kernel_rfl, by kernel_rfl, hF⟩
      · have hF := cond_f hF hb103
        refine WA.skip ?_
        exact ⟨y102.2, y101.1, by kernel_rfl, by kernel_rfl, hF⟩
/-!   entrepot rex.reader .escaped -/
def F139_j1 (y101 : Int × rex_reader) (v109 : Int) : Option (Option ((List api_Range) × rex_reader)) :=
  (some (some (([(⟨v109, v109⟩ : api_Range)] : List api_Range), y101.2)))
def F139_j0 (y101 : Int × rex_reader) (v107 : Bool) : Option (Option ((List api_Range) × rex_reader)) :=
  cond v107 (some none) ((F139_j1 y101 y101.1))
def F139 (k : Nat) (v0 : rex_reader) (v1 : List UInt8) : Option (Option ((List api_Range) × rex_reader)) :=
  (orP (F140 k v0) fun y101 => ((cond (y101.1 == 100) ((some (some (([(⟨48, 57⟩ : api_Range)] : List api_Range), y101.2)))) ((cond (y101.1 == 110) ((F139_j1 y101 10)) ((cond (y101.1 == 116) ((F139_j1 y101 9)) (cond (decide (y101.1 > 126)) ((F139_j0 y101 true)) ((F170 k v1 (IntKind.wrap .u8 y101.1)).bind fun y106 => (F139_j0 y101 (decide (y106 < 0))))))))))))
theorem F139_ok (k : Nat) (v0 : rex_reader) (v1 : List UInt8) (r : Option ((List api_Range) × rex_reader)) (hF : F139 k v0 v1 = some r) : SimP Tryz.prog GL0 badV 139 [.val false [.ptr 0 1 0 0], one (.str v1)] [.box (pvL (e_rex_reader v0))] (r.map fun r => (.val false [.arr 1 r.1.length], [.box (pvL (e_rex_reader r.2)), .arr 2 (r.1.map e_api_Range)])) := by
  refine simP_of [0, 900] Tryz.func139 rfl (by kernel_rfl) (by kernel_rfl) ?_
  show WA _ _ 35 _ _ _
  refine WA.seq ?_
  refine WA.reg [0, 1] [0] [(0, .obj 900)] (env' := [(0, .val false [.ptr 0 1 0 0]), (1, one (.str v1))]) (os' := [(0, .box (pvL (e_rex_reader v0)))]) (O := []) (by kernel_rfl) (sound _ _) trivial ?_
  refine WA.seq ?_
  rcases orP_some hF with ⟨hz, hr⟩ | ⟨y101, hy101, hF⟩
  · subst hr
    refine WA.regP 1 [0] [] [] badV (f := 140) (args := [.val false [.ptr 0 1 0 0]]) (os := [.box (pvL (e_rex_reader v0))]) (env1 := []) (os1 := [(0, .box (pvL (e_rex_reader v0)))]) (O := []) (by kernel_rfl) (sound _ _) trivial (by decide) (F140_ok k _ _ hz) (fun psl hpsl => ?_)
    obtain ⟨ps, rfl⟩ := one_of_len hpsl
    exact ⟨rfl, [ps], by kernel_rfl, rfl⟩
  · refine WA.reg [1, 5] [0] [(1, .call [0] (one (.int .i64 y101.1)) [.box (pvL (e_rex_reader y101.2))] [])] (env' := [(1, one (.str v1)), (5, one (.int .i64 y101.1))]) (os' := [(0, .box (pvL (e_rex_reader y101.2)))]) (O := [Sim Tryz.prog GL0 140 [.val false [.ptr 0 1 0 0]] [.box (pvL (e_rex_reader v0))] (one (.int .i64 y101.1)) [.box (pvL (e_rex_reader y101.2))], ([0] : List Nat).Nodup]) (by kernel_rfl) (sound _ _) ⟨(F140_ok k _ _ hy101), (by decide), trivial⟩ ?_
    refine WA.join (fun s_ => ∃ (v109 : Int), pickE s_.env [5] = [(5, one (.int .i64 v109))] ∧ pickE s_.os [0] = [(0, .box (pvL (e_rex_reader y101.2)))] ∧ F139_j1 y101 v109 = some r) ?_ ?_
    · rintro s_ ⟨v109, he, ho, hF⟩
      refine WA.keep _ _ he ho ?_
      clear he ho
      refine WA.seq ?_
      refine WA.reg [4] [0, 900] [(3, .obj 900)] (env' := [(4, .val false [.arr 900 1])]) (os' := [(0, .box (pvL (e_rex_reader y101.2))), (900, .arr 2 (([(⟨v109, v109⟩ : api_Range)] : List api_Range).map e_api_Range))]) (O := []) (by kernel_rfl) (sound _ _) trivial ?_
      refine WA.ret ?_
      obtain rfl := Option.some.inj hF
      exact out_ret (.val false [.arr 900 1]) [.box (pvL (e_rex_reader y101.2)), .arr 2 (([(⟨v109, v109⟩ : api_Range)] : List api_Range).map e_api_Range)] (by kernel_rfl) (by kernel_rfl) (by kernel_rfl) (by kernel_rfl) (by decide) rfl rfl
    · refine WA.block ?_
      refine WA.seq ?_
      refine WA.reg [1, 5, 8] [0] [] (env' := [(1, one (.str v1)), (5, one (.int .i64 y101.1)), (8, one (.bool (y101.1 == 100)))]) (os' := [(0, .box (pvL (e_rex_reader y101.2)))]) (O := []) (by kernel_rfl) (sound _ _) trivial ?_
      refine WA.cond (b := (y101.1 == 100)) rfl (fun hb102 => ?_) (fun hb102 => ?_)
      · have hF := cond_t hF hb102
        refine WA.seq ?_
        refine WA.reg [4] [0, 900] [(1, .obj 900)] (env' := [(4, .val false [.arr 900 1])]) (os' := [(0, .box (pvL (e_rex_reader y101.2))), (900, .arr 2 (([(⟨48, 57⟩ : api_Range)] : List api_Range).map e_api_Range))]) (O := []) (by kernel_rfl) (sound _ _) trivial ?_
        refine WA.ret ?_
        obtain rfl := Option.some.inj hF
        exact out_ret (.val false [.arr 900 1]) [.box (pvL (e_rex_reader y101.2)), .arr 2 (([(⟨48, 57⟩ : api_Range)] : List api_Range).map e_api_Range)] (by kernel_rfl) (by kernel_rfl) (by kernel_rfl) (by kernel_rfl) (by decide) rfl rfl
      · have hF := cond_f hF hb102
        refine WA.seq ?_
        refine WA.reg [1, 5, 13] [0] [] (env' := [(1, one (.str v1)), (5, one (.int .i64 y101.1)), (13, one (.bool (y101.1 == 110)))]) (os' := [(0, .box (pvL (e_rex_reader y101.2)))]) (O := []) (by kernel_rfl) (sound _ _) trivial ?_
        refine WA.cond (b := (y101.1 == 110)) rfl (fun hb103 => ?_) (fun hb103 => ?_)
        · have hF := cond_t hF hb103
          refine WA.reg [5] [0] [] (env' := [(5, one (.int .i64 10))]) (os' := [(0, .box (pvL (e_rex_reader y101.2)))]) (O := []) (by kernel_rfl) (sound _ _) trivial ?_
          exact ⟨10, by kernel_rfl, by kernel_rfl, hF⟩
        · have hF := cond_f hF hb103
          refine WA.seq ?_
          refine WA.reg [1, 5, 16] [0] [] (env' := [(1, one (.str v1)), (5, one (.int .i64 y101.1)), (16, one (.bool (y101.1 == 116)))]) (os' := [(0, .box (pvL (e_rex_reader y101.2)))]) (O := []) (by kernel_rfl) (sound _ _) trivial ?_
          refine WA.cond (b := (y101.1 == 116)) rfl (fun hb104 => ?_) (fun hb104 => ?_)
          · have hF := cond_t hF hb104
            refine WA.reg [5] [0] [] (env' := [(5, one (.int .i64 9))]) (os' := [(0, .box (pvL (e_rex_reader y101.2)))]) (O := []) (by kernel_rfl) (sound _ _) trivial ?_
            exact ⟨9, by kernel_rfl, by kernel_rfl, hF⟩
          · have hF := cond_f hF hb104
            refine WA.join (fun s_ => ∃ (v107 : Bool), pickE s_.env [5, 19] = [(5, one (.int .i64 y101.1)), (19, one (.bool v107))] ∧ pickE s_.os [0] = [(0, .box (pvL (e_rex_reader y101.2)))] ∧ F139_j0 y101 v107 = some r) ?_ ?_
            · rintro s_ ⟨v107, he, ho, hF⟩
              refine WA.keep _ _ he ho ?_
              clear he ho
              refine WA.cond (b := v107) rfl (fun hb108 => ?_) (fun hb108 => ?_)
              · have hF := cond_t hF hb108
                refine WA.bad [] (t := 70) (env1 := []) (os1 := [(0, .box (pvL (e_rex_reader y101.2)))]) (O := []) (by kernel_rfl) (sound _ _) trivial ?_
                obtain rfl := Option.some.inj hF
                exact ⟨rfl, [(e_rex_reader y101.2)], by kernel_rfl, rfl⟩
              · have hF := cond_f hF hb108
                refine WA.skip ?_
                exact ⟨y101.1, by kernel_rfl, by kernel_rfl, hF⟩
            · rcases Bool.eq_false_or_eq_true (decide (y101.1 > 126)) with hb105 | hb105
              · have hF := cond_t hF hb105
                refine WA.reg [5, 19] [0] [(2, .bool true)] (env' := [(5, one (.int .i64 y101.1)), (19, one (.bool true))]) (os' := [(0, .box (pvL (e_rex_reader y101.2)))]) (O := [(decide (y101.1 > 126)) = true]) (by kernel_rfl) (sound _ _) ⟨hb105, trivial⟩ ?_
                exact ⟨true, by kernel_rfl, by kernel_rfl, hF⟩
              · have hF := cond_f hF hb105
                obtain ⟨y106, hy106, hF⟩ := bind_some hF
                refine WA.reg [5, 19] [0] [(2, .bool false), (6, .callR [] (one (.int .i64 y106)))] (env' := [(5, one (.int .i64 y101.1)), (19, one (.bool (decide (y106 < 0))))]) (os' := [(0, .box (pvL (e_rex_reader y101.2)))]) (O := [(decide (y101.1 > 126)) = false, Sim Tryz.prog GL0 170 [one (.str v1), one (.int .u8 (IntKind.wrap .u8 y101.1))] [] (one (.int .i64 y106)) [], ([] : List Nat).Nodup]) (by kernel_rfl) (sound _ _) ⟨hb105, (F170_ok k _ _ _ hy106), (by decide), trivial⟩ ?_
                exact ⟨(decide (y106 < 0)), by kernel_rfl, by kernel_rfl, hF⟩
/-!   entrepot rex.reader .one -/
def F169 (k : Nat) (v0 : rex_reader) : Option (Option ((List api_Range) × rex_reader)) :=
  (F71 k v0 ([92] : List UInt8)).bind fun y101 => (cond y101.1 (orP (F139 k y101.2 ([92, 46, 91, 93, 40, 41, 123, 125, 42, 43, 63, 124, 94, 36, 45, 47] : List UInt8)) fun y103 => (some (some (y103.1, y103.2)))) ((orP (F140 k y101.2) fun y104 => (F141 k ([92, 91, 93, 94, 45] : List UInt8) (IntKind.wrap .i32 y104.1)).bind fun y105 => (cond y105 (some none) (((some (some (([(⟨y104.1, y104.1⟩ : api_Range)] : List api_Range), y104.2)))))))))
theorem F169_ok (k : Nat) (v0 : rex_reader) (r : Option ((List api_Range) × rex_reader)) (hF : F169 k v0 = some r) : SimP Tryz.prog GL0 badV 169 [.val false [.ptr 0 1 0 0]] [.box (pvL (e_rex_reader v0))] (r.map fun r => (.val false [.arr 1 r.1.length], [.box (pvL (e_rex_reader r.2)), .arr 2 (r.1.map e_api_Range)])) := by
  refine simP_of [0, 900] Tryz.func169 rfl (by kernel_rfl) (by kernel_rfl) ?_
  show WA _ _ 19 _ _ _
  refine WA.seq ?_
  refine WA.reg [0] [0] [(0, .obj 900)] (env' := [(0, .val false [.ptr 0 1 0 0])]) (os' := [(0, .box (pvL (e_rex_reader v0)))]) (O := []) (by kernel_rfl) (sound _ _) trivial ?_
  refine WA.seq ?_
  refine WA.seq ?_
  obtain ⟨y101, hy101, hF⟩ := bind_some hF
  refine WA.reg [0, 5] [0] [(1, .call [0] (one (.bool y101.1)) [.box (pvL (e_rex_reader y101.2))] [])] (env' := [(0, .val false [.ptr 0 1 0 0]), (5, one (.bool y101.1))]) (os' := [(0, .box (pvL (e_rex_reader y101.2)))]) (O := [Sim Tryz.prog GL0 71 [.val false [.ptr 0 1 0 0], one (.str ([92] : List UInt8))] [.box (pvL (e_rex_reader v0))] (one (.bool y101.1)) [.box (pvL (e_rex_reader y101.2))], ([0] : List Nat).Nodup]) (by kernel_rfl) (sound _ _) ⟨(F71_ok k _ _ _ hy101), (by decide), trivial⟩ ?_
  refine WA.cond (b := y101.1) rfl (fun hb102 => ?_) (fun hb102 => ?_)
  · have hF := cond_t hF hb102
    refine WA.seq ?_
    rcases orP_some hF with ⟨hz, hr⟩ | ⟨y103, hy103, hF⟩
    · subst hr
      refine WA.regP 1 [0] [] [] badV (f := 139) (args := [.val false [.ptr 0 1 0 0], one (.str ([92, 46, 91, 93, 40, 41, 123, 125, 42, 43, 63, 124, 94, 36, 45, 47] : List UInt8))]) (os := [.box (pvL (e_rex_reader y101.2))]) (env1 := []) (os1 := [(0, .box (pvL (e_rex_reader y101.2)))]) (O := []) (by kernel_rfl) (sound _ _) trivial (by decide) (F139_ok k _ _ _ hz) (fun psl hpsl => ?_)
      obtain ⟨ps, rfl⟩ := one_of_len hpsl
      exact ⟨rfl, [ps], by kernel_rfl, rfl⟩
    · refine WA.reg [2] [0, 900] [(1, .call [0] (.val false [.arr 1 y103.1.length]) [.box (pvL (e_rex_reader y103.2)), .arr 2 (y103.1.map e_api_Range)] [900])] (env' := [(2, .val false [.arr 900 y103.1.length])]) (os' := [(0, .box (pvL (e_rex_reader y103.2))), (900, .arr 2 (y103.1.map e_api_Range))]) (O := [Sim Tryz.prog GL0 139 [.val false [.ptr 0 1 0 0], one (.str ([92, 46, 91, 93, 40, 41, 123, 125, 42, 43, 63, 124, 94, 36, 45, 47] : List UInt8))] [.box (pvL (e_rex_reader y101.2))] (.val false [.arr 1 y103.1.length]) [.box (pvL (e_rex_reader y103.2)), .arr 2 (y103.1.map e_api_Range)], ([0] : List Nat).Nodup]) (by kernel_rfl) (sound _ _) ⟨(F139_ok k _ _ _ hy103), (by decide), trivial⟩ ?_
      refine WA.ret ?_
      obtain rfl := Option.some.inj hF
      exact out_ret (.val false [.arr 900 y103.1.length]) [.box (pvL (e_rex_reader y103.2)), .arr 2 (y103.1.map e_api_Range)] (by kernel_rfl) (by kernel_rfl) (by kernel_rfl) (by kernel_rfl) (by decide) rfl rfl
  · have hF := cond_f hF hb102
    refine WA.skip ?_
    refine WA.seq ?_
    rcases orP_some hF with ⟨hz, hr⟩ | ⟨y104, hy104, hF⟩
    · subst hr
      refine WA.regP 1 [0] [] [] badV (f := 140) (args := [.val false [.ptr 0 1 0 0]]) (os := [.box (pvL (e_rex_reader y101.2))]) (env1 := []) (os1 := [(0, .box (pvL (e_rex_reader y101.2)))]) (O := []) (by kernel_rfl) (sound _ _) trivial (by decide) (F140_ok k _ _ hz) (fun psl hpsl => ?_)
      obtain ⟨ps, rfl⟩ := one_of_len hpsl
      exact ⟨rfl, [ps], by kernel_rfl, rfl⟩
    · refine WA.reg [3] [0] [(1, .call [0] (one (.int .i64 y104.1)) [.box (pvL (e_rex_reader y104.2))] [])] (env' := [(3, one (.int .i64 y104.1))]) (os' := [(0, .box (pvL (e_rex_reader y104.2)))]) (O := [Sim Tryz.prog GL0 140 [.val false [.ptr 0 1 0 0]] [.box (pvL (e_rex_reader y101.2))] (one (.int .i64 y104.1)) [.box (pvL (e_rex_reader y104.2))], ([0] : List Nat).Nodup]) (by kernel_rfl) (sound _ _) ⟨(F140_ok k _ _ hy104), (by decide), trivial⟩ ?_
      refine WA.seq ?_
      refine WA.seq ?_
      obtain ⟨y105, hy105, hF⟩ := bind_some hF
      refine WA.reg [3, 12] [0] [(2, .callR [] (one (.bool y105)))] (env' := [(3, one (.int .i64 y104.1)), (12, one (.bool y105))]) (os' := [(0, .box (pvL (e_rex_reader y104.2)))]) (O := [Sim Tryz.prog GL0 141 [one (.str ([92, 91, 93, 94, 45] : List UInt8)), one (.int .i32 (IntKind.wrap .i32 y104.1))] [] (one (.bool y105)) [], ([] : List Nat).Nodup]) (by kernel_rfl) (sound _ _) ⟨(F141_ok k _ _ _ hy105), (by decide), trivial⟩ ?_
      refine WA.cond (b := y105) rfl (fun hb106 => ?_) (fun hb106 => ?_)
      · have hF := cond_t hF hb106
        refine WA.bad [] (t := 70) (env1 := []) (os1 := [(0, .box (pvL (e_rex_reader y104.2)))]) (O := []) (by kernel_rfl) (sound _ _) trivial ?_
        obtain rfl := Option.some.inj hF
        exact ⟨rfl, [(e_rex_reader y104.2)], by kernel_rfl, rfl⟩
      · have hF := cond_f hF hb106
        refine WA.skip ?_
        refine WA.seq ?_
        refine WA.reg [2] [0, 900] [(3, .obj 900)] (env' := [(2, .val false [.arr 900 1])]) (os' := [(0, .box (pvL (e_rex_reader y104.2))), (900, .arr 2 (([(⟨y104.1, y104.1⟩ : api_Range)] : List api_Range).map e_api_Range))]) (O := []) (by kernel_rfl) (sound _ _) trivial ?_
        refine WA.ret ?_
        obtain rfl := Option.some.inj hF
        exact out_ret (.val false [.arr 900 1]) [.box (pvL (e_rex_reader y104.2)), .arr 2 (([(⟨y104.1, y104.1⟩ : api_Range)] : List api_Range).map e_api_Range)] (by kernel_rfl) (by kernel_rfl) (by kernel_rfl) (by kernel_rfl) (by decide) rfl rfl
end Go.Proofs.YthilboheomikjaaGreatDoor
