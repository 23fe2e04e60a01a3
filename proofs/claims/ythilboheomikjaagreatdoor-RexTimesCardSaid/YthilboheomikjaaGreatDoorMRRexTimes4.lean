/- Q5, Q6, G12, Q7, Q3, Q8, P2, G7, G9, P5, P6, P7 -/
import Derived.Test.YthilboheomikjaaGreatDoorMRRexTimes3
import Derived.Shelf.Strings.Runes
import Derived.WalkKit
import Derived.Defers
import Derived.Recover
section
namespace Go.Proofs.YthilboheomikjaaGreatDoor
open Go.AL Go.Lib
set_option linter.unusedVariables false
set_option linter.unusedSimpArgs false
set_option maxRecDepth 100000

def AddOK (R : rex_Machine → api_Re → Int → Option (Int × rex_Machine)) (x : api_Re) : Prop :=
  ∀ (N : List rex_node) (fst : Int) (z : Nat), z < N.length → 1 ≤ N.length → N.length + cnt x ≤ 1073741824 → ∃ N' f, R ⟨N, fst⟩ x (z : Int) = some (((f : Nat) : Int), ⟨N', fst⟩) ∧ Added N N' f z (Lang x) (cnt x)

theorem cntL_append (a b : List api_Re) : cntL (a ++ b) = cntL a + cntL b := by
  induction a with
  | nil => simp [cntL]
  | cons x a ih => simp only [List.cons_append, cntL, ih]; omega
theorem cntL_snoc {l : List api_Re} {j : Nat} (h : j < l.length) : cntL (l.take (j + 1)) = cntL (l.take j) + cnt l[j] := by
  rw [List.take_succ_eq_append_getElem h, cntL_append]; simp [cntL]
theorem LSeq_cons {l : List api_Re} {j : Nat} (h : j < l.length) (w : List Int) : Cat (Lang l[j]) (LSeq (l.drop (j + 1))) w ↔ LSeq (l.drop j) w := by
  rw [List.drop_eq_getElem_cons h]; exact Iff.rfl
theorem LAlt_append : ∀ (a b : List api_Re) (w : List Int), LAlt (a ++ b) w ↔ LAlt a w ∨ LAlt b w
  | [], b, w => by simp [LAlt]
  | x :: a, b, w => by
    have := LAlt_append a b w
    simp only [List.cons_append, LAlt, this, or_assoc]
theorem LAlt_snoc {l : List api_Re} {j : Nat} (h : j < l.length) (w : List Int) : (LAlt (l.take j) w ∨ Lang l[j] w) ↔ LAlt (l.take (j + 1)) w := by
  rw [List.take_succ_eq_append_getElem h, LAlt_append]; simp [LAlt]

theorem seq_loop {R : rex_Machine → api_Re → Int → Option (Int × rex_Machine)} {v1 : api_Re} {fst : Int} {z : Nat} {N : List rex_node} (hR : ∀ x ∈ v1.f_L, AddOK R x) (h0 : 1 ≤ N.length) (hlen : v1.f_L.length ≤ 1000) :
    ∀ (j m : Nat) (Nj : List rex_node) (t c : Nat), j ≤ v1.f_L.length → j < m → Added N Nj t z (LSeq (v1.f_L.drop j)) c → Nj.length + cntL (v1.f_L.take j) ≤ 1073741824 →
      ∃ N' f, F78_l0 R v1 m ⟨Nj, fst⟩ (t : Int) ((j : Int) - 1) = some (((f : Nat) : Int), ⟨N', fst⟩) ∧ Added N N' f z (LSeq v1.f_L) (c + cntL (v1.f_L.take j))
  | 0, m + 1, Nj, t, c, hj, hm, hA, hb => by
    refine ⟨Nj, t, ?_, by simpa [cntL] using hA⟩
    show F78_b0 _ _ _ _ _ _ = _
    unfold F78_b0
    rw [df (by omega)]; rfl
  | j + 1, m + 1, Nj, t, c, hj, hm, hA, hb => by
    have hjl : j < v1.f_L.length := by omega
    rw [cntL_snoc hjl] at hb
    have hle := hA.le
    obtain ⟨N1, f1, e1, A1⟩ := hR _ (List.getElem_mem hjl) Nj fst t hA.lt (by omega) (by omega)
    obtain ⟨N', f, e2, A2⟩ := seq_loop hR h0 hlen j m N1 f1 (c + cnt v1.f_L[j]) (by omega) (by omega) ((hA.comp A1).congr (fun w => LSeq_cons hjl w) (Nat.le_refl _)) (by have := A1.cnt; omega)
    refine ⟨N', f, ?_, A2.congr (fun _ => Iff.rfl) (by rw [cntL_snoc hjl]; omega)⟩
    show F78_b0 _ _ _ _ _ _ = _
    unfold F78_b0
    rw [show ((j + 1 : Nat) : Int) - 1 = (j : Int) by omega, dt (by omega), idx_lt hjl]
    simp only [cond, Option.bind_some, e1]
    rw [w64_id (by omega) (by omega)]; exact e2

theorem alt_loop {R : rex_Machine → api_Re → Int → Option (Int × rex_Machine)} {v1 : api_Re} {fst : Int} {z k : Nat} {N : List rex_node} (hR : ∀ x ∈ v1.f_L, AddOK R x) (h0 : 1 ≤ N.length) (hz : z < N.length) (hlen : v1.f_L.length ≤ 1000) :
    ∀ (d j m : Nat) (Nj : List rex_node) (fs : List Int) (c : Nat), j + d = v1.f_L.length → d < m → fs.length = j → Side N Nj fs z (LAlt (v1.f_L.take j)) c → c + cntL (v1.f_L.drop j) + 1 + N.length ≤ 1073741824 →
      ∃ N' f, F78_l1 R k v1 (z : Int) m ⟨Nj, fst⟩ fs (j : Int) = some (((f : Nat) : Int), ⟨N', fst⟩) ∧ Added N N' f z (LAlt v1.f_L) (c + cntL (v1.f_L.drop j) + 1)
  | 0, j, m + 1, Nj, fs, c, hj, hm, hf, hA, hb => by
    have hj' : j = v1.f_L.length := by omega
    subst hj'
    have hc := hA.cnt
    refine ⟨_, Nj.length, ?_, ((hA.close h0 (by omega))).congr (fun w => by rw [List.take_length]) (by omega)⟩
    show F78_b1 _ _ _ _ _ _ _ _ = _
    unfold F78_b1
    rw [df (by omega)]
    simp only [cond]
    rw [F105_eq (by omega)]; rfl
  | d + 1, j, m + 1, Nj, fs, c, hj, hm, hf, hA, hb => by
    have hjl : j < v1.f_L.length := by omega
    have hd : cntL (v1.f_L.drop j) = cnt v1.f_L[j] + cntL (v1.f_L.drop (j + 1)) := by rw [List.drop_eq_getElem_cons hjl]; rfl
    rw [hd] at hb
    have hc := hA.cnt; have hle := hA.le
    obtain ⟨N1, f1, e1, A1⟩ := hR _ (List.getElem_mem hjl) Nj fst z (by omega) (by omega) (by omega)
    obtain ⟨N', f, e2, A2⟩ := alt_loop (fst := fst) (k := k) hR h0 hz hlen d (j + 1) m N1 (fs ++ [(f1 : Int)]) (c + cnt v1.f_L[j]) (by omega) (by omega) (by simp [hf]) (by
      have := hA.snoc A1
      exact ⟨this.le, this.cnt, this.old, this.good, this.lt, fun M hM n w q hq ha => by obtain ⟨u, v, mm, e, hu, r⟩ := this.sound M hM n w q hq ha; exact ⟨u, v, mm, e, (LAlt_snoc hjl u).1 hu, r⟩,
        fun M hM u v mm hu ha => this.full M hM u v mm ((LAlt_snoc hjl u).2 hu) ha⟩) (by omega)
    refine ⟨N', f, ?_, A2.congr (fun _ => Iff.rfl) (by omega)⟩
    show F78_b1 _ _ _ _ _ _ _ _ = _
    unfold F78_b1
    rw [dt (by omega), idx_lt hjl]
    simp only [cond, Option.bind_some, e1]
    rw [if_pos (by simp; omega), w64_id (by omega) (by omega)]; exact e2

theorem Pow_add {P : List Int → Prop} (a b : Nat) (w : List Int) : Cat (Pow P a) (Pow P b) w ↔ Pow P (a + b) w := by
  induction a generalizing w with
  | zero =>
    rw [Nat.zero_add]
    exact ⟨fun ⟨u, v, e, hu, hv⟩ => by cases hu; subst e; exact hv, fun h => ⟨[], w, rfl, rfl, h⟩⟩
  | succ a ih =>
    rw [show a + 1 + b = (a + b) + 1 by omega]
    constructor
    · rintro ⟨u, v, rfl, ⟨u1, u2, rfl, h1, h2⟩, hv⟩
      exact ⟨u1, u2 ++ v, List.append_assoc .., h1, (ih _).1 ⟨u2, v, rfl, h2, hv⟩⟩
    · rintro ⟨u, v, rfl, h1, h2⟩
      obtain ⟨v1, v2, rfl, h3, h4⟩ := (ih _).2 h2
      exact ⟨u ++ v1, v2, (List.append_assoc ..).symm, ⟨u, v1, rfl, h1, h3⟩, h4⟩
theorem Pow_succ {P Q : List Int → Prop} (a : Nat) (w : List Int) : Cat P (Cat (Pow P a) Q) w ↔ Cat (Pow P (a + 1)) Q w := by
  constructor
  · rintro ⟨u, v, rfl, h1, v1, v2, rfl, h2, h3⟩
    exact ⟨u ++ v1, v2, (List.append_assoc ..).symm, ⟨u, v1, rfl, h1, h2⟩, h3⟩
  · rintro ⟨u, v, rfl, ⟨u1, u2, rfl, h1, h2⟩, h3⟩
    exact ⟨u1, u2 ++ v, List.append_assoc .., h1, u2, v, rfl, h2, h3⟩

/-- so many times at the least -/
theorem min_loop {R : rex_Machine → api_Re → Int → Option (Int × rex_Machine)} {v1 x : api_Re} {fst : Int} {z : Nat} {N : List rex_node} {Q : List Int → Prop} (hx : idxL v1.f_L 0 = some x) (hR : AddOK R x) (h0 : 1 ≤ N.length) (hm0 : 0 ≤ v1.f_Min) (hm1 : v1.f_Min ≤ 20) :
    ∀ (d i m : Nat) (Ni : List rex_node) (t c : Nat), (i : Int) + d = v1.f_Min → d < m → Added N Ni t z (Cat (Pow (Lang x) i) Q) c → Ni.length + d * cnt x ≤ 1073741824 →
      ∃ N' f, F78_l4 R v1 m ⟨Ni, fst⟩ (t : Int) (i : Int) = some (((f : Nat) : Int), ⟨N', fst⟩) ∧ Added N N' f z (Cat (Pow (Lang x) v1.f_Min.toNat) Q) (c + d * cnt x)
  | 0, i, m + 1, Ni, t, c, hi, hm, hA, hb => by
    have e : v1.f_Min.toNat = i := by omega
    rw [e]
    refine ⟨Ni, t, ?_, by simpa using hA⟩
    show F78_b4 _ _ _ _ _ _ = _
    unfold F78_b4
    rw [df (by omega)]; rfl
  | d + 1, i, m + 1, Ni, t, c, hi, hm, hA, hb => by
    have hle := hA.le
    rw [Nat.add_mul, Nat.one_mul] at hb
    obtain ⟨N1, f1, e1, A1⟩ := hR Ni fst t hA.lt (by omega) (by omega)
    obtain ⟨N', f, e2, A2⟩ := min_loop hx hR h0 hm0 hm1 d (i + 1) m N1 f1 (c + cnt x) (by omega) (by omega) ((hA.comp A1).congr (fun w => Pow_succ i w) (Nat.le_refl _)) (by have := A1.cnt; omega)
    refine ⟨N', f, ?_, A2.congr (fun _ => Iff.rfl) (by rw [Nat.add_mul, Nat.one_mul]; omega)⟩
    show F78_b4 _ _ _ _ _ _ = _
    unfold F78_b4
    rw [dt (by omega), hx]
    simp only [cond, Option.bind_some, e1]
    rw [w64_id (by omega) (by omega)]; exact e2

def PowLe (P : List Int → Prop) (j : Nat) (w : List Int) : Prop := ∃ n, n ≤ j ∧ Pow P n w
theorem PowLe_succ {P : List Int → Prop} (j : Nat) (w : List Int) : (w = [] ∨ Cat P (PowLe P j) w) ↔ PowLe P (j + 1) w := by
  constructor
  · rintro (rfl | ⟨u, v, rfl, h1, n, hn, h2⟩)
    · exact ⟨0, by omega, rfl⟩
    · exact ⟨n + 1, by omega, u, v, rfl, h1, h2⟩
  · rintro ⟨n, hn, h⟩
    cases n with
    | zero => exact .inl h
    | succ n => obtain ⟨u, v, rfl, h1, h2⟩ := h; exact .inr ⟨u, v, rfl, h1, n, by omega, h2⟩

/-- so many times more -/
theorem max_loop {R : rex_Machine → api_Re → Int → Option (Int × rex_Machine)} {v1 x : api_Re} {fst : Int} {z k : Nat} {N : List rex_node} (hx : idxL v1.f_L 0 = some x) (hR : AddOK R x) (h0 : 1 ≤ N.length) (hz : z < N.length) (hm0 : 0 ≤ v1.f_Min) (hm1 : v1.f_Min ≤ 20) (hm2 : v1.f_Max ≤ 20) (hm3 : v1.f_Min ≤ v1.f_Max) (hk : 21 ≤ k) :
    ∀ (d j m : Nat) (Nj : List rex_node) (t c : Nat), (j : Int) + d = v1.f_Max - v1.f_Min → d < m → Added N Nj t z (PowLe (Lang x) j) c → Nj.length + d * (cnt x + 1) + v1.f_Min.toNat * cnt x ≤ 1073741824 →
      ∃ N' f, F78_l2 R k v1 (z : Int) m ⟨Nj, fst⟩ (t : Int) (j : Int) = some (((f : Nat) : Int), ⟨N', fst⟩) ∧ Added N N' f z (Cat (Pow (Lang x) v1.f_Min.toNat) (PowLe (Lang x) (v1.f_Max - v1.f_Min).toNat)) (c + d * (cnt x + 1) + v1.f_Min.toNat * cnt x)
  | 0, j, m + 1, Nj, t, c, hj, hm, hA, hb => by
    have e : (v1.f_Max - v1.f_Min).toNat = j := by omega
    rw [e]
    have A0 : Added N Nj t z (Cat (Pow (Lang x) 0) (PowLe (Lang x) j)) c := hA.congr (fun w => ⟨fun h => ⟨[], w, rfl, rfl, h⟩, fun ⟨u, v, e, hu, hv⟩ => by cases hu; subst e; exact hv⟩) (Nat.le_refl _)
    obtain ⟨N', f, e2, A2⟩ := min_loop (fst := fst) hx hR h0 hm0 hm1 v1.f_Min.toNat 0 k Nj t c (by omega) (by omega) A0 (by omega)
    refine ⟨N', f, ?_, A2.congr (fun _ => Iff.rfl) (by omega)⟩
    show F78_b2 _ _ _ _ _ _ _ _ = _
    unfold F78_b2 F78_j3
    rw [w64_id (by omega) (by omega), df (by omega)]; exact e2
  | d + 1, j, m + 1, Nj, t, c, hj, hm, hA, hb => by
    have hle := hA.le
    rw [Nat.add_mul, Nat.one_mul] at hb
    obtain ⟨N1, f1, e1, A1⟩ := hR Nj fst t hA.lt (by omega) (by omega)
    have hc1 := A1.cnt
    have A3 := added_opt h0 hz (hA.comp A1)
    obtain ⟨N', f, e2, A2⟩ := max_loop hx hR h0 hz hm0 hm1 hm2 hm3 hk d (j + 1) m _ _ (c + cnt x + 1) (by omega) (by omega) (A3.congr (fun w => PowLe_succ j w) (Nat.le_refl _)) (by simp; omega)
    refine ⟨N', f, ?_, A2.congr (fun _ => Iff.rfl) (by rw [Nat.add_mul, Nat.one_mul]; omega)⟩
    show F78_b2 _ _ _ _ _ _ _ _ = _
    unfold F78_b2
    rw [w64_id (x := v1.f_Max - v1.f_Min) (by omega) (by omega), dt (by omega), hx]
    simp only [cond, Option.bind_some, e1]
    rw [F105_eq (by omega)]
    simp only [Option.bind_some]
    rw [w64_id (by omega) (by omega)]; exact e2

theorem fuL_mem {l : List api_Re} {x : api_Re} (h : x ∈ l) : fu x ≤ fuL l := by
  induction l with
  | nil => cases h
  | cons y l ih =>
    simp only [fuL]
    rcases List.mem_cons.1 h with rfl | h
    · omega
    · have := ih h; omega
theorem WFL_mem {l : List api_Re} {x : api_Re} (hw : WFL l) (h : x ∈ l) : WF x := by
  induction l with
  | nil => cases h
  | cons y l ih =>
    rcases List.mem_cons.1 h with rfl | h
    · exact hw.1
    · exact ih hw.2 h

theorem beq_t {a b : Int} (h : a = b) : (a == b) = true := by simpa using h
theorem beq_f {a b : Int} (h : a ≠ b) : (a == b) = false := by simpa using h

theorem Lang_mk (k : Int) (st : List api_Range) (l : List api_Re) (mn mx : Int) (w : List Int) : Lang ⟨k, st, l, mn, mx⟩ w ↔ (k = 1 ∧ ∃ c, w = [c] ∧ inR st c) ∨ (k = 2 ∧ LSeq l w) ∨ (k = 3 ∧ LAlt l w) ∨ (k = 4 ∧ ∃ n : Nat, mn ≤ n ∧ (mx < 0 ∨ (n : Int) ≤ mx) ∧ Pow (LHd l) n w) := by rw [Lang]
theorem PowLe_zero {P : List Int → Prop} (w : List Int) : w = [] ↔ PowLe P 0 w := by
  constructor
  · intro h; exact ⟨0, Nat.le_refl _, h⟩
  · rintro ⟨n, hn, h⟩
    have : n = 0 := by omega
    rw [this] at h; exact h

theorem rep_lang {x : api_Re} {st : List api_Range} {mn mx : Int} (w : List Int) : Lang ⟨4, st, [x], mn, mx⟩ w ↔ ∃ n : Nat, mn ≤ n ∧ (mx < 0 ∨ (n : Int) ≤ mx) ∧ Pow (Lang x) n w := by
  rw [Lang_mk]
  constructor
  · rintro (⟨h, _⟩ | ⟨h, _⟩ | ⟨h, _⟩ | ⟨_, h⟩)
    · cases h
    · cases h
    · cases h
    · exact h
  · exact fun h => .inr (.inr (.inr ⟨rfl, h⟩))

theorem add_ok : ∀ (k : Nat) (r : api_Re), k ≤ 1048576 → WF r → fu r ≤ k → AddOK (F78 k) r
  | 0, ⟨kd, st, l, mn, mx⟩, _, _, hf => by simp only [fu] at hf; omega
  | k + 1, ⟨kd, st, l, mn, mx⟩, hk, hw, hf => by
    intro N fst z hz h0 hb
    simp only [fu] at hf
    obtain ⟨⟨hkd, h4, hst, hll⟩, hwl⟩ := hw
    simp only [] at hkd h4 hst hll
    have hsub : ∀ x ∈ l, AddOK (F78 k) x := fun x hx => add_ok k x (by omega) (WFL_mem hwl hx) (by have := fuL_mem hx; omega)
    show ∃ N' f, F78_b (F78 k) k ⟨N, fst⟩ ⟨kd, st, l, mn, mx⟩ (z : Int) = _ ∧ _
    unfold F78_b
    simp only [cnt] at hb ⊢
    by_cases k1 : kd = 1
    · subst k1
      simp only [if_true] at hb ⊢
      refine ⟨_, N.length, ?_, (added_set (s := st) hst hz h0).congr (fun w => ?_) (Nat.le_refl _)⟩
      · rw [beq_t rfl]
        simp only [cond]
        rw [F105_eq (by omega)]; rfl
      · rw [Lang_mk]
        exact ⟨fun h => .inl ⟨rfl, h⟩, fun h => by
          rcases h with ⟨_, h⟩ | ⟨h, _⟩ | ⟨h, _⟩ | ⟨h, _⟩
          · exact h
          all_goals cases h⟩
    rw [beq_f k1]
    simp only [cond, if_neg k1] at hb ⊢
    by_cases k2 : kd = 2
    · subst k2
      rw [beq_t rfl]
      simp only [if_true] at hb ⊢
      have hl : (w64 ((l.length : Int) - 1)) = (l.length : Int) - 1 := w64_id (by omega) (by omega)
      rw [hl]
      obtain ⟨N', f, e, A⟩ := seq_loop (v1 := ⟨2, st, l, mn, mx⟩) (fst := fst) hsub h0 (by show l.length ≤ _; omega) l.length k N z 0 (Nat.le_refl _) (by omega) (by
        show Added N N z z (LSeq (l.drop l.length)) 0
        rw [List.drop_length]; exact Added.refl hz) (by show _ + cntL (l.take l.length) ≤ _; rw [List.take_length]; omega)
      refine ⟨N', f, e, A.congr (fun w => ?_) (by show 0 + cntL (l.take l.length) ≤ _; rw [List.take_length]; omega)⟩
      show LSeq l w ↔ Lang _ w
      rw [Lang_mk]
      exact ⟨fun h => .inr (.inl ⟨rfl, h⟩), fun h => by
          rcases h with ⟨h, _⟩ | ⟨_, h⟩ | ⟨h, _⟩ | ⟨h, _⟩
          · cases h
          · exact h
          all_goals cases h⟩
    rw [beq_f k2]
    simp only [if_neg k2] at hb ⊢
    by_cases k3 : kd = 3
    · subst k3
      rw [beq_t rfl]
      simp only [if_true] at hb ⊢
      obtain ⟨N', f, e, A⟩ := alt_loop (v1 := ⟨3, st, l, mn, mx⟩) (fst := fst) (k := k) hsub h0 hz (by show l.length ≤ _; omega) l.length 0 k N [] 0 (by show 0 + l.length = l.length; omega) (by omega) rfl (by
        show Side N N [] z (LAlt (l.take 0)) 0
        exact Side.nil N z) (by show 0 + cntL (l.drop 0) + 1 + N.length ≤ _; rw [List.drop_zero]; omega)
      refine ⟨N', f, e, A.congr (fun w => ?_) (by show 0 + cntL (l.drop 0) + 1 ≤ _; rw [List.drop_zero]; omega)⟩
      show LAlt l w ↔ Lang _ w
      rw [Lang_mk]
      exact ⟨fun h => .inr (.inr (.inl ⟨rfl, h⟩)), fun h => by
          rcases h with ⟨h, _⟩ | ⟨h, _⟩ | ⟨_, h⟩ | ⟨h, _⟩
          · cases h
          · cases h
          · exact h
          all_goals cases h⟩
    rw [beq_f k3]
    simp only [if_neg k3] at hb ⊢
    have k4 : kd = 4 := by omega
    subst k4
    obtain ⟨hl1, hm0, hm1, hm2, hm3⟩ := h4 rfl
    obtain ⟨x, rfl⟩ : ∃ x, l = [x] := by
      match l, hl1 with
      | [x], _ => exact ⟨x, rfl⟩
    have hx : AddOK (F78 k) x := hsub x (by simp)
    have hi : idxL [x] 0 = some x := rfl
    simp only [cntL, Nat.add_zero] at hb ⊢
    by_cases km : mx < 0
    · rw [dt km]
      simp only [if_pos km] at hb ⊢
      rw [Nat.add_mul, Nat.one_mul] at hb ⊢
      rw [F105_eq (by omega)]
      simp only [Option.bind_some, hi]
      obtain ⟨N2, f, e, A⟩ := hx (N ++ [⟨[], false, [(z : Int)], true⟩]) fst N.length (by simp) (by simp) (by simp; omega)
      have hle := A.le; have hct := A.cnt
      simp only [List.length_append, List.length_cons, List.length_nil] at hle hct
      have hat : N2[N.length]? = some ⟨[], false, [(z : Int)], true⟩ := by rw [A.old N.length (by simp)]; simp
      rw [e]
      simp only [Option.bind_some]
      rw [if_pos ⟨by omega, by omega⟩, idx_nat, hat]
      simp only [Option.bind_some]
      rw [if_pos trivial, if_pos (by simp), if_pos ⟨by omega, by omega⟩]
      have S := added_star h0 hz A
      have A0 : Added N (N2.set N.length ⟨[], false, [(z : Int), (f : Int)], false⟩) N.length z (Cat (Pow (Lang x) 0) (fun w => ∃ n, Pow (Lang x) n w)) (cnt x + 1) := S.congr (fun w => ⟨fun h => ⟨[], w, rfl, rfl, h⟩, fun ⟨u, v, e, hu, hv⟩ => by cases hu; subst e; exact hv⟩) (Nat.le_refl _)
      obtain ⟨N', f', e2, A2⟩ := min_loop (v1 := ⟨4, st, [x], mn, mx⟩) (fst := fst) hi hx h0 hm0 hm1 mn.toNat 0 k _ _ _ (by show ((0 : Nat) : Int) + mn.toNat = mn; omega) (by omega) A0 (by rw [List.length_set]; omega)
      refine ⟨N', f', ?_, A2.congr (fun w => ?_) (by omega)⟩
      · unfold F78_j3
        rw [Int.toNat_natCast]
        exact e2
      · rw [rep_lang]
        constructor
        · rintro ⟨u, v, rfl, hu, n, hn⟩
          exact ⟨mn.toNat + n, by omega, .inl km, (Pow_add _ _ _).1 ⟨u, v, rfl, hu, hn⟩⟩
        · rintro ⟨n, hn, _, h⟩
          have : n = mn.toNat + (n - mn.toNat) := by omega
          rw [this] at h
          obtain ⟨u, v, e, hu, hv⟩ := (Pow_add _ _ _).2 h
          exact ⟨u, v, e, hu, _, hv⟩
    · rw [df km]
      simp only [if_neg km] at hb ⊢
      have hm3' : mn ≤ mx := by rcases hm3 with h | h; omega; exact h
      have hsplit : mx.toNat * cnt x + (mx - mn).toNat = (mx - mn).toNat * (cnt x + 1) + mn.toNat * cnt x := by
        have : mx.toNat = (mx - mn).toNat + mn.toNat := by omega
        rw [this, Nat.add_mul, Nat.mul_add, Nat.mul_one]; omega
      rw [hsplit] at hb ⊢
      have A0 : Added N N z z (PowLe (Lang x) 0) 0 := (Added.refl hz).congr (fun w => PowLe_zero w) (Nat.le_refl _)
      obtain ⟨N', f', e2, A2⟩ := max_loop (v1 := ⟨4, st, [x], mn, mx⟩) (fst := fst) (k := k) hi hx h0 hz hm0 hm1 hm2 hm3' (by omega) (mx - mn).toNat 0 k N z 0 (by show ((0 : Nat) : Int) + (mx - mn).toNat = mx - mn; omega) (by omega) A0 (by show _ + _ * _ + mn.toNat * _ ≤ _; omega)
      refine ⟨N', f', e2, A2.congr (fun w => ?_) (by show 0 + _ + mn.toNat * _ ≤ _; omega)⟩
      rw [rep_lang]
      show Cat (Pow (Lang x) mn.toNat) (PowLe (Lang x) (mx - mn).toNat) w ↔ _
      constructor
      · rintro ⟨u, v, rfl, hu, n, hn, hv⟩
        exact ⟨mn.toNat + n, by omega, .inr (by omega), (Pow_add _ _ _).1 ⟨u, v, rfl, hu, hv⟩⟩
      · rintro ⟨n, hn, h2, h⟩
        have : n = mn.toNat + (n - mn.toNat) := by omega
        rw [this] at h
        obtain ⟨u, v, e, hu, hv⟩ := (Pow_add _ _ _).2 h
        exact ⟨u, v, e, hu, _, by omega, hv⟩
end Go.Proofs.YthilboheomikjaaGreatDoor
end

section
namespace Go.Proofs.YthilboheomikjaaGreatDoor
open Go.AL Go.Lib
set_option linter.unusedVariables false
set_option linter.unusedSimpArgs false
set_option maxRecDepth 100000

def Stop (N : List rex_node) (i : Nat) : Prop := ∃ x, N[i]? = some x ∧ (x.f_some = true ∨ i = 0)
def Eps (N : List rex_node) (i : Nat) (x : rex_node) : Prop := N[i]? = some x ∧ x.f_some = false ∧ i ≠ 0
inductive Reach (N : List rex_node) : Nat → Nat → Prop
  | refl (i : Nat) : Reach N i i
  | step {i t j : Nat} {x : rex_node} : Eps N i x → (t : Int) ∈ x.f_next → Reach N t j → Reach N i j
def Sn (s : List Bool) (i : Nat) : Prop := s[i]? = some true

/-- what closing from a place leaves -/
structure Closed1 (N : List rex_node) (i : Nat) (s : List Bool) (o : List Int) (s' : List Bool) (o' : List Int) : Prop where
  len : s'.length = s.length
  mono : ∀ j, Sn s j → Sn s' j
  here : Sn s' i
  new : ∀ j, Sn s' j → Sn s j ∨ Reach N i j
  out : ∃ d, o' = o ++ d ∧ ∀ t ∈ d, ∃ j : Nat, t = (j : Int) ∧ Stop N j ∧ Sn s' j ∧ Reach N i j
  stop : ∀ j, Sn s' j → ¬ Sn s j → Stop N j → (j : Int) ∈ o'
  eps : ∀ j, Sn s' j → ¬ Sn s j → ∀ x, Eps N j x → ∀ t ∈ x.f_next, ∃ q : Nat, t = (q : Int) ∧ Sn s' q
  size : o'.length + s'.count false ≤ o.length + s.count false

structure Mach (N : List rex_node) : Prop where
  good : ∀ (i : Nat) (x : rex_node), N[i]? = some x → Good N.length x
  zero : ∃ x, N[0]? = some x ∧ x.f_some = false ∧ x.f_set = []
  big : N.length ≤ 536870912

theorem count_set_true {s : List Bool} {i : Nat} (h : s[i]? = some false) : (s.set i true).count false + 1 = s.count false := by
  obtain ⟨hl, he⟩ := List.getElem?_eq_some_iff.1 h
  rw [List.count_set hl, he]
  have : 0 < s.count false := List.count_pos_iff.2 (by rw [← he]; exact List.getElem_mem hl)
  simp; omega

theorem sn_set {s : List Bool} {i j : Nat} (hi : i < s.length) : Sn (s.set i true) j ↔ Sn s j ∨ j = i := by
  unfold Sn
  rw [List.getElem?_set]
  by_cases e : i = j
  · subst e; simp [hi]
  · rw [if_neg e]; constructor
    · exact .inl
    · rintro (h | h); exact h; exact absurd h.symm e

theorem close_loop {N : List rex_node} {R : rex_Machine → List Int → List Bool → Int → Option (List Int × List Bool)} {fst : Int} {x : rex_node} {u : Nat} (hM : Mach N) (hx : ∀ t ∈ x.f_next, ∃ j : Nat, t = (j : Int) ∧ j < N.length)
    (hR : ∀ (s : List Bool) (o : List Int) (i : Nat), i < N.length → s.length = N.length → s.count false ≤ u → o.length + s.count false ≤ 1073741823 → ∃ o' s', R ⟨N, fst⟩ o s (i : Int) = some (o', s') ∧ Closed1 N i s o s' o') (hn : x.f_next.length ≤ 1048576) :
    ∀ (d i m : Nat) (s : List Bool) (o : List Int), i + d = x.f_next.length → d < m → s.length = N.length → s.count false ≤ u → o.length + s.count false ≤ 1073741823 →
      ∃ o' s', F79_l1 R ⟨N, fst⟩ x m o s (i : Int) = some (o', s') ∧ s'.length = s.length ∧ (∀ j, Sn s j → Sn s' j) ∧ (∀ t ∈ x.f_next.drop i, ∃ q : Nat, t = (q : Int) ∧ Sn s' q) ∧
        (∀ j, Sn s' j → Sn s j ∨ ∃ t : Nat, (t : Int) ∈ x.f_next ∧ Reach N t j) ∧ (∃ dd, o' = o ++ dd ∧ ∀ t ∈ dd, ∃ j : Nat, t = (j : Int) ∧ Stop N j ∧ Sn s' j ∧ ∃ t : Nat, (t : Int) ∈ x.f_next ∧ Reach N t j) ∧
        (∀ j, Sn s' j → ¬ Sn s j → Stop N j → (j : Int) ∈ o') ∧ (∀ j, Sn s' j → ¬ Sn s j → ∀ y, Eps N j y → ∀ t ∈ y.f_next, ∃ q : Nat, t = (q : Int) ∧ Sn s' q) ∧ o'.length + s'.count false ≤ o.length + s.count false
  | 0, i, m + 1, s, o, hi, hm, hs, hu, ho => by
    refine ⟨o, s, ?_, rfl, fun _ h => h, fun t ht => ?_, fun j h => .inl h, ⟨[], by simp, fun t ht => by cases ht⟩, fun j h h' => absurd h h', fun j h h' => absurd h h', Nat.le_refl _⟩
    · show F79_b1 _ _ _ _ _ _ _ = _
      unfold F79_b1
      rw [df (by omega)]; rfl
    · rw [List.drop_eq_nil_of_le (by omega)] at ht; cases ht
  | d + 1, i, m + 1, s, o, hi, hm, hs, hu, ho => by
    have hil : i < x.f_next.length := by omega
    obtain ⟨j, ej, hj⟩ := hx _ (List.getElem_mem hil)
    obtain ⟨o1, s1, e1, C1⟩ := hR s o j hj hs hu ho
    have hz := C1.size
    have hc : s1.count false ≤ s.count false := by
      have : o1.length ≥ o.length := by obtain ⟨dd, e, _⟩ := C1.out; rw [e]; simp
      omega
    obtain ⟨o2, s2, e2, g1, g2, g3, g4, g5, g6, g7, g8⟩ := close_loop hM hx hR hn d (i + 1) m s1 o1 (by omega) (by omega) (by rw [C1.len, hs]) (by omega) (by omega)
    have hmem : (j : Int) ∈ x.f_next := by rw [← ej]; exact List.getElem_mem hil
    refine ⟨o2, s2, ?_, by rw [g1, C1.len], fun q h => g2 q (C1.mono q h), fun t ht => ?_, fun q h => ?_, ?_, fun q h h' hst => ?_, fun q h h' y hy t ht => ?_, by omega⟩
    · show F79_b1 _ _ _ _ _ _ _ = _
      unfold F79_b1
      rw [dt (by omega), idx_lt hil]
      simp only [cond, Option.bind_some, ej, e1]
      rw [if_pos (by rw [C1.len]), w64_id (by omega) (by omega)]; exact e2
    · rw [List.drop_eq_getElem_cons hil] at ht
      rcases List.mem_cons.1 ht with rfl | ht
      · exact ⟨j, ej, g2 j C1.here⟩
      · exact g3 t ht
    · rcases g4 q h with h | h
      · rcases C1.new q h with h | h
        · exact .inl h
        · exact .inr ⟨j, hmem, h⟩
      · exact .inr h
    · obtain ⟨d1, f1, f2⟩ := C1.out
      obtain ⟨d2, f3, f4⟩ := g5
      refine ⟨d1 ++ d2, by rw [f3, f1, List.append_assoc], fun t ht => ?_⟩
      rcases List.mem_append.1 ht with ht | ht
      · obtain ⟨q, a, b, c, e⟩ := f2 t ht; exact ⟨q, a, b, g2 q c, j, hmem, e⟩
      · exact f4 t ht
    · by_cases hq : Sn s1 q
      · have := C1.stop q hq h' hst
        obtain ⟨d2, f3, _⟩ := g5
        rw [f3]; exact List.mem_append.2 (.inl this)
      · exact g6 q h hq hst
    · by_cases hq : Sn s1 q
      · obtain ⟨p, a, b⟩ := C1.eps q hq h' y hy t ht; exact ⟨p, a, g2 p b⟩
      · exact g7 q h hq y hy t ht

theorem close_ok {N : List rex_node} {fst : Int} (hM : Mach N) : ∀ (k u : Nat) (s : List Bool) (o : List Int) (i : Nat), i < N.length → s.length = N.length → s.count false ≤ u → u + 1002 ≤ k → o.length + s.count false ≤ 1073741823 →
    ∃ o' s', F79 k ⟨N, fst⟩ o s (i : Int) = some (o', s') ∧ Closed1 N i s o s' o'
  | 0, u, s, o, i, hi, hs, hu, hk, ho => by omega
  | k + 1, u, s, o, i, hi, hs, hu, hk, ho => by
    have hsi : i < s.length := by omega
    have hnode := List.getElem?_eq_getElem hi
    show ∃ o' s', F79_b (F79 k) k ⟨N, fst⟩ o s (i : Int) = _ ∧ _
    unfold F79_b
    rw [if_pos ⟨by omega, by omega⟩, idx_lt hsi]
    simp only [Option.bind_some]
    cases hv : s[i] with
    | true =>
      refine ⟨o, s, rfl, rfl, fun _ h => h, by unfold Sn; rw [List.getElem?_eq_getElem hsi, hv], fun j h => .inl h, ⟨[], by simp, fun t ht => by cases ht⟩, fun j h h' => absurd h h', fun j h h' => absurd h h', Nat.le_refl _⟩
    | false =>
      have hcs := count_set_true (s := s) (i := i) (by rw [List.getElem?_eq_getElem hsi, hv])
      simp only [cond]
      rw [if_pos ⟨by omega, by omega⟩, idx_lt hi]
      simp only [Option.bind_some]
      unfold F79_j0
      rw [Int.toNat_natCast]
      have hsn : ∀ j, Sn (s.set i true) j ↔ Sn s j ∨ j = i := fun j => sn_set hsi
      have hnot : ¬ Sn s i := by unfold Sn; rw [List.getElem?_eq_getElem hsi, hv]; intro h; cases h
      by_cases hst : N[i].f_some = true ∨ i = 0
      · -- it stays
        have hfin : (match (!N[i].f_some) with
            | true => match ((i : Int) != 0) with
              | true => F79_l1 (F79 k) ⟨N, fst⟩ N[i] k o (s.set i true) 0
              | false => if o.length + [(i : Int)].length ≤ 1073741824 then some (o ++ [(i : Int)], s.set i true) else none
            | false => match false with
              | true => F79_l1 (F79 k) ⟨N, fst⟩ N[i] k o (s.set i true) 0
              | false => if o.length + [(i : Int)].length ≤ 1073741824 then some (o ++ [(i : Int)], s.set i true) else none) = some (o ++ [(i : Int)], s.set i true) := by
          have hle : o.length + [(i : Int)].length ≤ 1073741824 := by simp; omega
          rcases hst with h | h
          · rw [h]; simp only [Bool.not_true]; rw [if_pos hle]
          · subst h
            have h00 : (((0 : Nat) : Int) != 0) = false := rfl
            cases N[0].f_some
            · simp only [Bool.not_false]; rw [h00]; simp only []; rw [if_pos hle]
            · simp only [Bool.not_true]; rw [if_pos hle]
        refine ⟨o ++ [(i : Int)], s.set i true, hfin, by simp, fun j h => (hsn j).2 (.inl h), (hsn i).2 (.inr rfl), fun j h => ?_, ⟨[(i : Int)], rfl, fun t ht => ?_⟩, fun j h h' _ => ?_, fun j h h' x hx => ?_, by simp; omega⟩
        · rcases (hsn j).1 h with h | rfl
          · exact .inl h
          · exact .inr (.refl _)
        · simp at ht; exact ⟨i, ht, ⟨_, hnode, hst⟩, (hsn i).2 (.inr rfl), .refl _⟩
        · rcases (hsn j).1 h with h | rfl
          · exact absurd h h'
          · simp
        · rcases (hsn j).1 h with h | rfl
          · exact absurd h h'
          · rw [hx.1] at hnode; cases hnode
            rcases hst with h1 | h1
            · rw [hx.2.1] at h1; cases h1
            · exact absurd h1 hx.2.2
      · -- it goes on
        have h1 : N[i].f_some = false := by cases h : N[i].f_some with | true => exact absurd (.inl h) hst | false => rfl
        have h2 : i ≠ 0 := fun h => hst (.inr h)
        have hE : Eps N i N[i] := ⟨hnode, h1, h2⟩
        have hG := hM.good i _ hnode
        have hnx := hG.2.2.2.2.1
        obtain ⟨o', s', e, g1, g2, g3, g4, g5, g6, g7, g8⟩ := close_loop (R := F79 k) (fst := fst) (u := u - 1) hM hG.2.1 (fun s o q hq hs' hu' ho' => close_ok hM k (u - 1) s o q hq hs' hu' (by omega) ho') (by omega)
          N[i].f_next.length 0 k (s.set i true) o (by omega) (by omega) (by simp [hs]) (by omega) (by omega)
        refine ⟨o', s', ?_, by rw [g1]; simp, fun j h => g2 j ((hsn j).2 (.inl h)), g2 i ((hsn i).2 (.inr rfl)), fun j h => ?_, ?_, fun j h h' hs2 => ?_, fun j h h' x hx t ht => ?_, by omega⟩
        · rw [h1]
          have : ((i : Int) != 0) = true := by rw [bne_iff_ne]; omega
          simp only [Bool.not_false]; rw [this]; exact e
        · rcases g4 j h with h | ⟨t, ht, hr⟩
          · rcases (hsn j).1 h with h | rfl
            · exact .inl h
            · exact .inr (.refl _)
          · exact .inr (.step hE ht hr)
        · obtain ⟨dd, f1, f2⟩ := g5
          exact ⟨dd, f1, fun t ht => by obtain ⟨j, a, b, c, q, hq, hr⟩ := f2 t ht; exact ⟨j, a, b, c, .step hE hq hr⟩⟩
        · by_cases hq : Sn (s.set i true) j
          · rcases (hsn j).1 hq with hq | rfl
            · exact absurd hq h'
            · obtain ⟨x, hx, hx'⟩ := hs2
              rw [hnode] at hx; cases hx; exact absurd hx' hst
          · exact g6 j h hq hs2
        · by_cases hq : Sn (s.set i true) j
          · rcases (hsn j).1 hq with hq | rfl
            · exact absurd hq h'
            · rw [hx.1] at hnode; cases hnode
              exact g3 t (by rw [List.drop_zero]; exact ht)
          · exact g7 j h hq x hx t ht
end Go.Proofs.YthilboheomikjaaGreatDoor
end

section
namespace Go.Proofs.YthilboheomikjaaGreatDoor
open Go.AL
set_option linter.unusedVariables false
set_option linter.unusedSimpArgs false
set_option maxRecDepth 100000

/-! entrepot rex.Match -/
def F31_b1 (k : Nat) (self1 : (List Int) → Int → Option Bool) (v1 : List UInt8) (y106 : rex_Machine) (v116 : List Int) (v117 : Int) : Option Bool :=
  (cond (decide (v117 < (v1.length : Int))) ((F55 k v1 v117).bind fun y119 => (F56 k y106 v116 y119.1).bind fun y120 => (self1 y120 (w64 (v117 + y119.2)))) ((F57 k y106 v116).bind fun y121 => (some y121)))
def F31_l1 (k : Nat) (v1 : List UInt8) (y106 : rex_Machine) : Nat → (List Int) → Int → Option Bool
  | 0, _, _ => none
  | m_ + 1, v116, v117 => F31_b1 k (F31_l1 k v1 y106 m_) v1 y106 v116 v117
def F31_j0 (k : Nat) (v0 : api_Re) (v1 : List UInt8) (v104 : Bool) : Option Bool :=
  cond v104 ((some false)) ((F53 k v0).bind fun y106 => (F54 k y106).bind fun y107 => ((F31_l1 k v1 y106 k y107 0)))
def F31 (k : Nat) (v0 : api_Re) (v1 : List UInt8) : Option Bool :=
  (F30 k v0).bind fun y101 => cond (!y101) ((F31_j0 k v0 v1 true)) ((F49 k v1).bind fun y103 => (F31_j0 k v0 v1 (!y103)))
theorem F31_ok (k : Nat) (v0 : api_Re) (v1 : List UInt8) (r : Bool) (hF : F31 k v0 v1 = some r) : Sim Tryz.prog GL0 31 [.val true (pvL (e_api_Re v0)), one (.str v1)] [] (one (.bool r)) [] := by
  refine sim_of [] Tryz.func31 rfl (by kernel_rfl) (by kernel_rfl) ?_
  show WA _ _ 42 _ _ _
  refine WA.seq ?_
  refine WA.reg [1, 2] [102] [(0, .obj 102)] (env' := [(1, one (.str v1)), (2, .val false [.ptr 102 1 0 0])]) (os' := [(102, .box (pvL (e_api_Re v0)))]) (O := []) (by kernel_rfl) (sound _ _) trivial ?_
  refine WA.seq ?_
  refine WA.join (fun s_ => ∃ (v104 : Bool), pickE s_.env [1, 2, 17] = [(1, one (.str v1)), (2, .val false [.ptr 102 1 0 0]), (17, one (.bool v104))] ∧ pickE s_.os [102] = [(102, .box (pvL (e_api_Re v0)))] ∧ F31_j0 k v0 v1 v104 = some r) ?_ ?_
  · rintro s_ ⟨v104, he, ho, hF⟩
    refine WA.keep _ _ he ho ?_
    clear he ho
    refine WA.cond (b := v104) rfl (fun hb105 => ?_) (fun hb105 => ?_)
    · have hF := cond_t hF hb105
      refine WA.seq ?_
      refine WA.reg [4] [] [] (env' := [(4, one (.bool false))]) (os' := []) (O := []) (by kernel_rfl) (sound _ _) trivial ?_
      refine WA.ret ?_
      obtain rfl := Option.some.inj hF
      exact out_ret (one (.bool false)) [] (by kernel_rfl) (by kernel_rfl) (by kernel_rfl) (by kernel_rfl) (by decide) rfl rfl
    · have hF := cond_f hF hb105
      refine WA.skip ?_
      refine WA.seq ?_
      obtain ⟨y106, hy106, hF⟩ := bind_some hF
      refine WA.reg [1, 5] [] [(1, .callR [] (.val false [.vp (e_rex_Machine y106)]))] (env' := [(1, one (.str v1)), (5, .val false [.vp (e_rex_Machine y106)])]) (os' := []) (O := [Sim Tryz.prog GL0 53 [.val true (pvL (e_api_Re v0))] [] (.val false [.vp (e_rex_Machine y106)]) [], ([] : List Nat).Nodup]) (by kernel_rfl) (sound _ _) ⟨(F53_ok k _ _ hy106), (by decide), trivial⟩ ?_
      refine WA.seq ?_
      obtain ⟨y107, hy107, hF⟩ := bind_some hF
      refine WA.reg [1, 5, 6] [] [(1, .callR [] (one (.sl (y107.map (eInt .i64)))))] (env' := [(1, one (.str v1)), (5, .val false [.vp (e_rex_Machine y106)]), (6, one (.sl (y107.map (eInt .i64))))]) (os' := []) (O := [Sim Tryz.prog GL0 54 [.val false [.vp (e_rex_Machine y106)]] [] (one (.sl (y107.map (eInt .i64)))) [], ([] : List Nat).Nodup]) (by kernel_rfl) (sound _ _) ⟨(F54_ok k _ _ hy107), (by decide), trivial⟩ ?_
      refine WA.seq ?_
      refine WA.seq ?_
      refine WA.reg [1, 5, 6, 7] [] [] (env' := [(1, one (.str v1)), (5, .val false [.vp (e_rex_Machine y106)]), (6, one (.sl (y107.map (eInt .i64)))), (7, one (.int .i64 0))]) (os' := []) (O := []) (by kernel_rfl) (sound _ _) trivial ?_
      refine WA.block ?_
      refine WA.loop (fun m s_ => ∃ (v116 : List Int) (v117 : Int), pickE s_.env [1, 5, 6, 7] = [(1, one (.str v1)), (5, .val false [.vp (e_rex_Machine y106)]), (6, one (.sl (v116.map (eInt .i64)))), (7, one (.int .i64 v117))] ∧ pickE s_.os [] = [] ∧ F31_l1 k v1 y106 m v116 v117 = some r) k ⟨y107, 0, by kernel_rfl, by kernel_rfl, hF⟩ ?_
      clear hF
      rintro m1 s_ ⟨v116, v117, he, ho, hF⟩
      refine WA.keep _ _ he ho ?_
      clear he ho
      cases m1 with
      | zero => cases hF
      | succ m1 =>
        obtain ⟨self1, hself1⟩ : ∃ g, g = F31_l1 k v1 y106 m1 := ⟨_, rfl⟩
        have hF : F31_b1 k self1 v1 y106 v116 v117 = some r := by first | (rw [hself1]; exact hF) | exact hF
        refine WA.seq ?_
        refine WA.seq ?_
        refine WA.reg [1, 5, 6, 7, 25] [] [] (env' := [(1, one (.str v1)), (5, .val false [.vp (e_rex_Machine y106)]), (6, one (.sl (v116.map (eInt .i64)))), (7, one (.int .i64 v117)), (25, one (.bool (decide (v117 < (v1.length : Int)))))]) (os' := []) (O := []) (by kernel_rfl) (sound _ _) trivial ?_
        refine WA.cond (b := (decide (v117 < (v1.length : Int)))) rfl (fun hb118 => ?_) (fun hb118 => ?_)
        · have hF := cond_t hF hb118
          refine WA.skip ?_
          refine WA.block ?_
          refine WA.seq ?_
          obtain ⟨y119, hy119, hF⟩ := bind_some hF
          refine WA.reg [1, 5, 6, 7, 8, 9] [] [(2, .callR [] (.tup [(false, [.pv (.int .i64 y119.1)]), (false, [.pv (.int .i64 y119.2)])]))] (env' := [(1, one (.str v1)), (5, .val false [.vp (e_rex_Machine y106)]), (6, one (.sl (v116.map (eInt .i64)))), (7, one (.int .i64 v117)), (8, one (.int .i64 y119.1)), (9, one (.int .i64 y119.2))]) (os' := []) (O := [Sim Tryz.prog GL0 55 [one (.str v1), one (.int .i64 v117)] [] (.tup [(false, [.pv (.int .i64 y119.1)]), (false, [.pv (.int .i64 y119.2)])]) [], ([] : List Nat).Nodup]) (by kernel_rfl) (sound _ _) ⟨(F55_ok k _ _ _ hy119), (by decide), trivial⟩ ?_
          refine WA.seq ?_
          obtain ⟨y120, hy120, hF⟩ := bind_some hF
          refine WA.reg [1, 5, 6, 7, 9] [] [(3, .callR [] (one (.sl (y120.map (eInt .i64)))))] (env' := [(1, one (.str v1)), (5, .val false [.vp (e_rex_Machine y106)]), (6, one (.sl (y120.map (eInt .i64)))), (7, one (.int .i64 v117)), (9, one (.int .i64 y119.2))]) (os' := []) (O := [Sim Tryz.prog GL0 56 [.val false [.vp (e_rex_Machine y106)], one (.sl (v116.map (eInt .i64))), one (.int .i64 y119.1)] [] (one (.sl (y120.map (eInt .i64)))) [], ([] : List Nat).Nodup]) (by kernel_rfl) (sound _ _) ⟨(F56_ok k _ _ _ _ hy120), (by decide), trivial⟩ ?_
          refine WA.reg [1, 5, 6, 7] [] [] (env' := [(1, one (.str v1)), (5, .val false [.vp (e_rex_Machine y106)]), (6, one (.sl (y120.map (eInt .i64)))), (7, one (.int .i64 (w64 (v117 + y119.2))))]) (os' := []) (O := []) (by kernel_rfl) (sound _ _) trivial ?_
          exact ⟨m1, Nat.lt_succ_self _, y120, (w64 (v117 + y119.2)), by kernel_rfl, by kernel_rfl, by rw [hself1] at hF; exact hF⟩
        · have hF := cond_f hF hb118
          refine WA.exit ?_
          refine WA.seq ?_
          obtain ⟨y121, hy121, hF⟩ := bind_some hF
          refine WA.reg [4] [] [(2, .callR [] (one (.bool y121)))] (env' := [(4, one (.bool y121))]) (os' := []) (O := [Sim Tryz.prog GL0 57 [.val false [.vp (e_rex_Machine y106)], one (.sl (v116.map (eInt .i64)))] [] (one (.bool y121)) [], ([] : List Nat).Nodup]) (by kernel_rfl) (sound _ _) ⟨(F57_ok k _ _ _ hy121), (by decide), trivial⟩ ?_
          refine WA.ret ?_
          obtain rfl := Option.some.inj hF
          exact out_ret (one (.bool y121)) [] (by kernel_rfl) (by kernel_rfl) (by kernel_rfl) (by kernel_rfl) (by decide) rfl rfl
  · obtain ⟨y101, hy101, hF⟩ := bind_some hF
    rcases Bool.eq_false_or_eq_true (!y101) with hb102 | hb102
    · have hF := cond_t hF hb102
      refine WA.reg [1, 2, 17] [102] [(1, .callR [] (one (.bool y101))), (3, .bool true)] (env' := [(1, one (.str v1)), (2, .val false [.ptr 102 1 0 0]), (17, one (.bool true))]) (os' := [(102, .box (pvL (e_api_Re v0)))]) (O := [Sim Tryz.prog GL0 30 [.val true (pvL (e_api_Re v0))] [] (one (.bool y101)) [], ([] : List Nat).Nodup, (!y101) = true]) (by kernel_rfl) (sound _ _) ⟨(F30_ok k _ _ hy101), (by decide), hb102, trivial⟩ ?_
      exact ⟨true, by kernel_rfl, by kernel_rfl, hF⟩
    · have hF := cond_f hF hb102
      obtain ⟨y103, hy103, hF⟩ := bind_some hF
      refine WA.reg [1, 2, 17] [102] [(1, .callR [] (one (.bool y101))), (3, .bool false), (5, .callR [] (one (.bool y103)))] (env' := [(1, one (.str v1)), (2, .val false [.ptr 102 1 0 0]), (17, one (.bool (!y103)))]) (os' := [(102, .box (pvL (e_api_Re v0)))]) (O := [Sim Tryz.prog GL0 30 [.val true (pvL (e_api_Re v0))] [] (one (.bool y101)) [], ([] : List Nat).Nodup, (!y101) = false, Sim Tryz.prog GL0 49 [one (.str v1)] [] (one (.bool y103)) [], ([] : List Nat).Nodup]) (by kernel_rfl) (sound _ _) ⟨(F30_ok k _ _ hy101), (by decide), hb102, (F49_ok k _ _ hy103), (by decide), trivial⟩ ?_
      exact ⟨(!y103), by kernel_rfl, by kernel_rfl, hF⟩
end Go.Proofs.YthilboheomikjaaGreatDoor
end

section
namespace Go.Proofs.YthilboheomikjaaGreatDoor
open Go.AL Go.Lib
set_option linter.unusedVariables false
set_option linter.unusedSimpArgs false
set_option maxRecDepth 100000

/-- where a machine stands, that was closed from T -/
structure Front (N : List rex_node) (T : Nat → Prop) (s : List Bool) (o : List Int) : Prop where
  len : s.length = N.length
  root : ∀ t, T t → Sn s t
  new : ∀ j, Sn s j → ∃ t, T t ∧ Reach N t j
  out : ∀ t ∈ o, ∃ j : Nat, t = (j : Int) ∧ Stop N j ∧ ∃ r, T r ∧ Reach N r j
  stop : ∀ j, Sn s j → Stop N j → (j : Int) ∈ o
  eps : ∀ j, Sn s j → ∀ x, Eps N j x → ∀ t ∈ x.f_next, ∃ q : Nat, t = (q : Int) ∧ Sn s q
  size : o.length + s.count false ≤ N.length

theorem sn_rep (n j : Nat) : ¬ Sn (List.replicate n false) j := by
  unfold Sn
  rw [List.getElem?_replicate]; split <;> simp

theorem Front.nil (N : List rex_node) : Front N (fun _ => False) (List.replicate N.length false) [] :=
  ⟨by simp, fun _ h => h.elim, fun j h => absurd h (sn_rep _ _), fun _ h => by simp at h, fun j h => absurd h (sn_rep _ _), fun j h => absurd h (sn_rep _ _), by simp⟩

theorem Front.close {N : List rex_node} {T : Nat → Prop} {s s' : List Bool} {o o' : List Int} {i : Nat} (h : Front N T s o) (c : Closed1 N i s o s' o') : Front N (fun t => T t ∨ t = i) s' o' := by
  refine ⟨by rw [c.len, h.len], fun t ht => ?_, fun j hj => ?_, fun t ht => ?_, fun j hj hst => ?_, fun j hj x hx t ht => ?_, by have := c.size; have := h.size; omega⟩
  · rcases ht with ht | rfl
    · exact c.mono t (h.root t ht)
    · exact c.here
  · rcases c.new j hj with hj | hj
    · obtain ⟨t, a, b⟩ := h.new j hj; exact ⟨t, .inl a, b⟩
    · exact ⟨i, .inr rfl, hj⟩
  · obtain ⟨d, e, hd⟩ := c.out
    rw [e] at ht
    rcases List.mem_append.1 ht with ht | ht
    · obtain ⟨j, a, b, r, e, f⟩ := h.out t ht; exact ⟨j, a, b, r, .inl e, f⟩
    · obtain ⟨j, a, b, _, e⟩ := hd t ht; exact ⟨j, a, b, i, .inr rfl, e⟩
  · by_cases hs : Sn s j
    · obtain ⟨d, e, _⟩ := c.out
      rw [e]; exact List.mem_append.2 (.inl (h.stop j hs hst))
    · exact c.stop j hj hs hst
  · by_cases hs : Sn s j
    · obtain ⟨q, a, b⟩ := h.eps j hs x hx t ht; exact ⟨q, a, c.mono q b⟩
    · exact c.eps j hj hs x hx t ht

theorem Reach.acc {N : List rex_node} {i j : Nat} (h : Reach N i j) {n : Nat} {w : List Int} (ha : Acc N n j w) : ∃ m, Acc N m i w := by
  induction h with
  | refl i => exact ⟨n, ha⟩
  | step hE ht _ ih => obtain ⟨m, hm⟩ := ih ha; exact ⟨m + 1, .eps hE.2.2 hE.1 hE.2.1 ht hm⟩

theorem front_acc {N : List rex_node} {T : Nat → Prop} {s : List Bool} {o : List Int} (hM : Mach N) (h : Front N T s o) (w : List Int) : (∃ t, T t ∧ ∃ n, Acc N n t w) ↔ ∃ j : Nat, (j : Int) ∈ o ∧ ∃ n, Acc N n j w := by
  have key : ∀ (n j : Nat), Sn s j → Acc N n j w → ∃ q : Nat, (q : Int) ∈ o ∧ ∃ n, Acc N n q w := by
    intro n
    induction n using Nat.strongRecOn with
    | ind n ih =>
      intro j hj ha
      rcases ha.inv with ⟨e, _⟩ | ⟨m, x, c, t, v, rfl, rfl, h1, h2, h3, h4, h5⟩ | ⟨m, x, t, rfl, h0, h1, h2, h3, h4⟩
      · subst e
        obtain ⟨x, hx, _⟩ := hM.zero
        exact ⟨0, h.stop 0 hj ⟨x, hx, .inr rfl⟩, n, ha⟩
      · exact ⟨j, h.stop j hj ⟨x, h1, .inl h2⟩, _, ha⟩
      · obtain ⟨q, e, hq⟩ := h.eps j hj x ⟨h1, h2, h0⟩ t h3
        have : t = q := by omega
        subst this
        exact ih m (by omega) t hq h4
  constructor
  · rintro ⟨t, ht, n, ha⟩; exact key n t (h.root t ht) ha
  · rintro ⟨j, hj, n, ha⟩
    obtain ⟨j', e, _, r, hr, hre⟩ := h.out _ hj
    have : j = j' := by omega
    subst this
    exact ⟨r, hr, hre.acc ha⟩

/-- places that are sets, and the end -/
def Stops (N : List rex_node) (l : List Int) : Prop := ∀ t ∈ l, ∃ j : Nat, t = (j : Int) ∧ Stop N j

theorem Stop.lt {N : List rex_node} {j : Nat} (h : Stop N j) : j < N.length := by
  obtain ⟨x, hx, _⟩ := h; exact (List.getElem?_eq_some_iff.1 hx).1

theorem front_congr {N : List rex_node} {T T' : Nat → Prop} {s : List Bool} {o : List Int} (h : Front N T s o) (e : ∀ t, T t ↔ T' t) : Front N T' s o :=
  ⟨h.len, fun t ht => h.root t ((e t).2 ht), fun j hj => by obtain ⟨t, a, b⟩ := h.new j hj; exact ⟨t, (e t).1 a, b⟩, fun t ht => by obtain ⟨j, a, b, r, c, d⟩ := h.out t ht; exact ⟨j, a, b, r, (e r).1 c, d⟩, h.stop, h.eps, h.size⟩

theorem begin_ok {k : Nat} {N : List rex_node} {f : Nat} (hM : Mach N) (hf : f < N.length) (hk : N.length + 1002 ≤ k) : ∃ o s, F54 k ⟨N, f⟩ = some o ∧ Front N (fun t => t = f) s o := by
  have hb := hM.big
  obtain ⟨o, s, e, c⟩ := close_ok (fst := f) hM k N.length (List.replicate N.length false) [] f hf (by simp) (by simp) hk (by simp; omega)
  refine ⟨o, s, ?_, front_congr ((Front.nil N).close c) (fun t => ⟨fun h => h.elim (fun h => h.elim) id, .inr⟩)⟩
  unfold F54
  rw [if_pos (by show (N.length : Int) ≤ _; omega)]
  show (F79 k ⟨N, f⟩ [] (List.replicate N.length false) (f : Int)).bind _ = _
  rw [e]; rfl

/-- within a set -/
theorem step_in {k : Nat} {N : List rex_node} {fst : Int} {c : Int} {j : Nat} {x : rex_node} (hM : Mach N) (hk : N.length + 1002 ≤ k) (hx : N[j]? = some x) {kont : List Int → List Bool → Int → Option (List Int)} {v215 : Int} :
    ∀ (d i m : Nat) (T : Nat → Prop) (s : List Bool) (o : List Int), i + d = x.f_set.length → d < m → Front N T s o →
      ∃ o' s', F56_l19 k kont ⟨N, fst⟩ c v215 (j : Int) x m o s (i : Int) = kont o' s' (w64 (v215 + 1)) ∧ Front N (fun t => T t ∨ (inR (x.f_set.drop i) c ∧ x.f_next = [(t : Int)])) s' o'
  | 0, i, m + 1, T, s, o, hi, hm, hF => by
    refine ⟨o, s, ?_, front_congr hF fun t => ⟨.inl, fun h => h.elim id fun ⟨⟨r, hr, _⟩, _⟩ => by rw [List.drop_eq_nil_of_le (by omega)] at hr; cases hr⟩⟩
    show F56_b19 _ _ _ _ _ _ _ _ _ _ _ = _
    unfold F56_b19
    rw [df (by omega)]; rfl
  | d + 1, i, m + 1, T, s, o, hi, hm, hF => by
    have hil : i < x.f_set.length := by omega
    have hb := hM.big
    have hG := hM.good j x hx
    show ∃ o' s', F56_b19 _ _ _ _ _ _ _ _ _ _ _ = _ ∧ _
    unfold F56_b19
    rw [dt (by omega), idx_lt hil]
    simp only [cond, Option.bind_some]
    have hd := List.drop_eq_getElem_cons hil
    by_cases hc : c ≥ x.f_set[i].f_Lo ∧ c ≤ x.f_set[i].f_Hi
    · rw [dt hc.1, dt hc.2]
      have hsome : x.f_some = true := by
        cases h : x.f_some with
        | true => rfl
        | false => have := hG.2.2.2.1 h; rw [this] at hil; simp at hil
      obtain ⟨t, ht⟩ := hG.2.2.1 hsome
      obtain ⟨q, rfl, hq⟩ := hG.2.1 t (by rw [ht]; simp)
      have hfs := hF.size
      obtain ⟨o1, s1, e1, c1⟩ := close_ok (fst := fst) hM k N.length s o q hq hF.len (by omega) hk (by omega)
      obtain ⟨o2, s2, e2, F2⟩ := step_in (fst := fst) (c := c) hM hk hx (kont := kont) (v215 := v215) d (i + 1) m _ s1 o1 (by omega) (by omega) (hF.close c1)
      refine ⟨o2, s2, ?_, front_congr F2 fun t => ?_⟩
      · simp only [F56_j20, cond]
        rw [idx_nat, hx]
        simp only [Option.bind_some, ht]
        rw [show idxL [(q : Int)] 0 = some (q : Int) from rfl]
        simp only [Option.bind_some, e1]
        rw [if_pos c1.len]
        unfold F56_j21
        rw [w64_id (by have := hG.2.2.2.2.2; omega) (by have := hG.2.2.2.2.2; omega)]; exact e2
      · rw [hd]
        constructor
        · rintro ((h | rfl) | ⟨⟨r, hr, h2⟩, h3⟩)
          · exact .inl h
          · exact .inr ⟨⟨_, List.mem_cons_self, hc⟩, ht⟩
          · exact .inr ⟨⟨r, List.mem_cons_of_mem _ hr, h2⟩, h3⟩
        · rintro (h | ⟨_, h3⟩)
          · exact .inl (.inl h)
          · rw [ht] at h3; simp at h3; exact .inl (.inr (by omega))
    · obtain ⟨o2, s2, e2, F2⟩ := step_in (fst := fst) (c := c) hM hk hx (kont := kont) (v215 := v215) d (i + 1) m T s o (by omega) (by omega) hF
      refine ⟨o2, s2, ?_, front_congr F2 fun t => ?_⟩
      · have : (match decide (c ≥ x.f_set[i].f_Lo) with
            | true => F56_j20 k (F56_l19 k kont ⟨N, fst⟩ c v215 (j : Int) x m) ⟨N, fst⟩ (j : Int) o s (i : Int) (decide (c ≤ x.f_set[i].f_Hi))
            | false => F56_j20 k (F56_l19 k kont ⟨N, fst⟩ c v215 (j : Int) x m) ⟨N, fst⟩ (j : Int) o s (i : Int) false) = F56_j20 k (F56_l19 k kont ⟨N, fst⟩ c v215 (j : Int) x m) ⟨N, fst⟩ (j : Int) o s (i : Int) false := by
          by_cases h1 : c ≥ x.f_set[i].f_Lo
          · rw [dt h1, df (fun h2 => hc ⟨h1, h2⟩)]
          · rw [df h1]
        refine this.trans ?_
        simp only [F56_j20, F56_j21, cond]
        rw [w64_id (by have := hG.2.2.2.2.2; omega) (by have := hG.2.2.2.2.2; omega)]; exact e2
      · rw [hd]
        constructor
        · rintro (h | ⟨⟨r, hr, h2⟩, h3⟩)
          · exact .inl h
          · exact .inr ⟨⟨r, List.mem_cons_of_mem _ hr, h2⟩, h3⟩
        · rintro (h | ⟨⟨r, hr, h2⟩, h3⟩)
          · exact .inl h
          · rcases List.mem_cons.1 hr with rfl | hr
            · exact absurd h2 hc
            · exact .inr ⟨⟨r, hr, h2⟩, h3⟩

/-- where a code point leads to -/
def Leads (N : List rex_node) (l : List Int) (c : Int) (t : Nat) : Prop := ∃ (j : Nat) (x : rex_node), (j : Int) ∈ l ∧ N[j]? = some x ∧ inR x.f_set c ∧ x.f_next = [(t : Int)]

theorem step_out {k : Nat} {N : List rex_node} {fst : Int} {l : List Int} {c : Int} (hM : Mach N) (hk : N.length + 1002 ≤ k) (hl : Stops N l) (hlk : l.length ≤ 536870912) :
    ∀ (d i m : Nat) (T : Nat → Prop) (s : List Bool) (o : List Int), i + d = l.length → d < m → Front N T s o →
      ∃ o' s', F56_l14 k ⟨N, fst⟩ l c m o s (i : Int) = some o' ∧ Front N (fun t => T t ∨ Leads N (l.drop i) c t) s' o'
  | 0, i, m + 1, T, s, o, hi, hm, hF => by
    refine ⟨o, s, ?_, front_congr hF fun t => ⟨.inl, fun h => h.elim id fun ⟨j, x, hj, _⟩ => by rw [List.drop_eq_nil_of_le (by omega)] at hj; cases hj⟩⟩
    show F56_b14 _ _ _ _ _ _ _ _ = _
    unfold F56_b14
    rw [df (by omega)]; rfl
  | d + 1, i, m + 1, T, s, o, hi, hm, hF => by
    have hil : i < l.length := by omega
    obtain ⟨j, ej, hst⟩ := hl _ (List.getElem_mem hil)
    obtain ⟨x, hx, _⟩ := hst
    have hG := hM.good j x hx
    obtain ⟨o1, s1, e1, F1⟩ := step_in (fst := fst) (c := c) hM hk hx (kont := F56_l14 k ⟨N, fst⟩ l c m) (v215 := (i : Int)) x.f_set.length 0 k T s o (by omega) (by have := hG.2.2.2.2.2; omega) hF
    obtain ⟨o2, s2, e2, F2⟩ := step_out hM hk hl hlk d (i + 1) m _ s1 o1 (by omega) (by omega) F1
    refine ⟨o2, s2, ?_, front_congr F2 fun t => ?_⟩
    · show F56_b14 _ _ _ _ _ _ _ _ = _
      unfold F56_b14
      rw [dt (by omega), idx_lt hil]
      simp only [cond, Option.bind_some, ej]
      rw [idx_nat, hx]
      simp only [Option.bind_some]
      rw [show F56_l19 k (F56_l14 k ⟨N, fst⟩ l c m) ⟨N, fst⟩ c (i : Int) (j : Int) x k o s 0 = _ from e1, w64_id (by omega) (by omega)]; exact e2
    · rw [List.drop_eq_getElem_cons hil, List.drop_zero, ej]
      constructor
      · rintro ((h | ⟨h1, h2⟩) | ⟨j', x', h1, h2⟩)
        · exact .inl h
        · exact .inr ⟨j, x, by simp, hx, h1, h2⟩
        · exact .inr ⟨j', x', List.mem_cons_of_mem _ h1, h2⟩
      · rintro (h | ⟨j', x', h1, h2, h3, h4⟩)
        · exact .inl (.inl h)
        · rcases List.mem_cons.1 h1 with h1 | h1
          · have : j' = j := by omega
            subst this
            rw [hx] at h2; cases h2
            exact .inl (.inr ⟨h3, h4⟩)
          · exact .inr ⟨j', x', h1, h2, h3, h4⟩

theorem step_ok {k : Nat} {N : List rex_node} {fst : Int} {l : List Int} {c : Int} (hM : Mach N) (hk : N.length + 1002 ≤ k) (hl : Stops N l) (hlk : l.length < k) (hlb : l.length ≤ 536870912) :
    ∃ o, F56 k ⟨N, fst⟩ l c = some o ∧ Stops N o ∧ o.length ≤ N.length ∧ ∀ w, (∃ j : Nat, (j : Int) ∈ l ∧ ∃ n, Acc N n j (c :: w)) ↔ ∃ j : Nat, (j : Int) ∈ o ∧ ∃ n, Acc N n j w := by
  have hb := hM.big
  obtain ⟨o, s, e, F⟩ := step_out (fst := fst) (c := c) hM hk hl hlb l.length 0 k _ _ _ (by omega) hlk (Front.nil N)
  refine ⟨o, ?_, fun t ht => by obtain ⟨j, a, b, _⟩ := F.out t ht; exact ⟨j, a, b⟩, by have := F.size; omega, fun w => ?_⟩
  · unfold F56
    rw [if_pos ⟨by omega, by show (N.length : Int) ≤ _; omega⟩]
    show F56_l14 k ⟨N, fst⟩ l c k [] (List.replicate (Int.toNat (N.length : Int)) false) 0 = _
    rw [Int.toNat_natCast]; exact e
  · rw [← front_acc hM F w]
    constructor
    · rintro ⟨j, hj, n, ha⟩
      obtain ⟨j', ej, hst⟩ := hl _ hj
      have : j = j' := by omega
      subst this
      obtain ⟨y, hy, hy2⟩ := hst
      rcases ha.inv with ⟨_, e⟩ | ⟨m, x, c', t, v, rfl, e, h1, h2, h3, h4, h5⟩ | ⟨m, x, t, rfl, h0, h1, h2, h3, h4⟩
      · cases e
      · cases e
        exact ⟨t, .inr ⟨j, x, hj, h1, h3, h4⟩, m, h5⟩
      · rw [hy] at h1; cases h1
        rcases hy2 with h | h
        · rw [h] at h2; cases h2
        · exact absurd h h0
    · rintro ⟨t, h | ⟨j, x, hj, hx, hc, hn⟩, n, ha⟩
      · exact h.elim
      · have hG := hM.good j x hx
        have hs : x.f_some = true := by
          cases h : x.f_some with
          | true => rfl
          | false => obtain ⟨r, hr, _⟩ := hc; rw [hG.2.2.2.1 h] at hr; cases hr
        exact ⟨j, hj, n + 1, .set hx hs hc hn ha⟩

theorem ends_loop {l : List Int} (hl : l.length ≤ 1073741824) : ∀ (d i m : Nat), i + d = l.length → d < m → F57_l0 l m (i : Int) = some (decide ((0 : Int) ∈ l.drop i))
  | 0, i, m + 1, hi, hm => by
    show F57_b0 _ _ _ = _
    unfold F57_b0
    rw [df (by omega), List.drop_eq_nil_of_le (by omega)]; rfl
  | d + 1, i, m + 1, hi, hm => by
    have hil : i < l.length := by omega
    show F57_b0 _ _ _ = _
    unfold F57_b0
    rw [dt (by omega), idx_lt hil]
    simp only [cond, Option.bind_some]
    rw [List.drop_eq_getElem_cons hil]
    by_cases h : l[i] = 0
    · rw [beq_t h, h]; simp
    · rw [beq_f h]
      simp only []
      rw [w64_id (by omega) (by omega), show (i : Int) + 1 = ((i + 1 : Nat) : Int) by omega, ends_loop hl d (i + 1) m (by omega) (by omega)]
      congr 1
      have : (0 : Int) ∈ l[i] :: l.drop (i + 1) ↔ (0 : Int) ∈ l.drop (i + 1) := ⟨fun hh => (List.mem_cons.1 hh).elim (fun e => absurd e.symm h) id, List.mem_cons_of_mem _⟩
      exact decide_eq_decide.2 this.symm

theorem stop_nil {N : List rex_node} {j n : Nat} (h : Stop N j) : Acc N n j [] ↔ j = 0 := by
  constructor
  · intro ha
    obtain ⟨y, hy, hy2⟩ := h
    rcases ha.inv with ⟨e, _⟩ | ⟨m, x, c', t, v, rfl, e, h1, h2, h3, h4, h5⟩ | ⟨m, x, t, rfl, h0, h1, h2, h3, h4⟩
    · exact e
    · cases e
    · rw [hy] at h1; cases h1
      rcases hy2 with h | h
      · rw [h] at h2; cases h2
      · exact h
  · rintro rfl; exact .fin _

theorem match_loop {k : Nat} {N : List rex_node} {fst : Int} {s : List UInt8} (hM : Mach N) (hk : N.length + 1002 ≤ k) (hs : s.length ≤ 4611686018427387904) : ∀ (m i : Nat) (l : List Int), i ≤ s.length → s.length - i < m → validD (s.drop i) = true → Stops N l → l.length ≤ N.length →
    ∃ b, F31_l1 k s ⟨N, fst⟩ m l (i : Int) = some b ∧ (b = true ↔ ∃ j : Nat, (j : Int) ∈ l ∧ ∃ n, Acc N n j (pts (s.drop i)))
  | 0, i, l, _, h, _, _, _ => by omega
  | m + 1, i, l, hi, h, hv, hl, hll => by
    have hb := hM.big
    show ∃ b, F31_b1 _ _ _ _ _ _ = _ ∧ _
    unfold F31_b1
    rcases Nat.lt_or_ge i s.length with hil | hil
    · have hne : s.drop i ≠ [] := fun h => by have := congrArg List.length h; rw [List.length_drop] at this; simp at this; omega
      obtain ⟨hbad, hv'⟩ := valid_step hne hv
      have hle := decodeL_le _ hne
      rw [List.length_drop] at hle
      have hw := decodeL_width (s.drop i)
      rw [dt (by omega), F55_at hil hs]
      simp only [cond, Option.bind_some, nxt, if_neg hbad]
      obtain ⟨o, e, ho, hol, hacc⟩ := step_ok (fst := fst) (c := ((decodeL (s.drop i)).1 : Int)) hM hk hl (by omega) (by omega)
      rw [e]
      simp only [Option.bind_some]
      rw [w64_id (by omega) (by omega), show (i : Int) + ((decodeL (s.drop i)).2 : Nat) = ((i + (decodeL (s.drop i)).2 : Nat) : Int) by omega]
      obtain ⟨b, hb1, hb2⟩ := match_loop (fst := fst) hM hk hs m (i + (decodeL (s.drop i)).2) o (by omega) (by omega) (by rw [← List.drop_drop]; exact hv') ho hol
      refine ⟨b, hb1, hb2.trans ?_⟩
      rw [pts_step hne, ← List.drop_drop]
      exact (hacc _).symm
    · have hd : s.drop i = [] := List.drop_eq_nil_of_le hil
      rw [df (by omega), hd, pts_nil]
      simp only [cond]
      refine ⟨decide ((0 : Int) ∈ l), ?_, ?_⟩
      · have := ends_loop (l := l) (by omega) l.length 0 k (by omega) (by omega)
        unfold F57
        rw [show F57_l0 l k 0 = _ from this, List.drop_zero]; rfl
      · rw [decide_eq_true_iff]
        constructor
        · intro h; exact ⟨0, h, 0, .fin _⟩
        · rintro ⟨j, hj, n, ha⟩
          obtain ⟨j', e, hst⟩ := hl _ hj
          have : j = j' := by omega
          subst this
          have := (stop_nil hst).1 ha
          subst this; exact hj

theorem compile_ok {k : Nat} {r : api_Re} (hk : k ≤ 1048576) (hw : WF r) (hf : fu r ≤ k) (hc : cnt r ≤ 268435456) :
    ∃ (N : List rex_node) (f : Nat), F53 k r = some ⟨N, f⟩ ∧ Mach N ∧ f < N.length ∧ N.length ≤ 1 + cnt r ∧ ∀ w, (∃ n, Acc N n f w) ↔ Lang r w := by
  obtain ⟨N, f, e, A⟩ := add_ok k r hk hw hf [⟨[], false, [], false⟩] 0 0 (by simp) (by simp) (by simp; omega)
  have hle := A.le; have hct := A.cnt
  simp only [List.length_cons, List.length_nil] at hle hct
  have h0 : N[0]? = some ⟨[], false, [], false⟩ := by rw [A.old 0 (by simp)]; rfl
  have hgood : ∀ (i : Nat) (x : rex_node), N[i]? = some x → Good N.length x := fun i x hx => by
    cases i with
    | zero => rw [h0] at hx; cases hx; exact ⟨rfl, (fun t h => by cases h), (fun h => by cases h), (fun _ => rfl), by simp, by simp⟩
    | succ i => exact A.good (i + 1) x (by simp) hx
  refine ⟨N, f, ?_, ⟨hgood, ⟨_, h0, rfl, rfl⟩, by omega⟩, A.lt, by omega, fun w => ?_⟩
  · unfold F53
    rw [show F78 k ⟨[⟨[], false, [], false⟩], 0⟩ r 0 = _ from e]
    simp only [Option.bind_some]
    rw [if_pos]
    rw [List.all_eq_true]
    intro x hx
    obtain ⟨i, hi⟩ := List.mem_iff_getElem?.1 hx
    rw [(hgood i x hi).1]; rfl
  · have ag : Agree [(⟨[], false, [], false⟩ : rex_node)].length N.length N N := fun i _ _ => rfl
    constructor
    · rintro ⟨n, ha⟩
      obtain ⟨u, v, m, rfl, hu, _, hv⟩ := A.sound N ag n w ha
      have : v = [] := by
        rcases hv.inv with ⟨_, e⟩ | ⟨m, x, c', t, v, rfl, e, h1, h2, h3, h4, h5⟩ | ⟨m, x, t, rfl, h0', _⟩
        · exact e
        · rw [h0] at h1; cases h1; cases h2
        · exact absurd rfl h0'
      subst this
      rw [List.append_nil]; exact hu
    · intro h
      obtain ⟨n, hn⟩ := A.full N ag w [] 0 h (.fin _)
      rw [List.append_nil] at hn
      exact ⟨n, hn⟩

/-- Match, of a pattern that may be -/
theorem match_ok {k : Nat} {r : api_Re} {s : List UInt8} (hk : k ≤ 1048576) (hw : WF r) (hf : fu r ≤ k) (hc : cnt r + 1003 ≤ k) (hs : s.length < k) (hm : F30 k r = some true) (hv : validD s = true) :
    ∃ b, F31 k r s = some b ∧ (b = true ↔ Lang r (pts s)) := by
  obtain ⟨N, f, e1, hM, hfl, hN, hacc⟩ := compile_ok (k := k) hk hw hf (by omega)
  obtain ⟨o, ss, e2, F⟩ := begin_ok (k := k) hM hfl (by omega)
  have hfs := F.size
  obtain ⟨b, e3, hb⟩ := match_loop (k := k) (fst := f) (s := s) hM (by omega) (by omega) k 0 o (Nat.zero_le _) (by omega) (by rw [List.drop_zero]; exact hv) (fun t ht => by obtain ⟨j, a, b, _⟩ := F.out t ht; exact ⟨j, a, b⟩) (by omega)
  refine ⟨b, ?_, hb.trans ?_⟩
  · unfold F31
    rw [hm]
    simp only [Option.bind_some, Bool.not_true, cond, F49, F72]
    rw [if_pos (by omega)]
    simp only [Option.bind_some, hv, Bool.not_true, F31_j0, cond, e1, e2]
    exact e3
  · rw [List.drop_zero, ← front_acc hM F, ← hacc]
    constructor
    · rintro ⟨t, rfl, h⟩; exact h
    · intro h; exact ⟨f, rfl, h⟩

/-- Match, of a text that is none -/
theorem match_bad {k : Nat} {r : api_Re} {s : List UInt8} (hs : s.length ≤ 9223372036854775807) {m : Bool} (hm : F30 k r = some m) (hv : validD s = false) : F31 k r s = some false := by
  unfold F31
  rw [hm]
  cases m
  · rfl
  · simp only [Option.bind_some, Bool.not_true, cond, F49, F72]
    rw [if_pos hs]
    simp only [Option.bind_some, hv]; rfl
end Go.Proofs.YthilboheomikjaaGreatDoor
end

section
namespace Go.Proofs.YthilboheomikjaaGreatDoor
open Go.AL Go.Lib
set_option linter.unusedVariables false
set_option linter.unusedSimpArgs false
set_option maxRecDepth 100000

theorem and_byte : ((List.range 256).all fun y => bitsI .and .u8 (y : Int) 192 == ((y / 64 * 64 : Nat) : Int) && bitsI .and .u8 (y : Int) 63 == ((y % 64 : Nat) : Int) && bitsI .and .i64 (w64 (y : Int)) 31 == ((y % 32 : Nat) : Int) &&
    bitsI .and .i64 (w64 (y : Int)) 15 == ((y % 16 : Nat) : Int) && bitsI .and .i64 (w64 (y : Int)) 7 == ((y % 8 : Nat) : Int) && w64 (y : Int) == (y : Int) && w64 ((y % 64 : Nat) : Int) == ((y % 64 : Nat) : Int)) = true := by kernel_rfl

theorem byte_and {y : Nat} (h : y < 256) : bitsI .and .u8 (y : Int) 192 = ((y / 64 * 64 : Nat) : Int) ∧ bitsI .and .u8 (y : Int) 63 = ((y % 64 : Nat) : Int) ∧ bitsI .and .i64 (w64 (y : Int)) 31 = ((y % 32 : Nat) : Int) ∧
    bitsI .and .i64 (w64 (y : Int)) 15 = ((y % 16 : Nat) : Int) ∧ bitsI .and .i64 (w64 (y : Int)) 7 = ((y % 8 : Nat) : Int) ∧ w64 (y : Int) = (y : Int) ∧ w64 ((y % 64 : Nat) : Int) = ((y % 64 : Nat) : Int) := by
  have := List.all_eq_true.1 and_byte y (List.mem_range.2 h)
  simp only [Bool.and_eq_true, beq_iff_eq] at this
  obtain ⟨⟨⟨⟨⟨⟨a, b⟩, c⟩, d⟩, e⟩, f⟩, g⟩ := this
  exact ⟨a, b, c, d, e, f, g⟩

theorem drop_byte {s : List UInt8} {i j : Nat} (h : i + j < s.length) : idxL s ((i : Int) + (j : Int)) = some ((s.drop i).getD j 0) := by
  rw [show (i : Int) + (j : Int) = ((i + j : Nat) : Int) by omega, idx_nat]
  simp [List.getD, List.getElem?_drop, List.getElem?_eq_getElem h]

theorem F67_eq (k : Nat) (c : Int) : F67 k c = some (decide (isPoint c)) := by
  unfold F67 F67_j0 isPoint
  by_cases h1 : c ≥ 0 <;> by_cases h2 : c ≤ 1114111 <;> by_cases h3 : c < 55296 <;> by_cases h4 : c > 57343 <;> simp [h1, h2, h3, h4] <;> omega

theorem l5_step {k : Nat} {s : List UInt8} {i size : Nat} {least : Int} {m : Nat} {c : Int} {j : Nat} (hj : j < size) (hs : size ≤ 4) (hb : i + size ≤ s.length) (hc : 0 ≤ c) (hc2 : c < 1048576) (hl : s.length ≤ 4611686018427387904) :
    F46_l5 k s i size least (m + 1) c j = if ((s.drop i).getD j 0).toNat / 64 = 2 then F46_l5 k s i size least m (c * 64 + ((((s.drop i).getD j 0).toNat % 64 : Nat) : Int)) ((j + 1 : Nat) : Int) else some (-1, 1) := by
  have hy := byte_lt (s.drop i) j
  obtain ⟨e1, e2, _, _, _, _, e7⟩ := byte_and hy
  show F46_b5 _ _ _ _ _ _ _ _ = _
  unfold F46_b5
  rw [dt (by omega), w64_id (x := (i : Int) + (j : Int)) (by omega) (by omega), drop_byte (by omega)]
  simp only [cond, Option.bind_some]
  generalize ((s.drop i).getD j 0).toNat = y at *
  rw [e1, e2, e7]
  by_cases h : y / 64 = 2
  · rw [if_pos h, h, show (((2 * 64 : Nat) : Int) != 128) = false from rfl]
    simp only []
    rw [w64_id (x := c * 64) (by omega) (by omega), w64_id (by omega) (by omega), w64_id (by omega) (by omega)]
    rfl
  · have : (((y / 64 * 64 : Nat) : Int) != 128) = true := by rw [bne_iff_ne]; omega
    rw [this, if_neg h]

theorem l5_end {k : Nat} {s : List UInt8} {i size : Nat} {least : Int} {m : Nat} {c : Int} : F46_l5 k s i size least (m + 1) c size = if c < least ∨ ¬ isPoint c then some (-1, 1) else some (c, (size : Int)) := by
  show F46_b5 _ _ _ _ _ _ _ _ = _
  unfold F46_b5 F46_j6
  rw [df (by omega)]
  simp only [cond, F67_eq, Option.bind_some]
  by_cases h : c < least
  · rw [dt h, if_pos (.inl h)]
  · rw [df h]
    by_cases hp : isPoint c
    · rw [dt hp, if_neg (by simp [h, hp])]; rfl
    · rw [df hp, if_pos (.inr hp)]; rfl

theorem nxtN (l : List UInt8) : nxt l = if (decodeN l.length (l.getD 0 0).toNat (l.getD 1 0).toNat (l.getD 2 0).toNat (l.getD 3 0).toNat) = ((65533, 1) : Nat × Nat) then ((-1, 1) : Int × Int) else
    (((decodeN l.length (l.getD 0 0).toNat (l.getD 1 0).toNat (l.getD 2 0).toNat (l.getD 3 0).toNat).1 : Int), ((decodeN l.length (l.getD 0 0).toNat (l.getD 1 0).toNat (l.getD 2 0).toNat (l.getD 3 0).toNat).2 : Int)) := by
  unfold nxt
  rw [← decodeL_N]
  have : bad l ↔ decodeL l = (65533, 1) := ⟨fun ⟨a, b⟩ => Prod.ext a b, fun h => ⟨by rw [h], by rw [h]⟩⟩
  by_cases h : decodeL l = (65533, 1)
  · rw [if_pos h, if_pos (this.2 h)]
  · rw [if_neg h, if_neg (fun q => h (this.1 q))]

/-- behind the lead byte -/
theorem j4_short {k : Nat} {s : List UInt8} {i size : Nat} {c least : Int} (h : s.length < i + size) (hl : s.length ≤ 4611686018427387904) (hi : i < s.length) (hsz : size ≤ 4) : F46_j4 k s i c size least = some (-1, 1) := by
  unfold F46_j4
  rw [w64_id (by omega) (by omega), dt (by omega)]; rfl
theorem j4_long {k : Nat} {s : List UInt8} {i size : Nat} {c least : Int} (h : i + size ≤ s.length) (hl : s.length ≤ 4611686018427387904) : F46_j4 k s i c size least = F46_l5 k s i size least k c 1 := by
  unfold F46_j4
  rw [w64_id (by omega) (by omega), df (by omega)]; rfl

/-- of two, three, four bytes -/
def fin (D : Int) (least : Int) (size : Int) : Option (Int × Int) := if D < least ∨ ¬ isPoint D then some (-1, 1) else some (D, size)
theorem j4_2 {k : Nat} {s : List UInt8} {i : Nat} {c least : Int} (hc : 0 ≤ c) (hc2 : c < 32) (hl : s.length ≤ 4611686018427387904) (hi : i < s.length) :
    F46_j4 (k + 5) s i c 2 least = if 1 < s.length - i ∧ ((s.drop i).getD 1 0).toNat / 64 = 2 then fin (c * 64 + ((((s.drop i).getD 1 0).toNat % 64 : Nat) : Int)) least 2 else some (-1, 1) := by
  by_cases l1 : i + 2 ≤ s.length
  · refine (j4_long (size := 2) l1 hl).trans ((l5_step (size := 2) (j := 1) (m := k + 4) (by omega) (by omega) l1 hc (by omega) hl).trans ?_)
    by_cases c1 : ((s.drop i).getD 1 0).toNat / 64 = 2
    · rw [if_pos c1, if_pos ⟨by omega, c1⟩]; exact l5_end
    · rw [if_neg c1, if_neg (fun h => c1 h.2)]
  · rw [if_neg (fun h => by omega)]; exact j4_short (size := 2) (by omega) hl hi (by omega)
theorem j4_3 {k : Nat} {s : List UInt8} {i : Nat} {c least : Int} (hc : 0 ≤ c) (hc2 : c < 32) (hl : s.length ≤ 4611686018427387904) (hi : i < s.length) :
    F46_j4 (k + 5) s i c 3 least = if (1 < s.length - i ∧ ((s.drop i).getD 1 0).toNat / 64 = 2) ∧ (2 < s.length - i ∧ ((s.drop i).getD 2 0).toNat / 64 = 2) then
      fin ((c * 64 + ((((s.drop i).getD 1 0).toNat % 64 : Nat) : Int)) * 64 + ((((s.drop i).getD 2 0).toNat % 64 : Nat) : Int)) least 3 else some (-1, 1) := by
  by_cases l1 : i + 3 ≤ s.length
  · refine (j4_long (size := 3) l1 hl).trans ((l5_step (size := 3) (j := 1) (m := k + 4) (by omega) (by omega) l1 hc (by omega) hl).trans ?_)
    by_cases c1 : ((s.drop i).getD 1 0).toNat / 64 = 2
    · rw [if_pos c1]
      refine (l5_step (size := 3) (j := 2) (m := k + 3) (by omega) (by omega) l1 (by omega) (by omega) hl).trans ?_
      by_cases c2 : ((s.drop i).getD 2 0).toNat / 64 = 2
      · rw [if_pos c2, if_pos ⟨⟨by omega, c1⟩, by omega, c2⟩]; exact l5_end
      · rw [if_neg c2, if_neg (fun h => c2 h.2.2)]
    · rw [if_neg c1, if_neg (fun h => c1 h.1.2)]
  · rw [if_neg (fun h => by omega)]; exact j4_short (size := 3) (by omega) hl hi (by omega)
theorem j4_4 {k : Nat} {s : List UInt8} {i : Nat} {c least : Int} (hc : 0 ≤ c) (hc2 : c < 16) (hl : s.length ≤ 4611686018427387904) (hi : i < s.length) :
    F46_j4 (k + 5) s i c 4 least = if (1 < s.length - i ∧ ((s.drop i).getD 1 0).toNat / 64 = 2) ∧ (2 < s.length - i ∧ ((s.drop i).getD 2 0).toNat / 64 = 2) ∧ (3 < s.length - i ∧ ((s.drop i).getD 3 0).toNat / 64 = 2) then
      fin (((c * 64 + ((((s.drop i).getD 1 0).toNat % 64 : Nat) : Int)) * 64 + ((((s.drop i).getD 2 0).toNat % 64 : Nat) : Int)) * 64 + ((((s.drop i).getD 3 0).toNat % 64 : Nat) : Int)) least 4 else some (-1, 1) := by
  by_cases l1 : i + 4 ≤ s.length
  · refine (j4_long (size := 4) l1 hl).trans ((l5_step (size := 4) (j := 1) (m := k + 4) (by omega) (by omega) l1 hc (by omega) hl).trans ?_)
    by_cases c1 : ((s.drop i).getD 1 0).toNat / 64 = 2
    · rw [if_pos c1]
      refine (l5_step (size := 4) (j := 2) (m := k + 3) (by omega) (by omega) l1 (by omega) (by omega) hl).trans ?_
      by_cases c2 : ((s.drop i).getD 2 0).toNat / 64 = 2
      · rw [if_pos c2]
        refine (l5_step (size := 4) (j := 3) (m := k + 2) (by omega) (by omega) l1 (by omega) (by omega) hl).trans ?_
        by_cases c3 : ((s.drop i).getD 3 0).toNat / 64 = 2
        · rw [if_pos c3, if_pos ⟨⟨by omega, c1⟩, ⟨by omega, c2⟩, by omega, c3⟩]; exact l5_end
        · rw [if_neg c3, if_neg (fun h => c3 h.2.2.2)]
      · rw [if_neg c2, if_neg (fun h => c2 h.2.1.2)]
    · rw [if_neg c1, if_neg (fun h => c1 h.1.2)]
  · rw [if_neg (fun h => by omega)]; exact j4_short (size := 4) (by omega) hl hi (by omega)

set_option maxHeartbeats 1000000 in
/-- the document's Next is the library's -/
theorem F46_at {k : Nat} {s : List UInt8} {i : Nat} (hk : 5 ≤ k) (hi : i < s.length) (hs : s.length ≤ 4611686018427387904) : F46 k s (i : Int) = some (nxt (s.drop i)) := by
  obtain ⟨k, rfl⟩ : ∃ q, k = q + 5 := ⟨k - 5, by omega⟩
  have h0 := byte_lt (s.drop i) 0; have h1 := byte_lt (s.drop i) 1; have h2 := byte_lt (s.drop i) 2; have h3 := byte_lt (s.drop i) 3
  obtain ⟨_, _, e3, e4, e5, e6, _⟩ := byte_and h0
  have hn : (s.drop i).length = s.length - i := List.length_drop ..
  have d0 := drop_byte (s := s) (i := i) (j := 0) (by omega)
  rw [show (i : Int) + ((0 : Nat) : Int) = (i : Int) by omega] at d0
  rw [nxtN]
  unfold F46 F46_j0
  rw [df (by omega), df (by omega)]
  simp only [cond]
  rw [d0]
  simp only [Option.bind_some]
  unfold F46_j1 F46_j2 F46_j3
  rw [e3, e4, e5, e6, j4_2 (by omega) (by omega) hs hi, j4_3 (by omega) (by omega) hs hi, j4_4 (by omega) (by omega) hs hi]
  rw [hn]
  generalize ((s.drop i).getD 0 0).toNat = b0 at *
  generalize ((s.drop i).getD 1 0).toNat = b1 at *
  generalize ((s.drop i).getD 2 0).toNat = b2 at *
  generalize ((s.drop i).getD 3 0).toNat = b3 at *
  generalize s.length - i = n at *
  clear e3 e4 e5 e6 d0 hn
  have bad_ : ∀ {x : Option (Int × Int)} {D : Nat × Nat}, D = (65533, 1) → x = some (-1, 1) → x = some (if D = ((65533, 1) : Nat × Nat) then ((-1, 1) : Int × Int) else ((D.1 : Int), (D.2 : Int))) := fun h h' => by rw [h', if_pos h]
  have good_ : ∀ {x : Option (Int × Int)} {D : Nat × Nat} {a b : Nat}, D = (a, b) → b ≠ 1 → x = some ((a : Int), (b : Int)) → x = some (if D = ((65533, 1) : Nat × Nat) then ((-1, 1) : Int × Int) else ((D.1 : Int), (D.2 : Int))) := fun h hb h' => by
    rw [h', h, if_neg (fun q => hb (Prod.ext_iff.1 q).2)]
  by_cases g0 : b0 < 128
  · rw [dt (show ((b0 : Nat) : Int) < 128 by omega)]
    have u : decodeN n b0 b1 b2 b3 = (b0, 1) := by unfold decodeN; rw [if_pos g0]
    rw [u, if_neg (show ¬ ((b0, 1) : Nat × Nat) = (65533, 1) from fun h => by have := (Prod.ext_iff.1 h).1; simp only [] at this; omega)]; rfl
  rw [df (show ¬ ((b0 : Nat) : Int) < 128 by omega)]
  by_cases g1 : b0 < 192
  · rw [df (show ¬ ((b0 : Nat) : Int) ≥ 192 by omega), df (show ¬ ((b0 : Nat) : Int) ≥ 224 by omega), df (show ¬ ((b0 : Nat) : Int) ≥ 240 by omega)]
    exact bad_ (decodeN_bad _ _ _ _ _ (.inl ⟨by omega, by omega⟩)) rfl
  rw [dt (show ((b0 : Nat) : Int) ≥ 192 by omega)]
  by_cases g2 : b0 < 224
  · rw [dt (show ((b0 : Nat) : Int) < 224 by omega)]
    show (if _ then _ else _) = _
    by_cases c1 : 1 < n ∧ b1 / 64 = 2
    · rw [if_pos c1]
      unfold fin
      by_cases c2 : b0 % 32 * 64 + b1 % 64 ≥ 128
      · refine good_ (a := b0 % 32 * 64 + b1 % 64) (b := 2) ?_ (by omega) ?_
        · unfold decodeN; rw [if_neg g0, if_pos ⟨by omega, c1⟩, if_pos c2]
        · rw [if_neg (by unfold isPoint; omega)]; rfl
      · refine bad_ ?_ ?_
        · unfold decodeN; rw [if_neg g0, if_pos ⟨by omega, c1⟩, if_neg c2]
        · rw [if_pos (.inl (by omega))]
    · rw [if_neg c1]
      refine bad_ ?_ rfl
      unfold decodeN; rw [if_neg g0, if_neg (fun h => c1 h.2), if_neg (fun h => by omega), if_neg (fun h => by omega)]
  rw [df (show ¬ ((b0 : Nat) : Int) < 224 by omega), dt (show ((b0 : Nat) : Int) ≥ 224 by omega)]
  by_cases g3 : b0 < 240
  · rw [dt (show ((b0 : Nat) : Int) < 240 by omega)]
    show (if _ then _ else _) = _
    by_cases c1 : (1 < n ∧ b1 / 64 = 2) ∧ (2 < n ∧ b2 / 64 = 2)
    · rw [if_pos c1]
      unfold fin
      by_cases c2 : b0 % 16 * 4096 + b1 % 64 * 64 + b2 % 64 ≥ 2048 ∧ (b0 % 16 * 4096 + b1 % 64 * 64 + b2 % 64 < 55296 ∨ (57344 ≤ b0 % 16 * 4096 + b1 % 64 * 64 + b2 % 64 ∧ b0 % 16 * 4096 + b1 % 64 * 64 + b2 % 64 ≤ 1114111))
      · refine good_ (a := b0 % 16 * 4096 + b1 % 64 * 64 + b2 % 64) (b := 3) ?_ (by omega) ?_
        · unfold decodeN; rw [if_neg g0, if_neg (fun h => by omega), if_pos ⟨by omega, c1⟩, if_pos c2]
        · rw [if_neg (by unfold isPoint; omega)]; congr 2; omega
      · refine bad_ ?_ ?_
        · unfold decodeN; rw [if_neg g0, if_neg (fun h => by omega), if_pos ⟨by omega, c1⟩, if_neg c2]
        · rw [if_pos (by unfold isPoint; omega)]
    · rw [if_neg c1]
      refine bad_ ?_ rfl
      unfold decodeN; rw [if_neg g0, if_neg (fun h => by omega), if_neg (fun h => c1 h.2), if_neg (fun h => by omega)]
  rw [df (show ¬ ((b0 : Nat) : Int) < 240 by omega), dt (show ((b0 : Nat) : Int) ≥ 240 by omega)]
  by_cases g4 : b0 < 248
  · rw [dt (show ((b0 : Nat) : Int) < 248 by omega)]
    show (if _ then _ else _) = _
    by_cases c1 : (1 < n ∧ b1 / 64 = 2) ∧ (2 < n ∧ b2 / 64 = 2) ∧ (3 < n ∧ b3 / 64 = 2)
    · rw [if_pos c1]
      unfold fin
      by_cases c2 : b0 % 8 * 262144 + b1 % 64 * 4096 + b2 % 64 * 64 + b3 % 64 ≥ 65536 ∧ (b0 % 8 * 262144 + b1 % 64 * 4096 + b2 % 64 * 64 + b3 % 64 < 55296 ∨ (57344 ≤ b0 % 8 * 262144 + b1 % 64 * 4096 + b2 % 64 * 64 + b3 % 64 ∧ b0 % 8 * 262144 + b1 % 64 * 4096 + b2 % 64 * 64 + b3 % 64 ≤ 1114111))
      · refine good_ (a := b0 % 8 * 262144 + b1 % 64 * 4096 + b2 % 64 * 64 + b3 % 64) (b := 4) ?_ (by omega) ?_
        · unfold decodeN; rw [if_neg g0, if_neg (fun h => by omega), if_neg (fun h => by omega), if_pos ⟨by omega, c1⟩, if_pos c2]
        · rw [if_neg (by unfold isPoint; omega)]; congr 2; omega
      · refine bad_ ?_ ?_
        · unfold decodeN; rw [if_neg g0, if_neg (fun h => by omega), if_neg (fun h => by omega), if_pos ⟨by omega, c1⟩, if_neg c2]
        · rw [if_pos (by unfold isPoint; omega)]
    · rw [if_neg c1]
      refine bad_ ?_ rfl
      unfold decodeN; rw [if_neg g0, if_neg (fun h => by omega), if_neg (fun h => by omega), if_neg (fun h => c1 h.2)]
  · rw [df (show ¬ ((b0 : Nat) : Int) < 248 by omega)]
    exact bad_ (decodeN_bad _ _ _ _ _ (.inr ⟨by omega, by omega⟩)) rfl

/-- the document's Valid -/
theorem F25_loop {k : Nat} {s : List UInt8} (hk : 5 ≤ k) (hs : s.length ≤ 4611686018427387904) : ∀ (m i : Nat), i ≤ s.length → s.length - i < m → F25_l0 k s m (i : Int) = some (validD (s.drop i))
  | 0, i, _, h => by omega
  | m + 1, i, hi, h => by
    show F25_b0 _ _ _ _ = _
    unfold F25_b0
    rcases Nat.lt_or_ge i s.length with hl | hl
    · have hne : s.drop i ≠ [] := fun h => by have := congrArg List.length h; rw [List.length_drop] at this; simp at this; omega
      have hle := decodeL_le _ hne
      rw [List.length_drop] at hle
      have hw := decodeL_width (s.drop i)
      rw [dt (by omega), F46_at hk hl hs]
      simp only [cond, Option.bind_some]
      unfold nxt
      by_cases hb : bad (s.drop i)
      · rw [if_pos hb, valid_bad hne hb]; rfl
      · rw [if_neg hb, valid_good hne hb, df (by simp only []; omega)]
        (try dsimp only)
        rw [w64_id (by omega) (by omega), show (i : Int) + ((decodeL (s.drop i)).2 : Nat) = ((i + (decodeL (s.drop i)).2 : Nat) : Int) by omega, F25_loop hk hs m _ (by omega) (by omega), List.drop_drop]
    · have : s.drop i = [] := List.drop_eq_nil_of_le hl
      rw [df (by omega), this, validD_nil]; rfl
theorem F25_eq {k : Nat} {s : List UInt8} (hk : 5 ≤ k) (hk2 : s.length < k) (hs : s.length ≤ 4611686018427387904) : F25 k s = some (validD s) := by
  unfold F25
  exact F25_loop hk hs k 0 (Nat.zero_le _) (by omega)
end Go.Proofs.YthilboheomikjaaGreatDoor
end

section
namespace Go.Proofs.YthilboheomikjaaGreatDoor
open Go.AL Go.Lib
set_option linter.unusedVariables false
set_option linter.unusedSimpArgs false
set_option maxRecDepth 100000

theorem idx_z {α : Type} (a : α) (l : List α) : idxL (a :: l) 0 = some a := rfl

theorem sort_one {k : Nat} (hk : 1 ≤ k) (r : api_Range) : F149 k [r] 0 1 = some [r] := by
  obtain ⟨q, rfl⟩ : ∃ q, k = q + 1 := ⟨k - 1, by omega⟩
  unfold F149
  rw [w64_id (by omega) (by omega)]
  show F149_b8 _ _ _ _ _ _ = _
  unfold F149_b8
  rw [df (by omega)]
  simp only [cond]

theorem pdq_one {k : Nat} (hk : 1 ≤ k) (r : api_Range) (z : Int) : F121 k [r] 0 1 z = some [r] := by
  obtain ⟨q, rfl⟩ : ∃ q, k = q + 1 := ⟨k - 1, by omega⟩
  unfold F121
  show F121_b0 _ _ _ _ _ = _
  unfold F121_b0
  rw [w64_id (by omega) (by omega), dt (by omega)]
  simp only [cond, sort_one hk, Option.bind_some]
  rw [if_pos trivial]

theorem u64_one : IntKind.wrap .u64 (1 : Int) = 1 := by simp [IntKind.wrap, IntKind.bits, IntKind.signed]

theorem sorted_one {k : Nat} (hk : 1 ≤ k) (r : api_Range) : F103 k [r] = some [r] := by
  unfold F103 F112
  have h1 : (([r] : List api_Range).length : Int) = 1 := by simp
  rw [h1, u64_one, if_pos (by omega)]
  simp only [Option.bind_some]
  rw [pdq_one hk]
  simp only [Option.bind_some]
  rw [if_pos trivial]

theorem merge_end (m : Nat) (l acc : List api_Range) : F77_l4 l (m + 1) acc (l.length : Int) = some acc := by
  show F77_b4 _ _ _ _ = _
  unfold F77_b4
  rw [df (by omega)]
  rfl
theorem merge_one {k : Nat} (hk : 2 ≤ k) (r : api_Range) : F77_l4 [r] k [] 0 = some [r] := by
  obtain ⟨m, rfl⟩ : ∃ q, k = q + 2 := ⟨k - 2, by omega⟩
  show F77_b4 _ _ _ _ = _
  unfold F77_b4
  rw [dt (by simp), idx_z, df (by simp)]
  simp only [cond, Option.bind_some, F77_j5]
  rw [if_pos (by simp)]
  unfold F77_j6
  rw [w64_id (by omega) (by omega)]
  exact merge_end m [r] [r]
theorem clone_one (k : Nat) (r : api_Range) : F102 k [r] = some [r] := by
  unfold F102
  have h : [r].length ≤ 1073741824 := by simp
  rw [if_pos h]
theorem norm_one {k : Nat} (hk : 2 ≤ k) (r : api_Range) : F77 k [r] = some [r] := by
  unfold F77
  rw [clone_one, Option.bind_some, sorted_one (by omega), Option.bind_some, if_pos rfl, merge_one hk]

theorem mx_l {a b : Int} (h : b ≤ a) : mx a b = a := by unfold mx; rw [if_neg (by omega)]
theorem mx_r {a b : Int} (h : a ≤ b) : mx a b = b := by unfold mx; split <;> omega
theorem mn_l {a b : Int} (h : a ≤ b) : mn a b = a := by unfold mn; rw [if_neg (by omega)]
theorem mn_r {a b : Int} (h : b ≤ a) : mn a b = b := by unfold mn; split <;> omega

def ptsR : List api_Range := [⟨0, 55295⟩, ⟨57344, 1114111⟩]
theorem F59_eq (k : Nat) : F59 k = some ptsR := rfl

theorem meet_step {c : Int} {self8 self11 : List api_Range → Int → Option (List api_Range)} {acc : List api_Range} {j : Nat} {v158 : Int} {a : api_Range} (hj : ptsR[j]? = some a) (ha : acc.length ≤ 1000) :
    F76_b11 self8 self11 ptsR v158 ⟨c, c⟩ acc (j : Int) = self11 (if a.f_Lo ≤ c ∧ c ≤ a.f_Hi then acc ++ [⟨c, c⟩] else acc) ((j + 1 : Nat) : Int) := by
  have hl : j < 2 := (List.getElem?_eq_some_iff.1 hj).1
  have hw : w64 ((j : Int) + 1) = ((j + 1 : Nat) : Int) := w64_id (by omega) (by omega)
  unfold F76_b11
  rw [dt (by show (j : Int) < ((2 : Nat) : Int); omega), idx_nat, hj]
  simp only [cond, Option.bind_some, F76_j12, hw]
  by_cases h : a.f_Lo ≤ c ∧ c ≤ a.f_Hi
  · rw [if_pos h, mx_l h.1, mn_l h.2, dt (Int.le_refl c)]
    simp only [cond]
    rw [if_pos (by simp; omega)]
  · rw [if_neg h, df ?_]
    intro hh
    have h1 : c ≤ mx c a.f_Lo := by unfold mx; split <;> omega
    have h2 : a.f_Lo ≤ mx c a.f_Lo := by unfold mx; split <;> omega
    have h3 : mn c a.f_Hi ≤ c := by unfold mn; split <;> omega
    have h4 : mn c a.f_Hi ≤ a.f_Hi := by unfold mn; split <;> omega
    omega

theorem meet_in {m : Nat} (hm : 3 ≤ m) {c : Int} (hc : isPoint c) (v158 : Int) (self8 : List api_Range → Int → Option (List api_Range)) :
    F76_l11 self8 ptsR v158 ⟨c, c⟩ m [] 0 = self8 [⟨c, c⟩] (w64 (v158 + 1)) := by
  obtain ⟨q, rfl⟩ : ∃ q, m = q + 3 := ⟨m - 3, by omega⟩
  show F76_b11 _ _ _ _ _ _ _ = _
  refine (meet_step (j := 0) (a := ⟨0, 55295⟩) rfl (by simp)).trans ?_
  show F76_b11 _ _ _ _ _ _ _ = _
  refine (meet_step (j := 1) (a := ⟨57344, 1114111⟩) rfl (by split <;> simp)).trans ?_
  show F76_b11 _ _ _ _ _ _ _ = _
  unfold F76_b11
  rw [df (by show ¬ (((1 + 1 : Nat) : Int) < ((2 : Nat) : Int)); omega)]
  simp only [cond]
  unfold isPoint at hc
  congr 1
  by_cases h : c ≤ 55295
  · rw [if_neg (by omega), if_pos (by omega)]; rfl
  · rw [if_pos (by omega), if_neg (by omega)]; rfl

theorem meet_end {k m : Nat} (hk : 2 ≤ k) (hm : 1 ≤ m) (c : Int) : F76_l8 k [⟨c, c⟩] ptsR m [⟨c, c⟩] 1 = some [⟨c, c⟩] := by
  obtain ⟨m, rfl⟩ : ∃ q, m = q + 1 := ⟨m - 1, by omega⟩
  show F76_b8 _ _ _ _ _ _ = _
  unfold F76_b8
  rw [df (by simp)]
  simp only [cond]
  rw [norm_one hk]
  rfl

theorem meet_one {k : Nat} (hk : 4 ≤ k) {c : Int} (hc : isPoint c) : F76 k [⟨c, c⟩] ptsR = some [⟨c, c⟩] := by
  unfold F76
  have e : ∀ m, 2 ≤ m → F76_l8 k [⟨c, c⟩] ptsR m [] 0 = some [⟨c, c⟩] := fun m hm => by
    obtain ⟨m, rfl⟩ : ∃ q, m = q + 1 := ⟨m - 1, by omega⟩
    show F76_b8 _ _ _ _ _ _ = _
    unfold F76_b8
    rw [dt (by simp), idx_z]
    simp only [cond, Option.bind_some]
    rw [meet_in (by omega) hc, w64_id (by omega) (by omega)]
    exact meet_end (by omega) (by omega) c
  exact e k (by omega)

theorem equal_end {m : Nat} (hm : 1 ≤ m) (c : Int) : F75_l0 [⟨c, c⟩] [⟨c, c⟩] m 1 = some true := by
  obtain ⟨m, rfl⟩ : ∃ q, m = q + 1 := ⟨m - 1, by omega⟩
  show F75_b0 _ _ _ _ = _
  unfold F75_b0
  rw [df (by simp)]
  rfl
theorem equal_one {k : Nat} (hk : 2 ≤ k) (c : Int) : F75 k [⟨c, c⟩] [⟨c, c⟩] = some true := by
  unfold F75
  have hz : (((([⟨c, c⟩] : List api_Range).length : Int)) != ((([⟨c, c⟩] : List api_Range).length : Int))) = false := by simp
  rw [hz]
  simp only [cond]
  obtain ⟨q, rfl⟩ : ∃ q, k = q + 1 := ⟨k - 1, by omega⟩
  show F75_b0 _ _ _ _ = _
  unfold F75_b0
  rw [dt (by simp), idx_z]
  simp only [cond, Option.bind_some, beq_self_eq_true, Bool.and_true, Bool.not_true]
  rw [w64_id (by omega) (by omega)]
  exact equal_end (by omega) c

def sg (c : Int) : api_Re := ⟨1, [⟨c, c⟩], [], 0, 0⟩

theorem may_one {k : Nat} (hk : 5 ≤ k) {c d : Int} (hc : isPoint c) (hd : d ≠ 0) : F52 k (sg c) d = some true := by
  obtain ⟨k, rfl⟩ : ∃ q, k = q + 1 := ⟨k - 1, by omega⟩
  have hk' : 4 ≤ k := by omega
  show F52_b _ _ _ _ = _
  unfold F52_b
  rw [beq_f hd]
  simp only [cond]
  have e : ∀ m, 1 ≤ m → F52_l0 (F52 k) k (sg c) d m 0 = some true := fun m hm => by
    obtain ⟨m, rfl⟩ : ∃ q, m = q + 1 := ⟨m - 1, by omega⟩
    show F52_b0 _ _ _ _ _ _ = _
    unfold F52_b0 sg
    rw [df (by simp)]
    simp only [cond]
    rw [beq_t (show (0 : Int) = 0 from rfl)]
    simp only [F52_j1]
    rw [beq_t (show (1 : Int) = 1 from rfl), beq_t (show ((([] : List api_Re).length : Int) = 0) by simp)]
    simp only [cond]
    rw [norm_one (by omega), F59_eq]
    simp only [Option.bind_some]
    rw [meet_one hk' hc]
    simp only [Option.bind_some]
    rw [equal_one (by omega)]
    rfl
  exact e k (by omega)

theorem size_one {k : Nat} (hk : 2 ≤ k) (c : Int) : F32 k (sg c) = some 1 := by
  obtain ⟨k, rfl⟩ : ∃ q, k = q + 1 := ⟨k - 1, by omega⟩
  have e : ∀ m, 1 ≤ m → F32_l4 (F32 k) (sg c) m 0 0 = some 1 := fun m hm => by
    obtain ⟨m, rfl⟩ : ∃ q, m = q + 1 := ⟨m - 1, by omega⟩
    show F32_b4 _ _ _ _ _ = _
    unfold F32_b4 sg
    rw [df (by simp)]
    simp only [cond]
    rw [beq_t (show (1 : Int) = 1 from rfl)]
  exact e k (by omega)

theorem may_loop {k : Nat} {ps : List Int} (hp : ∀ c ∈ ps, isPoint c) (hk : 5 ≤ k) (hlen : ps.length ≤ 1000) (h1 : ps.length ≠ 1) :
    ∀ (d i m : Nat), i + d = ps.length → d < m → F52_l0 (F52 k) k ⟨2, [], ps.map sg, 0, 0⟩ 16 m (i : Int) = some true
  | 0, i, m + 1, hi, hm => by
    show F52_b0 _ _ _ _ _ _ = _
    unfold F52_b0
    rw [df (by simp; omega)]
    simp only [cond]
    rw [show ((0 : Int) == 0) = true from rfl]
    simp only [F52_j1]
    rw [show ((2 : Int) == 1) = false from rfl, show ((2 : Int) == 2) = true from rfl]
    simp only [cond]
    have : (((ps.map sg).length : Int) != 1) = true := by simp; omega
    rw [this]; rfl
  | d + 1, i, m + 1, hi, hm => by
    have hlt : i < ps.length := by omega
    show F52_b0 _ _ _ _ _ _ = _
    unfold F52_b0
    rw [dt (by simp; omega), idx_lt (by simpa using hlt)]
    simp only [cond, Option.bind_some, List.getElem_map]
    rw [may_one hk (hp _ (List.getElem_mem hlt)) (by decide)]
    simp only [Option.bind_some, Bool.not_true, cond]
    rw [w64_id (by omega) (by omega)]
    exact may_loop hp hk hlen h1 d (i + 1) m (by omega) (by omega)

theorem size_loop {k : Nat} {ps : List Int} (hk : 2 ≤ k) (hlen : ps.length ≤ 60) :
    ∀ (d i m : Nat), i + d = ps.length → d < m → F32_l4 (F32 k) ⟨2, [], ps.map sg, 0, 0⟩ m (i : Int) (i : Int) = some ((ps.length : Int) + 1)
  | 0, i, m + 1, hi, hm => by
    show F32_b4 _ _ _ _ _ = _
    unfold F32_b4
    rw [df (by simp; omega)]
    simp only [cond]
    rw [show ((2 : Int) == 1) = false from rfl, show ((2 : Int) == 4) = false from rfl]
    simp only [cond]
    rw [w64_id (by omega) (by omega), mn_l (by omega)]
    congr 1; omega
  | d + 1, i, m + 1, hi, hm => by
    have hlt : i < ps.length := by omega
    show F32_b4 _ _ _ _ _ = _
    unfold F32_b4
    rw [dt (by simp; omega), idx_lt (by simpa using hlt)]
    simp only [cond, Option.bind_some, List.getElem_map]
    rw [show ((2 : Int) == 2) = true from rfl]
    simp only [F32_j5, cond, size_one hk, Option.bind_some, F32_j6]
    rw [w64_id (by omega) (by omega), mn_l (by omega)]
    exact size_loop hk hlen d (i + 1) m (by omega) (by omega)

/-- a text's own pattern -/
def mkQ (ps : List Int) : api_Re := if h : ps.length = 1 then sg (ps[0]'(by omega)) else ⟨2, [], ps.map sg, 0, 0⟩

theorem mkQ_may {k : Nat} {ps : List Int} (hp : ∀ c ∈ ps, isPoint c) (hlen : ps.length ≤ 60) (hk : 100 ≤ k) : F30 k (mkQ ps) = some true := by
  unfold F30 mkQ
  split
  · rename_i h
    rw [may_one (by omega) (hp _ (List.getElem_mem _)) (by decide)]
    simp only [Option.bind_some, cond]
    rw [size_one (by omega)]
    simp only [Option.bind_some, F30_j0]
    rw [dt (by omega)]
  · rename_i h
    obtain ⟨q, rfl⟩ : ∃ q, k = q + 1 := ⟨k - 1, by omega⟩
    have e : F52 (q + 1) ⟨2, [], ps.map sg, 0, 0⟩ 16 = some true := by
      show F52_b _ _ _ _ = _
      unfold F52_b
      rw [beq_f (show ¬ (16 : Int) = 0 by omega)]
      simp only [cond]
      exact may_loop hp (by omega) (by omega) h ps.length 0 _ (by omega) (by omega)
    have e2 : F32 (q + 1) ⟨2, [], ps.map sg, 0, 0⟩ = some ((ps.length : Int) + 1) := size_loop (by omega) hlen ps.length 0 _ (by omega) (by omega)
    rw [e]
    simp only [Option.bind_some, cond]
    rw [e2]
    simp only [Option.bind_some, F30_j0]
    rw [dt (by omega)]

theorem sg_lang (c : Int) (w : List Int) : Lang (sg c) w ↔ w = [c] := by
  unfold sg
  rw [Lang_mk]
  constructor
  · rintro (⟨_, d, rfl, r, hr, h1, h2⟩ | ⟨h, _⟩ | ⟨h, _⟩ | ⟨h, _⟩)
    · simp only [List.mem_singleton] at hr
      subst hr
      simp only at h1 h2
      rw [show d = c by omega]
    · exact absurd h (by decide)
    · exact absurd h (by decide)
    · exact absurd h (by decide)
  · rintro rfl
    exact .inl ⟨rfl, c, rfl, ⟨c, c⟩, by simp, Int.le_refl _, Int.le_refl _⟩

theorem seq_lang : ∀ (ps w : List Int), LSeq (ps.map sg) w ↔ w = ps
  | [], w => by simp [LSeq]
  | c :: ps, w => by
    simp only [List.map_cons, LSeq]
    constructor
    · rintro ⟨u, v, rfl, h1, h2⟩
      rw [(sg_lang c u).1 h1, (seq_lang ps v).1 h2]; rfl
    · rintro rfl
      exact ⟨[c], ps, rfl, (sg_lang _ _).2 rfl, (seq_lang ps ps).2 rfl⟩

theorem mkQ_lang (ps w : List Int) : Lang (mkQ ps) w ↔ w = ps := by
  unfold mkQ
  split
  · rename_i h
    rw [sg_lang]
    obtain ⟨c, rfl⟩ := List.length_eq_one_iff.1 h
    rfl
  · rw [Lang_mk]
    constructor
    · rintro (⟨h, _⟩ | ⟨_, h⟩ | ⟨h, _⟩ | ⟨h, _⟩)
      · exact absurd h (by decide)
      · exact (seq_lang _ _).1 h
      · exact absurd h (by decide)
      · exact absurd h (by decide)
    · intro h; exact .inr (.inl ⟨rfl, (seq_lang _ _).2 h⟩)

theorem sg_wf (c : Int) : WF (sg c) := by
  unfold sg WF WFL
  exact ⟨⟨.inl rfl, fun h => absurd (show (1 : Int) = 4 from h) (by decide), by simp, by simp⟩, trivial⟩
theorem sgs_wf (ps : List Int) : WFL (ps.map sg) := by
  induction ps with
  | nil => exact trivial
  | cons c ps ih => exact ⟨sg_wf c, ih⟩
theorem mkQ_wf {ps : List Int} (h : ps.length ≤ 1000) : WF (mkQ ps) := by
  unfold mkQ
  split
  · exact sg_wf _
  · exact ⟨⟨.inr (.inl rfl), fun h' => absurd (show (2 : Int) = 4 from h') (by decide), by simp, by simpa using h⟩, sgs_wf ps⟩
theorem sgs_fu (ps : List Int) : fuL (ps.map sg) ≤ 31 := by
  induction ps with
  | nil => simp [fuL]
  | cons c ps ih => simp only [List.map_cons, fuL]; have : fu (sg c) = 31 := rfl; omega
theorem sgs_cnt (ps : List Int) : cntL (ps.map sg) = ps.length := by
  induction ps with
  | nil => rfl
  | cons c ps ih => simp only [List.map_cons, cntL, List.length_cons, ih]; have : cnt (sg c) = 1 := rfl; omega
theorem mkQ_fu (ps : List Int) : fu (mkQ ps) ≤ ps.length + 100 := by
  unfold mkQ
  split
  · have : ∀ c, fu (sg c) = 31 := fun c => rfl
    rw [this]; omega
  · simp only [fu, List.length_map]; have := sgs_fu ps; omega
theorem mkQ_cnt (ps : List Int) : cnt (mkQ ps) ≤ ps.length + 1 := by
  unfold mkQ
  split
  · have : ∀ c, cnt (sg c) = 1 := fun c => rfl
    rw [this]; omega
  · simp only [cnt, sgs_cnt]
    rw [if_neg (by decide), if_pos trivial]; omega
end Go.Proofs.YthilboheomikjaaGreatDoor
end

section
namespace Go.Proofs.YthilboheomikjaaGreatDoor
open Go.AL Go.RowKit
set_option linter.unusedVariables false

/-- what rex's reader throws -/
def badV : Value := .iface 70 (.agg #[])

/-- strings.ContainsRune, of an ASCII one -/
def F141 (k : Nat) (s : List UInt8) (r : Int) : Option Bool := if 0 ≤ r ∧ r < 128 then some (decide (0 ≤ Lib.indexByte s r.toNat.toUInt8)) else none
theorem F141_ok (k : Nat) (v0 : List UInt8) (v1 : Int) (r : Bool) (hF : F141 k v0 v1 = some r) : Sim Tryz.prog GL0 141 [one (.str v0), one (.int .i32 v1)] [] (one (.bool r)) [] := by
  obtain ⟨hl, hF⟩ := if_some hF
  obtain rfl := Option.some.inj hF
  refine sim_below fun w I G vs hs ha => ?_
  obtain ⟨vs, rfl, hb⟩ := as_str ha; clear ha; have ha := hb; clear hb
  obtain ⟨vs, rfl, hb⟩ := as_int ha; clear ha; have ha := hb; clear hb
  obtain rfl := as_nil ha
  refine Calls.imp (Any.strings_ContainsRune_ascii Tryz.lays151 ⟨v0.toArray⟩ v1 w hl.1 hl.2) ?_
  rintro e w' ⟨rfl, rfl⟩
  exact ⟨_, rfl, fun _ _ _ _ => ⟨_, rfl, .bool _⟩, .refl _ _⟩
end Go.Proofs.YthilboheomikjaaGreatDoor
end

section
namespace Go.Proofs.YthilboheomikjaaGreatDoor
open Go.AL
set_option linter.unusedVariables false
set_option linter.unusedSimpArgs false
set_option maxRecDepth 100000

structure rex_reader where
  f_s : List UInt8
  f_at : Int
  f_over : Bool
def e_rex_reader (x : rex_reader) : List PV := [.str x.f_s, .int .i64 x.f_at, .bool x.f_over]
theorem len_rex_reader (l : List rex_reader) : ∀ es, es ∈ l.map e_rex_reader → es.length = 3 := fun es h => by obtain ⟨y, _, rfl⟩ := List.mem_map.1 h; rfl
/-!   entrepot rex.reader .is -/
def F97 (k : Nat) (v0 : rex_reader) (v1 : List UInt8) : Option Bool :=
  (if (0 : Int) ≤ v0.f_at ∧ (v0.f_at : Int) ≤ (v0.f_s.length : Int) ∧ (v0.f_s.length : Int) ≤ (v0.f_s.length : Int) then (F116 k ((v0.f_s.take (Int.toNat (v0.f_s.length : Int))).drop (Int.toNat v0.f_at)) v1).bind fun y102 => (some y102) else none)
theorem F97_ok (k : Nat) (v0 : rex_reader) (v1 : List UInt8) (r : Bool) (hF : F97 k v0 v1 = some r) : Sim Tryz.prog GL0 97 [.val false [.ptr 0 1 0 0], one (.str v1)] [.box (pvL (e_rex_reader v0))] (one (.bool r)) [.box (pvL (e_rex_reader v0))] := by
  refine sim_of [0] Tryz.func97 rfl (by kernel_rfl) (by kernel_rfl) ?_
  show WA _ _ 16 _ _ _
  refine WA.seq ?_
  refine WA.reg [0, 1] [0] [] (env' := [(0, .val false [.ptr 0 1 0 0]), (1, one (.str v1))]) (os' := [(0, .box (pvL (e_rex_reader v0)))]) (O := []) (by kernel_rfl) (sound _ _) trivial ?_
  refine WA.seq ?_
  obtain ⟨hc101, hF⟩ := if_some hF
  obtain ⟨y102, hy102, hF⟩ := bind_some hF
  refine WA.regD (by kernel_rfl) [4] [0] [(10, .callR [] (one (.bool y102)))] (env' := [(4, one (.bool y102))]) (os' := [(0, .box (pvL (e_rex_reader v0)))]) (O := [(0 : Int) ≤ v0.f_at, (v0.f_at : Int) ≤ (v0.f_s.length : Int), (v0.f_s.length : Int) ≤ (v0.f_s.length : Int), Sim Tryz.prog GL0 116 [one (.str ((v0.f_s.take (Int.toNat (v0.f_s.length : Int))).drop (Int.toNat v0.f_at))), one (.str v1)] [] (one (.bool y102)) [], ([] : List Nat).Nodup]) (by kernel_rfl) (by kernel_rfl) (sound _ _) ⟨hc101.1, hc101.2.1, hc101.2.2, (F116_ok k _ _ _ hy102), (by decide), trivial⟩ ?_
  refine WA.ret ?_
  obtain rfl := Option.some.inj hF
  exact out_ret (one (.bool y102)) [.box (pvL (e_rex_reader v0))] (by kernel_rfl) (by kernel_rfl) (by kernel_rfl) (by kernel_rfl) (by decide) rfl rfl
/-!   entrepot rex.reader .take -/
def F71 (k : Nat) (v0 : rex_reader) (v1 : List UInt8) : Option (Bool × rex_reader) :=
  (F97 k v0 v1).bind fun y101 => (cond (!y101) ((some (false, v0))) ((((some (true, ({ v0 with f_at := (w64 (v0.f_at + (v1.length : Int))) } : rex_reader)))))))
theorem F71_ok (k : Nat) (v0 : rex_reader) (v1 : List UInt8) (r : Bool × rex_reader) (hF : F71 k v0 v1 = some r) : Sim Tryz.prog GL0 71 [.val false [.ptr 0 1 0 0], one (.str v1)] [.box (pvL (e_rex_reader v0))] (one (.bool r.1)) [.box (pvL (e_rex_reader r.2))] := by
  refine sim_of [0] Tryz.func71 rfl (by kernel_rfl) (by kernel_rfl) ?_
  show WA _ _ 19 _ _ _
  refine WA.seq ?_
  refine WA.reg [0, 1] [0] [] (env' := [(0, .val false [.ptr 0 1 0 0]), (1, one (.str v1))]) (os' := [(0, .box (pvL (e_rex_reader v0)))]) (O := []) (by kernel_rfl) (sound _ _) trivial ?_
  refine WA.seq ?_
  refine WA.seq ?_
  obtain ⟨y101, hy101, hF⟩ := bind_some hF
  refine WA.reg [0, 1, 8] [0] [(2, .callR [0] (one (.bool y101)))] (env' := [(0, .val false [.ptr 0 1 0 0]), (1, one (.str v1)), (8, one (.bool (!y101)))]) (os' := [(0, .box (pvL (e_rex_reader v0)))]) (O := [Sim Tryz.prog GL0 97 [.val false [.ptr 0 1 0 0], one (.str v1)] [.box (pvL (e_rex_reader v0))] (one (.bool y101)) [.box (pvL (e_rex_reader v0))], ([0] : List Nat).Nodup]) (by kernel_rfl) (sound _ _) ⟨(F97_ok k _ _ _ hy101), (by decide), trivial⟩ ?_
  refine WA.cond (b := (!y101)) rfl (fun hb102 => ?_) (fun hb102 => ?_)
  · have hF := cond_t hF hb102
    refine WA.seq ?_
    refine WA.reg [4] [0] [] (env' := [(4, one (.bool false))]) (os' := [(0, .box (pvL (e_rex_reader v0)))]) (O := []) (by kernel_rfl) (sound _ _) trivial ?_
    refine WA.ret ?_
    obtain rfl := Option.some.inj hF
    exact out_ret (one (.bool false)) [.box (pvL (e_rex_reader v0))] (by kernel_rfl) (by kernel_rfl) (by kernel_rfl) (by kernel_rfl) (by decide) rfl rfl
  · have hF := cond_f hF hb102
    refine WA.skip ?_
    refine WA.seq ?_
    refine WA.reg [] [0] [] (env' := []) (os' := [(0, .box (pvL (e_rex_reader ({ v0 with f_at := (w64 (v0.f_at + (v1.length : Int))) } : rex_reader))))]) (O := []) (by kernel_rfl) (sound _ _) trivial ?_
    refine WA.seq ?_
    refine WA.reg [4] [0] [] (env' := [(4, one (.bool true))]) (os' := [(0, .box (pvL (e_rex_reader ({ v0 with f_at := (w64 (v0.f_at + (v1.length : Int))) } : rex_reader))))]) (O := []) (by kernel_rfl) (sound _ _) trivial ?_
    refine WA.ret ?_
    obtain rfl := Option.some.inj hF
    exact out_ret (one (.bool true)) [.box (pvL (e_rex_reader ({ v0 with f_at := (w64 (v0.f_at + (v1.length : Int))) } : rex_reader)))] (by kernel_rfl) (by kernel_rfl) (by kernel_rfl) (by kernel_rfl) (by decide) rfl rfl
/-!   entrepot rex.reader .next -/
def F140_j0 (v0 : rex_reader) (y101 : Int × Int) (v103 : Bool) : Option (Option (Int × rex_reader)) :=
  cond v103 (some none) ((((some (some (y101.1, ({ v0 with f_at := (w64 (v0.f_at + y101.2)) } : rex_reader)))))))
def F140 (k : Nat) (v0 : rex_reader) : Option (Option (Int × rex_reader)) :=
  (F55 k v0.f_s v0.f_at).bind fun y101 => (cond (y101.2 == 0) ((F140_j0 v0 y101 true)) ((F140_j0 v0 y101 (decide (y101.1 < 0)))))
theorem F140_ok (k : Nat) (v0 : rex_reader) (r : Option (Int × rex_reader)) (hF : F140 k v0 = some r) : SimP Tryz.prog GL0 badV 140 [.val false [.ptr 0 1 0 0]] [.box (pvL (e_rex_reader v0))] (r.map fun r => (one (.int .i64 r.1), [.box (pvL (e_rex_reader r.2))])) := by
  refine simP_of [0] Tryz.func140 rfl (by kernel_rfl) (by kernel_rfl) ?_
  show WA _ _ 35 _ _ _
  refine WA.seq ?_
  refine WA.reg [0] [0] [] (env' := [(0, .val false [.ptr 0 1 0 0])]) (os' := [(0, .box (pvL (e_rex_reader v0)))]) (O := []) (by kernel_rfl) (sound _ _) trivial ?_
  refine WA.seq ?_
  obtain ⟨y101, hy101, hF⟩ := bind_some hF
  refine WA.regD (by kernel_rfl) [0, 3, 4] [0] [(8, .callR [] (.tup [(false, [.pv (.int .i64 y101.1)]), (false, [.pv (.int .i64 y101.2)])]))] (env' := [(0, .val false [.ptr 0 1 0 0]), (3, one (.int .i64 y101.1)), (4, one (.int .i64 y101.2))]) (os' := [(0, .box (pvL (e_rex_reader v0)))]) (O := [Sim Tryz.prog GL0 55 [one (.str v0.f_s), one (.int .i64 v0.f_at)] [] (.tup [(false, [.pv (.int .i64 y101.1)]), (false, [.pv (.int .i64 y101.2)])]) [], ([] : List Nat).Nodup]) (by kernel_rfl) (by kernel_rfl) (sound _ _) ⟨(F55_ok k _ _ _ hy101), (by decide), trivial⟩ ?_
  refine WA.seq ?_
  refine WA.join (fun s_ => ∃ (v103 : Bool), pickE s_.env [0, 3, 4, 22] = [(0, .val false [.ptr 0 1 0 0]), (3, one (.int .i64 y101.1)), (4, one (.int .i64 y101.2)), (22, one (.bool v103))] ∧ pickE s_.os [0] = [(0, .box (pvL (e_rex_reader v0)))] ∧ F140_j0 v0 y101 v103 = some r) ?_ ?_
  · rintro s_ ⟨v103, he, ho, hF⟩
    refine WA.keep _ _ he ho ?_
    clear he ho
    refine WA.cond (b := v103) rfl (fun hb104 => ?_) (fun hb104 => ?_)
    · have hF := cond_t hF hb104
      refine WA.bad [] (t := 70) (env1 := []) (os1 := [(0, .box (pvL (e_rex_reader v0)))]) (O := []) (by kernel_rfl) (sound _ _) trivial ?_
      obtain rfl := Option.some.inj hF
      exact ⟨rfl, [(e_rex_reader v0)], by kernel_rfl, rfl⟩
    · have hF := cond_f hF hb104
      refine WA.skip ?_
      refine WA.seq ?_
      refine WA.reg [3] [0] [] (env' := [(3, one (.int .i64 y101.1))]) (os' := [(0, .box (pvL (e_rex_reader ({ v0 with f_at := (w64 (v0.f_at + y101.2)) } : rex_reader))))]) (O := []) (by kernel_rfl) (sound _ _) trivial ?_
      refine WA.seq ?_
      refine WA.reg [2] [0] [] (env' := [(2, one (.int .i64 y101.1))]) (os' := [(0, .box (pvL (e_rex_reader ({ v0 with f_at := (w64 (v0.f_at + y101.2)) } : rex_reader))))]) (O := []) (by kernel_rfl) (sound _ _) trivial ?_
      refine WA.ret ?_
      obtain rfl := Option.some.inj hF
      exact out_ret (one (.int .i64 y101.1)) [.box (pvL (e_rex_reader ({ v0 with f_at := (w64 (v0.f_at + y101.2)) } : rex_reader)))] (by kernel_rfl) (by kernel_rfl) (by kernel_rfl) (by kernel_rfl) (by decide) rfl rfl
  · rcases Bool.eq_false_or_eq_true (y101.2 == 0) with hb102 | hb102
    · have hF := cond_t hF hb102
      refine WA.reg [0, 3, 4, 22] [0] [(2, .bool true)] (env' := [(0, .val false [.ptr 0 1 0 0]), (3, one (.int .i64 y101.1)), (4, one (.int .i64 y101.2)), (22, one (.bool true))]) (os' := [(0, .box (pvL (e_rex_reader v0)))]) (O := [(y101.2 == 0) = true]) (by kernel_rfl) (sound _ _) ⟨hb102, trivial⟩ ?_
      exact ⟨true, by kernel_rfl, by kernel_rfl, hF⟩
    · have hF := cond_f hF hb102
      refine WA.reg [0, 3, 4, 22] [0] [(2, .bool false)] (env' := [(0, .val false [.ptr 0 1 0 0]), (3, one (.int .i64 y101.1)), (4, one (.int .i64 y101.2)), (22, one (.bool (decide (y101.1 < 0))))]) (os' := [(0, .box (pvL (e_rex_reader v0)))]) (O := [(y101.2 == 0) = false]) (by kernel_rfl) (sound _ _) ⟨hb102, trivial⟩ ?_
      exact ⟨(decide (y101.1 < 0)), by kernel_rfl, by kernel_rfl, hF⟩
/-!   entrepot rex.reader .digits -/
def F142_j5 (y128 : Int) (v130 : rex_reader) : Option (Option (Int × rex_reader)) :=
  (some (some (y128, v130)))
def F142_j4 (k : Nat) (v0 : rex_reader) (v116 : rex_reader) (v125 : Bool) : Option (Option (Int × rex_reader)) :=
  cond v125 (some none) ((if (0 : Int) ≤ v0.f_at ∧ (v0.f_at : Int) ≤ v116.f_at ∧ v116.f_at ≤ (v116.f_s.length : Int) then (F172 k ((v116.f_s.take (Int.toNat v116.f_at)).drop (Int.toNat v0.f_at))).bind fun y128 => (cond v116.f_over ((F142_j5 y128 ({ v116 with f_over := true } : rex_reader))) ((F142_j5 y128 ({ v116 with f_over := (decide (y128 > 20)) } : rex_reader)))) else none))
def F142_j3 (k : Nat) (self2 : rex_reader → Option (Option (Int × rex_reader))) (v0 : rex_reader) (v116 : rex_reader) (v122 : Bool) : Option (Option (Int × rex_reader)) :=
  cond v122 ((self2 ({ v116 with f_at := (w64 (v116.f_at + 1)) } : rex_reader))) ((cond (v116.f_at == v0.f_at) ((F142_j4 k v0 v116 true)) ((F142_j4 k v0 v116 (decide (v116.f_at > (w64 (v0.f_at + 3))))))))
def F142_b2 (k : Nat) (self2 : rex_reader → Option (Option (Int × rex_reader))) (v0 : rex_reader) (v116 : rex_reader) : Option (Option (Int × rex_reader)) :=
  cond (decide (v116.f_at < (v116.f_s.length : Int))) (cond (decide (v116.f_at < (w64 (v0.f_at + 4)))) ((idxL v116.f_s v116.f_at).bind fun y119 => cond (decide ((y119.toNat : Int) ≥ 48)) ((idxL v116.f_s v116.f_at).bind fun y121 => (F142_j3 k self2 v0 v116 (decide ((y121.toNat : Int) ≤ 57)))) ((F142_j3 k self2 v0 v116 false))) ((F142_j3 k self2 v0 v116 false))) ((F142_j3 k self2 v0 v116 false))
def F142_l2 (k : Nat) (v0 : rex_reader) : Nat → rex_reader → Option (Option (Int × rex_reader))
  | 0, _ => none
  | m_ + 1, v116 => F142_b2 k (F142_l2 k v0 m_) v0 v116
def F142 (k : Nat) (v0 : rex_reader) : Option (Option (Int × rex_reader)) :=
  ((F142_l2 k v0 k v0))
theorem F142_ok (k : Nat) (v0 : rex_reader) (r : Option (Int × rex_reader)) (hF : F142 k v0 = some r) : SimP Tryz.prog GL0 badV 142 [.val false [.ptr 0 1 0 0]] [.box (pvL (e_rex_reader v0))] (r.map fun r => (one (.int .i64 r.1), [.box (pvL (e_rex_reader r.2))])) := by
  refine simP_of [0] Tryz.func142 rfl (by kernel_rfl) (by kernel_rfl) ?_
  show WA _ _ 103 _ _ _
  refine WA.seq ?_
  refine WA.reg [0] [0] [] (env' := [(0, .val false [.ptr 0 1 0 0])]) (os' := [(0, .box (pvL (e_rex_reader v0)))]) (O := []) (by kernel_rfl) (sound _ _) trivial ?_
  refine WA.seq ?_
  refine WA.reg [0, 3] [0] [] (env' := [(0, .val false [.ptr 0 1 0 0]), (3, one (.int .i64 v0.f_at))]) (os' := [(0, .box (pvL (e_rex_reader v0)))]) (O := []) (by kernel_rfl) (sound _ _) trivial ?_
  refine WA.seq ?_
  refine WA.block ?_
  refine WA.loop (fun m s_ => ∃ (v116 : rex_reader), pickE s_.env [0, 3] = [(0, .val false [.ptr 0 1 0 0]), (3, one (.int .i64 v0.f_at))] ∧ pickE s_.os [0] = [(0, .box (pvL (e_rex_reader v116)))] ∧ F142_l2 k v0 m v116 = some r) k ⟨v0, by kernel_rfl, by kernel_rfl, hF⟩ ?_
  clear hF
  rintro m2 s_ ⟨v116, he, ho, hF⟩
  refine WA.keep _ _ he ho ?_
  clear he ho
  cases m2 with
  | zero => cases hF
  | succ m2 =>
    obtain ⟨self2, hself2⟩ : ∃ g, g = F142_l2 k v0 m2 := ⟨_, rfl⟩
    have hF : F142_b2 k self2 v0 v116 = some r := by first | (rw [hself2]; exact hF) | exact hF
    refine WA.seq ?_
    refine WA.join (fun s_ => ∃ (v122 : Bool), pickE s_.env [0, 3, 52] = [(0, .val false [.ptr 0 1 0 0]), (3, one (.int .i64 v0.f_at)), (52, one (.bool v122))] ∧ pickE s_.os [0] = [(0, .box (pvL (e_rex_reader v116)))] ∧ F142_j3 k self2 v0 v116 v122 = some r) ?_ ?_
    · rintro s_ ⟨v122, he, ho, hF⟩
      refine WA.keep _ _ he ho ?_
      clear he ho
      refine WA.cond (b := v122) rfl (fun hb123 => ?_) (fun hb123 => ?_)
      · have hF := cond_t hF hb123
        refine WA.skip ?_
        refine WA.block ?_
        refine WA.reg [0, 3] [0] [] (env' := [(0, .val false [.ptr 0 1 0 0]), (3, one (.int .i64 v0.f_at))]) (os' := [(0, .box (pvL (e_rex_reader ({ v116 with f_at := (w64 (v116.f_at + 1)) } : rex_reader))))]) (O := []) (by kernel_rfl) (sound _ _) trivial ?_
        exact ⟨m2, Nat.lt_succ_self _, ({ v116 with f_at := (w64 (v116.f_at + 1)) } : rex_reader), by kernel_rfl, by kernel_rfl, by rw [hself2] at hF; exact hF⟩
      · have hF := cond_f hF hb123
        refine WA.exit ?_
        refine WA.seq ?_
        refine WA.join (fun s_ => ∃ (v125 : Bool), pickE s_.env [0, 3, 74] = [(0, .val false [.ptr 0 1 0 0]), (3, one (.int .i64 v0.f_at)), (74, one (.bool v125))] ∧ pickE s_.os [0] = [(0, .box (pvL (e_rex_reader v116)))] ∧ F142_j4 k v0 v116 v125 = some r) ?_ ?_
        · rintro s_ ⟨v125, he, ho, hF⟩
          refine WA.keep _ _ he ho ?_
          clear he ho
          refine WA.cond (b := v125) rfl (fun hb126 => ?_) (fun hb126 => ?_)
          · have hF := cond_t hF hb126
            refine WA.bad [] (t := 70) (env1 := []) (os1 := [(0, .box (pvL (e_rex_reader v116)))]) (O := []) (by kernel_rfl) (sound _ _) trivial ?_
            obtain rfl := Option.some.inj hF
            exact ⟨rfl, [(e_rex_reader v116)], by kernel_rfl, rfl⟩
          · have hF := cond_f hF hb126
            refine WA.skip ?_
            refine WA.seq ?_
            obtain ⟨hc127, hF⟩ := if_some hF
            obtain ⟨y128, hy128, hF⟩ := bind_some hF
            refine WA.regD (by kernel_rfl) [0, 4] [0] [(10, .callR [] (.tup [(false, [.pv (.int .i64 y128)]), (false, [.pv .nilif])]))] (env' := [(0, .val false [.ptr 0 1 0 0]), (4, one (.int .i64 y128))]) (os' := [(0, .box (pvL (e_rex_reader v116)))]) (O := [(0 : Int) ≤ v0.f_at, (v0.f_at : Int) ≤ v116.f_at, v116.f_at ≤ (v116.f_s.length : Int), Sim Tryz.prog GL0 172 [one (.str ((v116.f_s.take (Int.toNat v116.f_at)).drop (Int.toNat v0.f_at)))] [] (.tup [(false, [.pv (.int .i64 y128)]), (false, [.pv .nilif])]) [], ([] : List Nat).Nodup]) (by kernel_rfl) (by kernel_rfl) (sound _ _) ⟨hc127.1, hc127.2.1, hc127.2.2, (F172_ok k _ _ hy128), (by decide), trivial⟩ ?_
            refine WA.join (fun s_ => ∃ (v130 : rex_reader), pickE s_.env [4] = [(4, one (.int .i64 y128))] ∧ pickE s_.os [0] = [(0, .box (pvL (e_rex_reader v130)))] ∧ F142_j5 y128 v130 = some r) ?_ ?_
            · rintro s_ ⟨v130, he, ho, hF⟩
              refine WA.keep _ _ he ho ?_
              clear he ho
              refine WA.seq ?_
              refine WA.reg [2] [0] [] (env' := [(2, one (.int .i64 y128))]) (os' := [(0, .box (pvL (e_rex_reader v130)))]) (O := []) (by kernel_rfl) (sound _ _) trivial ?_
              refine WA.ret ?_
              obtain rfl := Option.some.inj hF
              exact out_ret (one (.int .i64 y128)) [.box (pvL (e_rex_reader v130))] (by kernel_rfl) (by kernel_rfl) (by kernel_rfl) (by kernel_rfl) (by decide) rfl rfl
            · rcases Bool.eq_false_or_eq_true v116.f_over with hb129 | hb129
              · have hF := cond_t hF hb129
                refine WA.reg [4] [0] [(5, .bool true)] (env' := [(4, one (.int .i64 y128))]) (os' := [(0, .box (pvL (e_rex_reader ({ v116 with f_over := true } : rex_reader))))]) (O := [v116.f_over = true]) (by kernel_rfl) (sound _ _) ⟨hb129, trivial⟩ ?_
                exact ⟨({ v116 with f_over := true } : rex_reader), by kernel_rfl, by kernel_rfl, hF⟩
              · have hF := cond_f hF hb129
                refine WA.reg [4] [0] [(5, .bool false)] (env' := [(4, one (.int .i64 y128))]) (os' := [(0, .box (pvL (e_rex_reader ({ v116 with f_over := (decide (y128 > 20)) } : rex_reader))))]) (O := [v116.f_over = false]) (by kernel_rfl) (sound _ _) ⟨hb129, trivial⟩ ?_
                exact ⟨({ v116 with f_over := (decide (y128 > 20)) } : rex_reader), by kernel_rfl, by kernel_rfl, hF⟩
        · rcases Bool.eq_false_or_eq_true (v116.f_at == v0.f_at) with hb124 | hb124
          · have hF := cond_t hF hb124
            refine WA.reg [0, 3, 74] [0] [(6, .bool true)] (env' := [(0, .val false [.ptr 0 1 0 0]), (3, one (.int .i64 v0.f_at)), (74, one (.bool true))]) (os' := [(0, .box (pvL (e_rex_reader v116)))]) (O := [(v116.f_at == v0.f_at) = true]) (by kernel_rfl) (sound _ _) ⟨hb124, trivial⟩ ?_
            exact ⟨true, by kernel_rfl, by kernel_rfl, hF⟩
          · have hF := cond_f hF hb124
            refine WA.reg [0, 3, 74] [0] [(6, .bool false)] (env' := [(0, .val false [.ptr 0 1 0 0]), (3, one (.int .i64 v0.f_at)), (74, one (.bool (decide (v116.f_at > (w64 (v0.f_at + 3))))))]) (os' := [(0, .box (pvL (e_rex_reader v116)))]) (O := [(v116.f_at == v0.f_at) = false]) (by kernel_rfl) (sound _ _) ⟨hb124, trivial⟩ ?_
            exact ⟨(decide (v116.f_at > (w64 (v0.f_at + 3)))), by kernel_rfl, by kernel_rfl, hF⟩
    · rcases Bool.eq_false_or_eq_true (decide (v116.f_at < (v116.f_s.length : Int))) with hb117 | hb117
      · have hF := cond_t hF hb117
        rcases Bool.eq_false_or_eq_true (decide (v116.f_at < (w64 (v0.f_at + 4)))) with hb118 | hb118
        · have hF := cond_t hF hb118
          obtain ⟨y119, hy119, hF⟩ := bind_some hF
          rcases Bool.eq_false_or_eq_true (decide ((y119.toNat : Int) ≥ 48)) with hb120 | hb120
          · have hF := cond_t hF hb120
            obtain ⟨y121, hy121, hF⟩ := bind_some hF
            refine WA.regD (by kernel_rfl) [0, 3, 52] [0] [(10, .bool true), (19, .bool true), (28, .num (y119.toNat : Int)), (31, .bool true), (40, .num (y121.toNat : Int))] (env' := [(0, .val false [.ptr 0 1 0 0]), (3, one (.int .i64 v0.f_at)), (52, one (.bool (decide ((y121.toNat : Int) ≤ 57))))]) (os' := [(0, .box (pvL (e_rex_reader v116)))]) (O := [(decide (v116.f_at < (v116.f_s.length : Int))) = true, (decide (v116.f_at < (w64 (v0.f_at + 4)))) = true, (idxL v116.f_s v116.f_at).map (fun b => (b.toNat : Int)) = some (y119.toNat : Int), (decide ((y119.toNat : Int) ≥ 48)) = true, (idxL v116.f_s v116.f_at).map (fun b => (b.toNat : Int)) = some (y121.toNat : Int)]) (by kernel_rfl) (by kernel_rfl) (sound _ _) ⟨hb117, hb118, (by rw [hy119]; rfl), hb120, (by rw [hy121]; rfl), trivial⟩ ?_
            exact ⟨(decide ((y121.toNat : Int) ≤ 57)), by kernel_rfl, by kernel_rfl, hF⟩
          · have hF := cond_f hF hb120
            refine WA.regD (by kernel_rfl) [0, 3, 52] [0] [(10, .bool true), (19, .bool true), (28, .num (y119.toNat : Int)), (31, .bool false)] (env' := [(0, .val false [.ptr 0 1 0 0]), (3, one (.int .i64 v0.f_at)), (52, one (.bool false))]) (os' := [(0, .box (pvL (e_rex_reader v116)))]) (O := [(decide (v116.f_at < (v116.f_s.length : Int))) = true, (decide (v116.f_at < (w64 (v0.f_at + 4)))) = true, (idxL v116.f_s v116.f_at).map (fun b => (b.toNat : Int)) = some (y119.toNat : Int), (decide ((y119.toNat : Int) ≥ 48)) = false]) (by kernel_rfl) (by kernel_rfl) (sound _ _) ⟨hb117, hb118, (by rw [hy119]; rfl), hb120, trivial⟩ ?_
            exact ⟨false, by kernel_rfl, by kernel_rfl, hF⟩
        · have hF := cond_f hF hb118
          refine WA.regD (by kernel_rfl) [0, 3, 52] [0] [(10, .bool true), (19, .bool false)] (env' := [(0, .val false [.ptr 0 1 0 0]), (3, one (.int .i64 v0.f_at)), (52, one (.bool false))]) (os' := [(0, .box (pvL (e_rex_reader v116)))]) (O := [(decide (v116.f_at < (v116.f_s.length : Int))) = true, (decide (v116.f_at < (w64 (v0.f_at + 4)))) = false]) (by kernel_rfl) (by kernel_rfl) (sound _ _) ⟨hb117, hb118, trivial⟩ ?_
          exact ⟨false, by kernel_rfl, by kernel_rfl, hF⟩
      · have hF := cond_f hF hb117
        refine WA.regD (by kernel_rfl) [0, 3, 52] [0] [(10, .bool false)] (env' := [(0, .val false [.ptr 0 1 0 0]), (3, one (.int .i64 v0.f_at)), (52, one (.bool false))]) (os' := [(0, .box (pvL (e_rex_reader v116)))]) (O := [(decide (v116.f_at < (v116.f_s.length : Int))) = false]) (by kernel_rfl) (by kernel_rfl) (sound _ _) ⟨hb117, trivial⟩ ?_
        exact ⟨false, by kernel_rfl, by kernel_rfl, hF⟩
/-!   entrepot rex.reader .times -/
def F118_j0 (k : Nat) (y101 : Int × rex_reader) (v108 : rex_reader) (v109 : Int) : Option (Option (Int × Int × rex_reader)) :=
  (F71 k v108 ([125] : List UInt8)).bind fun y110 => (cond (!y110.1) (some none) (((some (some (y101.1, v109, y110.2))))))
def F118 (k : Nat) (v0 : rex_reader) : Option (Option (Int × Int × rex_reader)) :=
  (orP (F142 k v0) fun y101 => ((F71 k y101.2 ([44] : List UInt8)).bind fun y102 => (cond y102.1 ((F97 k y102.2 ([125] : List UInt8)).bind fun y104 => (cond (!y104) (orP (F142 k y102.2) fun y106 => (cond y106.2.f_over ((F118_j0 k y101 ({ y106.2 with f_over := true } : rex_reader) y106.1)) ((F118_j0 k y101 ({ y106.2 with f_over := (decide (y106.1 < y101.1)) } : rex_reader) y106.1)))) ((F118_j0 k y101 y102.2 (-1))))) ((F118_j0 k y101 y102.2 y101.1)))))
theorem F118_ok (k : Nat) (v0 : rex_reader) (r : Option (Int × Int × rex_reader)) (hF : F118 k v0 = some r) : SimP Tryz.prog GL0 badV 118 [.val false [.ptr 0 1 0 0]] [.box (pvL (e_rex_reader v0))] (r.map fun r => (.tup [(false, [.pv (.int .i64 r.1)]), (false, [.pv (.int .i64 r.2.1)])], [.box (pvL (e_rex_reader r.2.2))])) := by
  refine simP_of [0] Tryz.func118 rfl (by kernel_rfl) (by kernel_rfl) ?_
  show WA _ _ 35 _ _ _
  refine WA.seq ?_
  refine WA.reg [0] [0] [] (env' := [(0, .val false [.ptr 0 1 0 0])]) (os' := [(0, .box (pvL (e_rex_reader v0)))]) (O := []) (by kernel_rfl) (sound _ _) trivial ?_
  refine WA.seq ?_
  rcases orP_some hF with ⟨hz, hr⟩ | ⟨y101, hy101, hF⟩
  · subst hr
    refine WA.regP 1 [0] [] [] badV (f := 142) (args := [.val false [.ptr 0 1 0 0]]) (os := [.box (pvL (e_rex_reader v0))]) (env1 := []) (os1 := [(0, .box (pvL (e_rex_reader v0)))]) (O := []) (by kernel_rfl) (sound _ _) trivial (by decide) (F142_ok k _ _ hz) (fun psl hpsl => ?_)
    obtain ⟨ps, rfl⟩ := one_of_len hpsl
    exact ⟨rfl, [ps], by kernel_rfl, rfl⟩
  · refine WA.reg [0, 4] [0] [(1, .call [0] (one (.int .i64 y101.1)) [.box (pvL (e_rex_reader y101.2))] [])] (env' := [(0, .val false [.ptr 0 1 0 0]), (4, one (.int .i64 y101.1))]) (os' := [(0, .box (pvL (e_rex_reader y101.2)))]) (O := [Sim Tryz.prog GL0 142 [.val false [.ptr 0 1 0 0]] [.box (pvL (e_rex_reader v0))] (one (.int .i64 y101.1)) [.box (pvL (e_rex_reader y101.2))], ([0] : List Nat).Nodup]) (by kernel_rfl) (sound _ _) ⟨(F142_ok k _ _ hy101), (by decide), trivial⟩ ?_
    refine WA.seq ?_
    refine WA.reg [0, 4, 5] [0] [] (env' := [(0, .val false [.ptr 0 1 0 0]), (4, one (.int .i64 y101.1)), (5, one (.int .i64 y101.1))]) (os' := [(0, .box (pvL (e_rex_reader y101.2)))]) (O := []) (by kernel_rfl) (sound _ _) trivial ?_
    refine WA.join (fun s_ => ∃ (v108 : rex_reader) (v109 : Int), pickE s_.env [0, 4, 5] = [(0, .val false [.ptr 0 1 0 0]), (4, one (.int .i64 y101.1)), (5, one (.int .i64 v109))] ∧ pickE s_.os [0] = [(0, .box (pvL (e_rex_reader v108)))] ∧ F118_j0 k y101 v108 v109 = some r) ?_ ?_
    · rintro s_ ⟨v108, v109, he, ho, hF⟩
      refine WA.keep _ _ he ho ?_
      clear he ho
      refine WA.seq ?_
      refine WA.seq ?_
      obtain ⟨y110, hy110, hF⟩ := bind_some hF
      refine WA.reg [4, 5, 30] [0] [(1, .call [0] (one (.bool y110.1)) [.box (pvL (e_rex_reader y110.2))] [])] (env' := [(4, one (.int .i64 y101.1)), (5, one (.int .i64 v109)), (30, one (.bool (!y110.1)))]) (os' := [(0, .box (pvL (e_rex_reader y110.2)))]) (O := [Sim Tryz.prog GL0 71 [.val false [.ptr 0 1 0 0], one (.str ([125] : List UInt8))] [.box (pvL (e_rex_reader v108))] (one (.bool y110.1)) [.box (pvL (e_rex_reader y110.2))], ([0] : List Nat).Nodup]) (by kernel_rfl) (sound _ _) ⟨(F71_ok k _ _ _ hy110), (by decide), trivial⟩ ?_
      refine WA.cond (b := (!y110.1)) rfl (fun hb111 => ?_) (fun hb111 => ?_)
      · have hF := cond_t hF hb111
        refine WA.bad [] (t := 70) (env1 := []) (os1 := [(0, .box (pvL (e_rex_reader y110.2)))]) (O := []) (by kernel_rfl) (sound _ _) trivial ?_
        obtain rfl := Option.some.inj hF
        exact ⟨rfl, [(e_rex_reader y110.2)], by kernel_rfl, rfl⟩
      · have hF := cond_f hF hb111
        refine WA.skip ?_
        refine WA.seq ?_
        refine WA.reg [2, 3] [0] [] (env' := [(2, one (.int .i64 y101.1)), (3, one (.int .i64 v109))]) (os' := [(0, .box (pvL (e_rex_reader y110.2)))]) (O := []) (by kernel_rfl) (sound _ _) trivial ?_
        refine WA.ret ?_
        obtain rfl := Option.some.inj hF
        exact out_ret (.tup [(false, [.pv (.int .i64 y101.1)]), (false, [.pv (.int .i64 v109)])]) [.box (pvL (e_rex_reader y110.2))] (by kernel_rfl) (by kernel_rfl) (by kernel_rfl) (by kernel_rfl) (by decide) rfl rfl
    · refine WA.seq ?_
      obtain ⟨y102, hy102, hF⟩ := bind_some hF
      refine WA.reg [0, 4, 5, 10] [0] [(1, .call [0] (one (.bool y102.1)) [.box (pvL (e_rex_reader y102.2))] [])] (env' := [(0, .val false [.ptr 0 1 0 0]), (4, one (.int .i64 y101.1)), (5, one (.int .i64 y101.1)), (10, one (.bool y102.1))]) (os' := [(0, .box (pvL (e_rex_reader y102.2)))]) (O := [Sim Tryz.prog GL0 71 [.val false [.ptr 0 1 0 0], one (.str ([44] : List UInt8))] [.box (pvL (e_rex_reader y101.2))] (one (.bool y102.1)) [.box (pvL (e_rex_reader y102.2))], ([0] : List Nat).Nodup]) (by kernel_rfl) (sound _ _) ⟨(F71_ok k _ _ _ hy102), (by decide), trivial⟩ ?_
      refine WA.cond (b := y102.1) rfl (fun hb103 => ?_) (fun hb103 => ?_)
      · have hF := cond_t hF hb103
        refine WA.seq ?_
        refine WA.reg [0, 4, 5] [0] [] (env' := [(0, .val false [.ptr 0 1 0 0]), (4, one (.int .i64 y101.1)), (5, one (.int .i64 (-1)))]) (os' := [(0, .box (pvL (e_rex_reader y102.2)))]) (O := []) (by kernel_rfl) (sound _ _) trivial ?_
        refine WA.seq ?_
        obtain ⟨y104, hy104, hF⟩ := bind_some hF
        refine WA.reg [0, 4, 5, 13] [0] [(1, .callR [0] (one (.bool y104)))] (env' := [(0, .val false [.ptr 0 1 0 0]), (4, one (.int .i64 y101.1)), (5, one (.int .i64 (-1))), (13, one (.bool (!y104)))]) (os' := [(0, .box (pvL (e_rex_reader y102.2)))]) (O := [Sim Tryz.prog GL0 97 [.val false [.ptr 0 1 0 0], one (.str ([125] : List UInt8))] [.box (pvL (e_rex_reader y102.2))] (one (.bool y104)) [.box (pvL (e_rex_reader y102.2))], ([0] : List Nat).Nodup]) (by kernel_rfl) (sound _ _) ⟨(F97_ok k _ _ _ hy104), (by decide), trivial⟩ ?_
        refine WA.cond (b := (!y104)) rfl (fun hb105 => ?_) (fun hb105 => ?_)
        · have hF := cond_t hF hb105
          refine WA.seq ?_
          rcases orP_some hF with ⟨hz, hr⟩ | ⟨y106, hy106, hF⟩
          · subst hr
            refine WA.regP 1 [0] [] [] badV (f := 142) (args := [.val false [.ptr 0 1 0 0]]) (os := [.box (pvL (e_rex_reader y102.2))]) (env1 := []) (os1 := [(0, .box (pvL (e_rex_reader y102.2)))]) (O := []) (by kernel_rfl) (sound _ _) trivial (by decide) (F142_ok k _ _ hz) (fun psl hpsl => ?_)
            obtain ⟨ps, rfl⟩ := one_of_len hpsl
            exact ⟨rfl, [ps], by kernel_rfl, rfl⟩
          · refine WA.reg [0, 4, 5] [0] [(1, .call [0] (one (.int .i64 y106.1)) [.box (pvL (e_rex_reader y106.2))] [])] (env' := [(0, .val false [.ptr 0 1 0 0]), (4, one (.int .i64 y101.1)), (5, one (.int .i64 y106.1))]) (os' := [(0, .box (pvL (e_rex_reader y106.2)))]) (O := [Sim Tryz.prog GL0 142 [.val false [.ptr 0 1 0 0]] [.box (pvL (e_rex_reader y102.2))] (one (.int .i64 y106.1)) [.box (pvL (e_rex_reader y106.2))], ([0] : List Nat).Nodup]) (by kernel_rfl) (sound _ _) ⟨(F142_ok k _ _ hy106), (by decide), trivial⟩ ?_
            rcases Bool.eq_false_or_eq_true y106.2.f_over with hb107 | hb107
            · have hF := cond_t hF hb107
              refine WA.reg [0, 4, 5] [0] [(5, .bool true)] (env' := [(0, .val false [.ptr 0 1 0 0]), (4, one (.int .i64 y101.1)), (5, one (.int .i64 y106.1))]) (os' := [(0, .box (pvL (e_rex_reader ({ y106.2 with f_over := true } : rex_reader))))]) (O := [y106.2.f_over = true]) (by kernel_rfl) (sound _ _) ⟨hb107, trivial⟩ ?_
              exact ⟨({ y106.2 with f_over := true } : rex_reader), y106.1, by kernel_rfl, by kernel_rfl, hF⟩
            · have hF := cond_f hF hb107
              refine WA.reg [0, 4, 5] [0] [(5, .bool false)] (env' := [(0, .val false [.ptr 0 1 0 0]), (4, one (.int .i64 y101.1)), (5, one (.int .i64 y106.1))]) (os' := [(0, .box (pvL (e_rex_reader ({ y106.2 with f_over := (decide (y106.1 < y101.1)) } : rex_reader))))]) (O := [y106.2.f_over = false]) (by kernel_rfl) (sound _ _) ⟨hb107, trivial⟩ ?_
              exact ⟨({ y106.2 with f_over := (decide (y106.1 < y101.1)) } : rex_reader), y106.1, by kernel_rfl, by kernel_rfl, hF⟩
        · have hF := cond_f hF hb105
          refine WA.skip ?_
          exact ⟨y102.2, (-1), by kernel_rfl, by kernel_rfl, hF⟩
      · have hF := cond_f hF hb103
        refine WA.skip ?_
        exact ⟨y102.2, y101.1, by kernel_rfl, by kernel_rfl, hF⟩
/-!   entrepot rex.reader .escaped -/
def F139_j1 (y101 : Int × rex_reader) (v109 : Int) : Option (Option ((List api_Range) × rex_reader)) :=
  (some (some (([(⟨v109, v109⟩ : api_Range)] : List api_Range), y101.2)))
def F139_j0 (y101 : Int × rex_reader) (v107 : Bool) : Option (Option ((List api_Range) × rex_reader)) :=
  cond v107 (some none) ((F139_j1 y101 y101.1))
def F139 (k : Nat) (v0 : rex_reader) (v1 : List UInt8) : Option (Option ((List api_Range) × rex_reader)) :=
  (orP (F140 k v0) fun y101 => ((cond (y101.1 == 100) ((some (some (([(⟨48, 57⟩ : api_Range)] : List api_Range), y101.2)))) ((cond (y101.1 == 110) ((F139_j1 y101 10)) ((cond (y101.1 == 116) ((F139_j1 y101 9)) (cond (decide (y101.1 > 126)) ((F139_j0 y101 true)) ((F170 k v1 (IntKind.wrap .u8 y101.1)).bind fun y106 => (F139_j0 y101 (decide (y106 < 0))))))))))))
theorem F139_ok (k : Nat) (v0 : rex_reader) (v1 : List UInt8) (r : Option ((List api_Range) × rex_reader)) (hF : F139 k v0 v1 = some r) : SimP Tryz.prog GL0 badV 139 [.val false [.ptr 0 1 0 0], one (.str v1)] [.box (pvL (e_rex_reader v0))] (r.map fun r => (.val false [.arr 1 r.1.length], [.box (pvL (e_rex_reader r.2)), .arr 2 (r.1.map e_api_Range)])) := by
  refine simP_of [0, 900] Tryz.func139 rfl (by kernel_rfl) (by kernel_rfl) ?_
  show WA _ _ 35 _ _ _
  refine WA.seq ?_
  refine WA.reg [0, 1] [0] [(0, .obj 900)] (env' := [(0, .val false [.ptr 0 1 0 0]), (1, one (.str v1))]) (os' := [(0, .box (pvL (e_rex_reader v0)))]) (O := []) (by kernel_rfl) (sound _ _) trivial ?_
  refine WA.seq ?_
  rcases orP_some hF with ⟨hz, hr⟩ | ⟨y101, hy101, hF⟩
  · subst hr
    refine WA.regP 1 [0] [] [] badV (f := 140) (args := [.val false [.ptr 0 1 0 0]]) (os := [.box (pvL (e_rex_reader v0))]) (env1 := []) (os1 := [(0, .box (pvL (e_rex_reader v0)))]) (O := []) (by kernel_rfl) (sound _ _) trivial (by decide) (F140_ok k _ _ hz) (fun psl hpsl => ?_)
    obtain ⟨ps, rfl⟩ := one_of_len hpsl
    exact ⟨rfl, [ps], by kernel_rfl, rfl⟩
  · refine WA.reg [1, 5] [0] [(1, .call [0] (one (.int .i64 y101.1)) [.box (pvL (e_rex_reader y101.2))] [])] (env' := [(1, one (.str v1)), (5, one (.int .i64 y101.1))]) (os' := [(0, .box (pvL (e_rex_reader y101.2)))]) (O := [Sim Tryz.prog GL0 140 [.val false [.ptr 0 1 0 0]] [.box (pvL (e_rex_reader v0))] (one (.int .i64 y101.1)) [.box (pvL (e_rex_reader y101.2))], ([0] : List Nat).Nodup]) (by kernel_rfl) (sound _ _) ⟨(F140_ok k _ _ hy101), (by decide), trivial⟩ ?_
    refine WA.join (fun s_ => ∃ (v109 : Int), pickE s_.env [5] = [(5, one (.int .i64 v109))] ∧ pickE s_.os [0] = [(0, .box (pvL (e_rex_reader y101.2)))] ∧ F139_j1 y101 v109 = some r) ?_ ?_
    · rintro s_ ⟨v109, he, ho, hF⟩
      refine WA.keep _ _ he ho ?_
      clear he ho
      refine WA.seq ?_
      refine WA.reg [4] [0, 900] [(3, .obj 900)] (env' := [(4, .val false [.arr 900 1])]) (os' := [(0, .box (pvL (e_rex_reader y101.2))), (900, .arr 2 (([(⟨v109, v109⟩ : api_Range)] : List api_Range).map e_api_Range))]) (O := []) (by kernel_rfl) (sound _ _) trivial ?_
      refine WA.ret ?_
      obtain rfl := Option.some.inj hF
      exact out_ret (.val false [.arr 900 1]) [.box (pvL (e_rex_reader y101.2)), .arr 2 (([(⟨v109, v109⟩ : api_Range)] : List api_Range).map e_api_Range)] (by kernel_rfl) (by kernel_rfl) (by kernel_rfl) (by kernel_rfl) (by decide) rfl rfl
    · refine WA.block ?_
      refine WA.seq ?_
      refine WA.reg [1, 5, 8] [0] [] (env' := [(1, one (.str v1)), (5, one (.int .i64 y101.1)), (8, one (.bool (y101.1 == 100)))]) (os' := [(0, .box (pvL (e_rex_reader y101.2)))]) (O := []) (by kernel_rfl) (sound _ _) trivial ?_
      refine WA.cond (b := (y101.1 == 100)) rfl (fun hb102 => ?_) (fun hb102 => ?_)
      · have hF := cond_t hF hb102
        refine WA.seq ?_
        refine WA.reg [4] [0, 900] [(1, .obj 900)] (env' := [(4, .val false [.arr 900 1])]) (os' := [(0, .box (pvL (e_rex_reader y101.2))), (900, .arr 2 (([(⟨48, 57⟩ : api_Range)] : List api_Range).map e_api_Range))]) (O := []) (by kernel_rfl) (sound _ _) trivial ?_
        refine WA.ret ?_
        obtain rfl := Option.some.inj hF
        exact out_ret (.val false [.arr 900 1]) [.box (pvL (e_rex_reader y101.2)), .arr 2 (([(⟨48, 57⟩ : api_Range)] : List api_Range).map e_api_Range)] (by kernel_rfl) (by kernel_rfl) (by kernel_rfl) (by kernel_rfl) (by decide) rfl rfl
      · have hF := cond_f hF hb102
        refine WA.seq ?_
        refine WA.reg [1, 5, 13] [0] [] (env' := [(1, one (.str v1)), (5, one (.int .i64 y101.1)), (13, one (.bool (y101.1 == 110)))]) (os' := [(0, .box (pvL (e_rex_reader y101.2)))]) (O := []) (by kernel_rfl) (sound _ _) trivial ?_
        refine WA.cond (b := (y101.1 == 110)) rfl (fun hb103 => ?_) (fun hb103 => ?_)
        · have hF := cond_t hF hb103
          refine WA.reg [5] [0] [] (env' := [(5, one (.int .i64 10))]) (os' := [(0, .box (pvL (e_rex_reader y101.2)))]) (O := []) (by kernel_rfl) (sound _ _) trivial ?_
          exact ⟨10, by kernel_rfl, by kernel_rfl, hF⟩
        · have hF := cond_f hF hb103
          refine WA.seq ?_
          refine WA.reg [1, 5, 16] [0] [] (env' := [(1, one (.str v1)), (5, one (.int .i64 y101.1)), (16, one (.bool (y101.1 == 116)))]) (os' := [(0, .box (pvL (e_rex_reader y101.2)))]) (O := []) (by kernel_rfl) (sound _ _) trivial ?_
          refine WA.cond (b := (y101.1 == 116)) rfl (fun hb104 => ?_) (fun hb104 => ?_)
          · have hF := cond_t hF hb104
            refine WA.reg [5] [0] [] (env' := [(5, one (.int .i64 9))]) (os' := [(0, .box (pvL (e_rex_reader y101.2)))]) (O := []) (by kernel_rfl) (sound _ _) trivial ?_
            exact ⟨9, by kernel_rfl, by kernel_rfl, hF⟩
          · have hF := cond_f hF hb104
            refine WA.join (fun s_ => ∃ (v107 : Bool), pickE s_.env [5, 19] = [(5, one (.int .i64 y101.1)), (19, one (.bool v107))] ∧ pickE s_.os [0] = [(0, .box (pvL (e_rex_reader y101.2)))] ∧ F139_j0 y101 v107 = some r) ?_ ?_
            · rintro s_ ⟨v107, he, ho, hF⟩
              refine WA.keep _ _ he ho ?_
              clear he ho
              refine WA.cond (b := v107) rfl (fun hb108 => ?_) (fun hb108 => ?_)
              · have hF := cond_t hF hb108
                refine WA.bad [] (t := 70) (env1 := []) (os1 := [(0, .box (pvL (e_rex_reader y101.2)))]) (O := []) (by kernel_rfl) (sound _ _) trivial ?_
                obtain rfl := Option.some.inj hF
                exact ⟨rfl, [(e_rex_reader y101.2)], by kernel_rfl, rfl⟩
              · have hF := cond_f hF hb108
                refine WA.skip ?_
                exact ⟨y101.1, by kernel_rfl, by kernel_rfl, hF⟩
            · rcases Bool.eq_false_or_eq_true (decide (y101.1 > 126)) with hb105 | hb105
              · have hF := cond_t hF hb105
                refine WA.reg [5, 19] [0] [(2, .bool true)] (env' := [(5, one (.int .i64 y101.1)), (19, one (.bool true))]) (os' := [(0, .box (pvL (e_rex_reader y101.2)))]) (O := [(decide (y101.1 > 126)) = true]) (by kernel_rfl) (sound _ _) ⟨hb105, trivial⟩ ?_
                exact ⟨true, by kernel_rfl, by kernel_rfl, hF⟩
              · have hF := cond_f hF hb105
                obtain ⟨y106, hy106, hF⟩ := bind_some hF
                refine WA.reg [5, 19] [0] [(2, .bool false), (6, .callR [] (one (.int .i64 y106)))] (env' := [(5, one (.int .i64 y101.1)), (19, one (.bool (decide (y106 < 0))))]) (os' := [(0, .box (pvL (e_rex_reader y101.2)))]) (O := [(decide (y101.1 > 126)) = false, Sim Tryz.prog GL0 170 [one (.str v1), one (.int .u8 (IntKind.wrap .u8 y101.1))] [] (one (.int .i64 y106)) [], ([] : List Nat).Nodup]) (by kernel_rfl) (sound _ _) ⟨hb105, (F170_ok k _ _ _ hy106), (by decide), trivial⟩ ?_
                exact ⟨(decide (y106 < 0)), by kernel_rfl, by kernel_rfl, hF⟩
/-!   entrepot rex.reader .one -/
def F169 (k : Nat) (v0 : rex_reader) : Option (Option ((List api_Range) × rex_reader)) :=
  (F71 k v0 ([92] : List UInt8)).bind fun y101 => (cond y101.1 (orP (F139 k y101.2 ([92, 46, 91, 93, 40, 41, 123, 125, 42, 43, 63, 124, 94, 36, 45, 47] : List UInt8)) fun y103 => (some (some (y103.1, y103.2)))) ((orP (F140 k y101.2) fun y104 => (F141 k ([92, 91, 93, 94, 45] : List UInt8) (IntKind.wrap .i32 y104.1)).bind fun y105 => (cond y105 (some none) (((some (some (([(⟨y104.1, y104.1⟩ : api_Range)] : List api_Range), y104.2)))))))))
theorem F169_ok (k : Nat) (v0 : rex_reader) (r : Option ((List api_Range) × rex_reader)) (hF : F169 k v0 = some r) : SimP Tryz.prog GL0 badV 169 [.val false [.ptr 0 1 0 0]] [.box (pvL (e_rex_reader v0))] (r.map fun r => (.val false [.arr 1 r.1.length], [.box (pvL (e_rex_reader r.2)), .arr 2 (r.1.map e_api_Range)])) := by
  refine simP_of [0, 900] Tryz.func169 rfl (by kernel_rfl) (by kernel_rfl) ?_
  show WA _ _ 19 _ _ _
  refine WA.seq ?_
  refine WA.reg [0] [0] [(0, .obj 900)] (env' := [(0, .val false [.ptr 0 1 0 0])]) (os' := [(0, .box (pvL (e_rex_reader v0)))]) (O := []) (by kernel_rfl) (sound _ _) trivial ?_
  refine WA.seq ?_
  refine WA.seq ?_
  obtain ⟨y101, hy101, hF⟩ := bind_some hF
  refine WA.reg [0, 5] [0] [(1, .call [0] (one (.bool y101.1)) [.box (pvL (e_rex_reader y101.2))] [])] (env' := [(0, .val false [.ptr 0 1 0 0]), (5, one (.bool y101.1))]) (os' := [(0, .box (pvL (e_rex_reader y101.2)))]) (O := [Sim Tryz.prog GL0 71 [.val false [.ptr 0 1 0 0], one (.str ([92] : List UInt8))] [.box (pvL (e_rex_reader v0))] (one (.bool y101.1)) [.box (pvL (e_rex_reader y101.2))], ([0] : List Nat).Nodup]) (by kernel_rfl) (sound _ _) ⟨(F71_ok k _ _ _ hy101), (by decide), trivial⟩ ?_
  refine WA.cond (b := y101.1) rfl (fun hb102 => ?_) (fun hb102 => ?_)
  · have hF := cond_t hF hb102
    refine WA.seq ?_
    rcases orP_some hF with ⟨hz, hr⟩ | ⟨y103, hy103, hF⟩
    · subst hr
      refine WA.regP 1 [0] [] [] badV (f := 139) (args := [.val false [.ptr 0 1 0 0], one (.str ([92, 46, 91, 93, 40, 41, 123, 125, 42, 43, 63, 124, 94, 36, 45, 47] : List UInt8))]) (os := [.box (pvL (e_rex_reader y101.2))]) (env1 := []) (os1 := [(0, .box (pvL (e_rex_reader y101.2)))]) (O := []) (by kernel_rfl) (sound _ _) trivial (by decide) (F139_ok k _ _ _ hz) (fun psl hpsl => ?_)
      obtain ⟨ps, rfl⟩ := one_of_len hpsl
      exact ⟨rfl, [ps], by kernel_rfl, rfl⟩
    · refine WA.reg [2] [0, 900] [(1, .call [0] (.val false [.arr 1 y103.1.length]) [.box (pvL (e_rex_reader y103.2)), .arr 2 (y103.1.map e_api_Range)] [900])] (env' := [(2, .val false [.arr 900 y103.1.length])]) (os' := [(0, .box (pvL (e_rex_reader y103.2))), (900, .arr 2 (y103.1.map e_api_Range))]) (O := [Sim Tryz.prog GL0 139 [.val false [.ptr 0 1 0 0], one (.str ([92, 46, 91, 93, 40, 41, 123, 125, 42, 43, 63, 124, 94, 36, 45, 47] : List UInt8))] [.box (pvL (e_rex_reader y101.2))] (.val false [.arr 1 y103.1.length]) [.box (pvL (e_rex_reader y103.2)), .arr 2 (y103.1.map e_api_Range)], ([0] : List Nat).Nodup]) (by kernel_rfl) (sound _ _) ⟨(F139_ok k _ _ _ hy103), (by decide), trivial⟩ ?_
      refine WA.ret ?_
      obtain rfl := Option.some.inj hF
      exact out_ret (.val false [.arr 900 y103.1.length]) [.box (pvL (e_rex_reader y103.2)), .arr 2 (y103.1.map e_api_Range)] (by kernel_rfl) (by kernel_rfl) (by kernel_rfl) (by kernel_rfl) (by decide) rfl rfl
  · have hF := cond_f hF hb102
    refine WA.skip ?_
    refine WA.seq ?_
    rcases orP_some hF with ⟨hz, hr⟩ | ⟨y104, hy104, hF⟩
    · subst hr
      refine WA.regP 1 [0] [] [] badV (f := 140) (args := [.val false [.ptr 0 1 0 0]]) (os := [.box (pvL (e_rex_reader y101.2))]) (env1 := []) (os1 := [(0, .box (pvL (e_rex_reader y101.2)))]) (O := []) (by kernel_rfl) (sound _ _) trivial (by decide) (F140_ok k _ _ hz) (fun psl hpsl => ?_)
      obtain ⟨ps, rfl⟩ := one_of_len hpsl
      exact ⟨rfl, [ps], by kernel_rfl, rfl⟩
    · refine WA.reg [3] [0] [(1, .call [0] (one (.int .i64 y104.1)) [.box (pvL (e_rex_reader y104.2))] [])] (env' := [(3, one (.int .i64 y104.1))]) (os' := [(0, .box (pvL (e_rex_reader y104.2)))]) (O := [Sim Tryz.prog GL0 140 [.val false [.ptr 0 1 0 0]] [.box (pvL (e_rex_reader y101.2))] (one (.int .i64 y104.1)) [.box (pvL (e_rex_reader y104.2))], ([0] : List Nat).Nodup]) (by kernel_rfl) (sound _ _) ⟨(F140_ok k _ _ hy104), (by decide), trivial⟩ ?_
      refine WA.seq ?_
      refine WA.seq ?_
      obtain ⟨y105, hy105, hF⟩ := bind_some hF
      refine WA.reg [3, 12] [0] [(2, .callR [] (one (.bool y105)))] (env' := [(3, one (.int .i64 y104.1)), (12, one (.bool y105))]) (os' := [(0, .box (pvL (e_rex_reader y104.2)))]) (O := [Sim Tryz.prog GL0 141 [one (.str ([92, 91, 93, 94, 45] : List UInt8)), one (.int .i32 (IntKind.wrap .i32 y104.1))] [] (one (.bool y105)) [], ([] : List Nat).Nodup]) (by kernel_rfl) (sound _ _) ⟨(F141_ok k _ _ _ hy105), (by decide), trivial⟩ ?_
      refine WA.cond (b := y105) rfl (fun hb106 => ?_) (fun hb106 => ?_)
      · have hF := cond_t hF hb106
        refine WA.bad [] (t := 70) (env1 := []) (os1 := [(0, .box (pvL (e_rex_reader y104.2)))]) (O := []) (by kernel_rfl) (sound _ _) trivial ?_
        obtain rfl := Option.some.inj hF
        exact ⟨rfl, [(e_rex_reader y104.2)], by kernel_rfl, rfl⟩
      · have hF := cond_f hF hb106
        refine WA.skip ?_
        refine WA.seq ?_
        refine WA.reg [2] [0, 900] [(3, .obj 900)] (env' := [(2, .val false [.arr 900 1])]) (os' := [(0, .box (pvL (e_rex_reader y104.2))), (900, .arr 2 (([(⟨y104.1, y104.1⟩ : api_Range)] : List api_Range).map e_api_Range))]) (O := []) (by kernel_rfl) (sound _ _) trivial ?_
        refine WA.ret ?_
        obtain rfl := Option.some.inj hF
        exact out_ret (.val false [.arr 900 1]) [.box (pvL (e_rex_reader y104.2)), .arr 2 (([(⟨y104.1, y104.1⟩ : api_Range)] : List api_Range).map e_api_Range)] (by kernel_rfl) (by kernel_rfl) (by kernel_rfl) (by kernel_rfl) (by decide) rfl rfl
end Go.Proofs.YthilboheomikjaaGreatDoor
end

section
namespace Go.Proofs.YthilboheomikjaaGreatDoor
open Go.AL
set_option linter.unusedVariables false
set_option linter.unusedSimpArgs false
set_option maxRecDepth 100000

/-!   entrepot rex.reader .class -/
def F138_j8 (self5 : rex_reader → (List api_Range) → Bool → Option (Option (api_Re × rex_reader))) (v153 : List api_Range) (v177 : rex_reader) (v178 : List api_Range) : Option (Option (api_Re × rex_reader)) :=
  if v153.length + v178.length ≤ 1073741824 then (self5 v177 (v153 ++ v178) false) else none
def F138_j7 (self5 : rex_reader → (List api_Range) → Bool → Option (Option (api_Re × rex_reader))) (v153 : List api_Range) (y162 : (List api_Range) × rex_reader) (y166 : (List api_Range) × rex_reader) (v172 : Bool) : Option (Option (api_Re × rex_reader)) :=
  cond v172 (some none) ((idxL y166.1 0).bind fun y174 => if (0 : Int) ≤ 0 ∧ 0 < (y162.1.length : Int) then (idxL y162.1 0).bind fun y176 => (F138_j8 self5 v153 y166.2 (y162.1.set (Int.toNat 0) ({ y176 with f_Hi := y174.f_Lo } : api_Range))) else none)
def F138_j9 (k : Nat) (v158 : rex_reader) (v186 : List api_Range) : Option (Option (api_Re × rex_reader)) :=
  (F58 k v186).bind fun y187 => (some (some (y187, v158)))
def F138_j6 (k : Nat) (self5 : rex_reader → (List api_Range) → Bool → Option (Option (api_Re × rex_reader))) (y101 : Bool × rex_reader) (v153 : List api_Range) (v158 : rex_reader) (v159 : Bool) : Option (Option (api_Re × rex_reader)) :=
  cond v159 ((F97 k v158 ([92, 100] : List UInt8)).bind fun y161 => (orP (F169 k v158) fun y162 => (F71 k y162.2 ([45] : List UInt8)).bind fun y163 => (cond y163.1 ((F97 k y163.2 ([92, 100] : List UInt8)).bind fun y165 => (orP (F169 k y163.2) fun y166 => (cond y161 ((F138_j7 self5 v153 y162 y166 true)) (cond y165 ((F138_j7 self5 v153 y162 y166 true)) ((idxL y166.1 0).bind fun y169 => if (0 : Int) ≤ 0 ∧ 0 < (y162.1.length : Int) then (idxL y162.1 0).bind fun y171 => (F138_j7 self5 v153 y162 y166 (decide (y169.f_Lo < y171.f_Lo))) else none))))) ((F138_j8 self5 v153 y163.2 y162.1))))) ((F77 k v153).bind fun y181 => (F59 k).bind fun y182 => (F76 k y181 y182).bind fun y183 => ((cond y101.1 ((F109 k y183).bind fun y185 => (F138_j9 k v158 y185)) ((F138_j9 k v158 y183)))))
def F138_b5 (k : Nat) (self5 : rex_reader → (List api_Range) → Bool → Option (Option (api_Re × rex_reader))) (y101 : Bool × rex_reader) (v152 : rex_reader) (v153 : List api_Range) (v155 : Bool) : Option (Option (api_Re × rex_reader)) :=
  cond v155 ((F138_j6 k self5 y101 v153 v152 true)) ((F71 k v152 ([93] : List UInt8)).bind fun y157 => (F138_j6 k self5 y101 v153 y157.2 (!y157.1)))
def F138_l5 (k : Nat) (y101 : Bool × rex_reader) : Nat → rex_reader → (List api_Range) → Bool → Option (Option (api_Re × rex_reader))
  | 0, _, _, _ => none
  | m_ + 1, v152, v153, v155 => F138_b5 k (F138_l5 k y101 m_) y101 v152 v153 v155
def F138 (k : Nat) (v0 : rex_reader) : Option (Option (api_Re × rex_reader)) :=
  (F71 k v0 ([94] : List UInt8)).bind fun y101 => (((F138_l5 k y101 k y101.2 ([] : List api_Range) true)))
theorem F138_ok (k : Nat) (v0 : rex_reader) (r : Option (api_Re × rex_reader)) (hF : F138 k v0 = some r) : SimP Tryz.prog GL0 badV 138 [.val false [.ptr 0 1 0 0]] [.box (pvL (e_rex_reader v0))] (r.map fun r => (.val true (pvL (e_api_Re r.1)), [.box (pvL (e_rex_reader r.2))])) := by
  refine simP_of [0] Tryz.func138 rfl (by kernel_rfl) (by kernel_rfl) ?_
  show WA _ _ 64 _ _ _
  refine WA.seq ?_
  refine WA.reg [0, 2] [0, 102] [(0, .obj 102)] (env' := [(0, .val false [.ptr 0 1 0 0]), (2, .val false [.ptr 102 1 0 0])]) (os' := [(0, .box (pvL (e_rex_reader v0))), (102, .box (pvL (e_api_Re (⟨0, ([] : List api_Range), ([] : List api_Re), 0, 0⟩ : api_Re))))]) (O := []) (by kernel_rfl) (sound _ _) trivial ?_
  refine WA.seq ?_
  obtain ⟨y101, hy101, hF⟩ := bind_some hF
  refine WA.reg [0, 2, 3] [0, 102] [(1, .call [0] (one (.bool y101.1)) [.box (pvL (e_rex_reader y101.2))] [])] (env' := [(0, .val false [.ptr 0 1 0 0]), (2, .val false [.ptr 102 1 0 0]), (3, one (.bool y101.1))]) (os' := [(0, .box (pvL (e_rex_reader y101.2))), (102, .box (pvL (e_api_Re (⟨0, ([] : List api_Range), ([] : List api_Re), 0, 0⟩ : api_Re))))]) (O := [Sim Tryz.prog GL0 71 [.val false [.ptr 0 1 0 0], one (.str ([94] : List UInt8))] [.box (pvL (e_rex_reader v0))] (one (.bool y101.1)) [.box (pvL (e_rex_reader y101.2))], ([0] : List Nat).Nodup]) (by kernel_rfl) (sound _ _) ⟨(F71_ok k _ _ _ hy101), (by decide), trivial⟩ ?_
  refine WA.seq ?_
  refine WA.reg [0, 2, 3, 4] [0, 102, 104] [(0, .obj 104)] (env' := [(0, .val false [.ptr 0 1 0 0]), (2, .val false [.ptr 102 1 0 0]), (3, one (.bool y101.1)), (4, .val false [.arr 104 0])]) (os' := [(0, .box (pvL (e_rex_reader y101.2))), (102, .box (pvL (e_api_Re (⟨0, ([] : List api_Range), ([] : List api_Re), 0, 0⟩ : api_Re)))), (104, .arr 2 (([] : List api_Range).map e_api_Range))]) (O := []) (by kernel_rfl) (sound _ _) trivial ?_
  refine WA.seq ?_
  refine WA.seq ?_
  refine WA.reg [0, 2, 3, 4, 5] [0, 102, 104] [] (env' := [(0, .val false [.ptr 0 1 0 0]), (2, .val false [.ptr 102 1 0 0]), (3, one (.bool y101.1)), (4, .val false [.arr 104 0]), (5, one (.bool true))]) (os' := [(0, .box (pvL (e_rex_reader y101.2))), (102, .box (pvL (e_api_Re (⟨0, ([] : List api_Range), ([] : List api_Re), 0, 0⟩ : api_Re)))), (104, .arr 2 (([] : List api_Range).map e_api_Range))]) (O := []) (by kernel_rfl) (sound _ _) trivial ?_
  refine WA.block ?_
  refine WA.loop (fun m s_ => ∃ (v152 : rex_reader) (v153 : List api_Range) (v154 : Nat) (v155 : Bool), pickE s_.env [0, 2, 3, 4, 5] = [(0, .val false [.ptr 0 1 0 0]), (2, .val false [.ptr 102 1 0 0]), (3, one (.bool y101.1)), (4, .val false [.arr 104 v154]), (5, one (.bool v155))] ∧ pickE s_.os [0, 102, 104] = [(0, .box (pvL (e_rex_reader v152))), (102, .box (pvL (e_api_Re (⟨0, ([] : List api_Range), ([] : List api_Re), 0, 0⟩ : api_Re)))), (104, .arr 2 (v153.map e_api_Range))] ∧ v154 = (v153 : List _).length ∧ F138_l5 k y101 m v152 v153 v155 = some r) k ⟨y101.2, ([] : List api_Range), 0, true, by kernel_rfl, by kernel_rfl, (by first | omega | (simp only [zlm, zla, zlc, zln, zls, zlr, zlt, zld, lens_api_Re]; done) | (simp only [zlm, zla, zlc, zln, zls, zlr, zlt, zld, lens_api_Re]; omega) | (simp only [zlm, zla, zlc, zln, zls, zlr, zlt, zld, lens_api_Re] at *; omega)), hF⟩ ?_
  clear hF
  rintro m5 s_ ⟨v152, v153, v154, v155, he, ho, hn_v154, hF⟩
  refine WA.keep _ _ he ho ?_
  clear he ho
  cases m5 with
  | zero => cases hF
  | succ m5 =>
    obtain ⟨self5, hself5⟩ : ∃ g, g = F138_l5 k y101 m5 := ⟨_, rfl⟩
    have hF : F138_b5 k self5 y101 v152 v153 v155 = some r := by first | (rw [hself5]; exact hF) | exact hF
    refine WA.seq ?_
    refine WA.join (fun s_ => ∃ (v158 : rex_reader) (v159 : Bool), pickE s_.env [0, 2, 3, 4, 17] = [(0, .val false [.ptr 0 1 0 0]), (2, .val false [.ptr 102 1 0 0]), (3, one (.bool y101.1)), (4, .val false [.arr 104 v154]), (17, one (.bool v159))] ∧ pickE s_.os [0, 102, 104] = [(0, .box (pvL (e_rex_reader v158))), (102, .box (pvL (e_api_Re (⟨0, ([] : List api_Range), ([] : List api_Re), 0, 0⟩ : api_Re)))), (104, .arr 2 (v153.map e_api_Range))] ∧ F138_j6 k self5 y101 v153 v158 v159 = some r) ?_ ?_
    · rintro s_ ⟨v158, v159, he, ho, hF⟩
      refine WA.keep _ _ he ho ?_
      clear he ho
      refine WA.cond (b := v159) rfl (fun hb160 => ?_) (fun hb160 => ?_)
      · have hF := cond_t hF hb160
        refine WA.skip ?_
        refine WA.seq ?_
        refine WA.block ?_
        refine WA.seq ?_
        obtain ⟨y161, hy161, hF⟩ := bind_some hF
        refine WA.reg [0, 2, 3, 4, 6] [0, 102, 104] [(1, .callR [0] (one (.bool y161)))] (env' := [(0, .val false [.ptr 0 1 0 0]), (2, .val false [.ptr 102 1 0 0]), (3, one (.bool y101.1)), (4, .val false [.arr 104 v154]), (6, one (.bool y161))]) (os' := [(0, .box (pvL (e_rex_reader v158))), (102, .box (pvL (e_api_Re (⟨0, ([] : List api_Range), ([] : List api_Re), 0, 0⟩ : api_Re)))), (104, .arr 2 (v153.map e_api_Range))]) (O := [Sim Tryz.prog GL0 97 [.val false [.ptr 0 1 0 0], one (.str ([92, 100] : List UInt8))] [.box (pvL (e_rex_reader v158))] (one (.bool y161)) [.box (pvL (e_rex_reader v158))], ([0] : List Nat).Nodup]) (by kernel_rfl) (sound _ _) ⟨(F97_ok k _ _ _ hy161), (by decide), trivial⟩ ?_
        refine WA.seq ?_
        rcases orP_some hF with ⟨hz, hr⟩ | ⟨y162, hy162, hF⟩
        · subst hr
          refine WA.regP 1 [0] [] [] badV (f := 169) (args := [.val false [.ptr 0 1 0 0]]) (os := [.box (pvL (e_rex_reader v158))]) (env1 := []) (os1 := [(0, .box (pvL (e_rex_reader v158))), (102, .box (pvL (e_api_Re (⟨0, ([] : List api_Range), ([] : List api_Re), 0, 0⟩ : api_Re)))), (104, .arr 2 (v153.map e_api_Range))]) (O := []) (by kernel_rfl) (sound _ _) trivial (by decide) (F169_ok k _ _ hz) (fun psl hpsl => ?_)
          obtain ⟨ps, rfl⟩ := one_of_len hpsl
          exact ⟨rfl, [ps], by kernel_rfl, rfl⟩
        · refine WA.reg [0, 2, 3, 4, 6, 7] [0, 102, 104, 121] [(1, .call [0] (.val false [.arr 1 y162.1.length]) [.box (pvL (e_rex_reader y162.2)), .arr 2 (y162.1.map e_api_Range)] [121])] (env' := [(0, .val false [.ptr 0 1 0 0]), (2, .val false [.ptr 102 1 0 0]), (3, one (.bool y101.1)), (4, .val false [.arr 104 v154]), (6, one (.bool y161)), (7, .val false [.arr 121 y162.1.length])]) (os' := [(0, .box (pvL (e_rex_reader y162.2))), (102, .box (pvL (e_api_Re (⟨0, ([] : List api_Range), ([] : List api_Re), 0, 0⟩ : api_Re)))), (104, .arr 2 (v153.map e_api_Range)), (121, .arr 2 (y162.1.map e_api_Range))]) (O := [Sim Tryz.prog GL0 169 [.val false [.ptr 0 1 0 0]] [.box (pvL (e_rex_reader v158))] (.val false [.arr 1 y162.1.length]) [.box (pvL (e_rex_reader y162.2)), .arr 2 (y162.1.map e_api_Range)], ([0] : List Nat).Nodup]) (by kernel_rfl) (sound _ _) ⟨(F169_ok k _ _ hy162), (by decide), trivial⟩ ?_
          refine WA.join (fun s_ => ∃ (v177 : rex_reader) (v178 : List api_Range) (v179 : Nat), pickE s_.env [0, 2, 3, 4, 7] = [(0, .val false [.ptr 0 1 0 0]), (2, .val false [.ptr 102 1 0 0]), (3, one (.bool y101.1)), (4, .val false [.arr 104 v154]), (7, .val false [.arr 121 v179])] ∧ pickE s_.os [0, 102, 104, 121] = [(0, .box (pvL (e_rex_reader v177))), (102, .box (pvL (e_api_Re (⟨0, ([] : List api_Range), ([] : List api_Re), 0, 0⟩ : api_Re)))), (104, .arr 2 (v153.map e_api_Range)), (121, .arr 2 (v178.map e_api_Range))] ∧ v179 = (v178 : List _).length ∧ F138_j8 self5 v153 v177 v178 = some r) ?_ ?_
          · rintro s_ ⟨v177, v178, v179, he, ho, hn_v179, hF⟩
            refine WA.keep _ _ he ho ?_
            clear he ho
            refine WA.freeze 121 7 (s := 2) (n := v179) (els := (v178.map e_api_Range)) rfl rfl (by first | omega | (simp only [zlm, zla, zlc, zln, zls, zlr, zlt, zld, lens_api_Re]; done) | (simp only [zlm, zla, zlc, zln, zls, zlr, zlt, zld, lens_api_Re]; omega) | (simp only [zlm, zla, zlc, zln, zls, zlr, zlt, zld, lens_api_Re] at *; omega)) ?_
            refine WA.keep [0, 2, 3, 4, 7] [0, 102, 104] (env' := [(0, .val false [.ptr 0 1 0 0]), (2, .val false [.ptr 102 1 0 0]), (3, one (.bool y101.1)), (4, .val false [.arr 104 v154]), (7, one (.sl (v178.map e_api_Range)))]) (os' := [(0, .box (pvL (e_rex_reader v177))), (102, .box (pvL (e_api_Re (⟨0, ([] : List api_Range), ([] : List api_Re), 0, 0⟩ : api_Re)))), (104, .arr 2 (v153.map e_api_Range))]) (by kernel_rfl) (by kernel_rfl) ?_
            obtain ⟨hc180, hF⟩ := if_some hF
            refine WA.regM (α := Nat × (List (List PV))) (raw := ((v154 + (v178.map e_api_Range).length), ((v153.map e_api_Range) ++ (v178.map e_api_Range)))) (can := ((v154 + v178.length), ((v153 ++ v178).map e_api_Range))) (fun m_ => ([(0, .val false [.ptr 0 1 0 0]), (2, .val false [.ptr 102 1 0 0]), (3, one (.bool y101.1)), (4, .val false [.arr 104 m_.1])], [(0, .box (pvL (e_rex_reader v177))), (102, .box (pvL (e_api_Re (⟨0, ([] : List api_Range), ([] : List api_Re), 0, 0⟩ : api_Re)))), (104, .arr 2 m_.2)], [v154 = (v153.map e_api_Range).length, (v153.map e_api_Range).length + (v178.map e_api_Range).length ≤ 1073741824, ∀ es, es ∈ (v178.map e_api_Range) → es.length = 2])) (pair_eq (by first | (simp only [zlm, zla, zlc, zln, zls, zlr, zlt, zld, lens_api_Re]; done) | (simp only [zlm, zla, zlc, zln, zls, zlr, zlt, zld, lens_api_Re]; omega) | omega) (by first | (simp only [len_map, app_map, take_map, drop_map, set_map, rep_map, lens_api_Re, app_api_Re, take_api_Re, drop_api_Re, set_api_Re, es_api_Re, e0_eq_api_Re]; done) | (simp only [List.map_append, List.map_cons, List.map_nil, List.map_take, List.map_drop, List.map_set, List.map_replicate, List.length_map, es_map_api_Re, e0_eq_api_Re]; done))) [0, 2, 3, 4] [0, 102, 104] [] (env' := [(0, .val false [.ptr 0 1 0 0]), (2, .val false [.ptr 102 1 0 0]), (3, one (.bool y101.1)), (4, .val false [.arr 104 (v154 + v178.length)])]) (os' := [(0, .box (pvL (e_rex_reader v177))), (102, .box (pvL (e_api_Re (⟨0, ([] : List api_Range), ([] : List api_Re), 0, 0⟩ : api_Re)))), (104, .arr 2 ((v153 ++ v178).map e_api_Range))]) (O := [v154 = (v153.map e_api_Range).length, (v153.map e_api_Range).length + (v178.map e_api_Range).length ≤ 1073741824, ∀ es, es ∈ (v178.map e_api_Range) → es.length = 2]) (by kernel_rfl) (by kernel_rfl) (sound _ _) ⟨(by first | omega | (simp only [zlm, zla, zlc, zln, zls, zlr, zlt, zld, lens_api_Re]; done) | (simp only [zlm, zla, zlc, zln, zls, zlr, zlt, zld, lens_api_Re]; omega) | (simp only [zlm, zla, zlc, zln, zls, zlr, zlt, zld, lens_api_Re] at *; omega)), (by first | exact hc180 | (simp only [List.length_map, lens_api_Re] ; exact hc180)), (len_api_Range v178), trivial⟩ ?_
            refine WA.reg [0, 2, 3, 4, 5] [0, 102, 104] [] (env' := [(0, .val false [.ptr 0 1 0 0]), (2, .val false [.ptr 102 1 0 0]), (3, one (.bool y101.1)), (4, .val false [.arr 104 (v154 + v178.length)]), (5, one (.bool false))]) (os' := [(0, .box (pvL (e_rex_reader v177))), (102, .box (pvL (e_api_Re (⟨0, ([] : List api_Range), ([] : List api_Re), 0, 0⟩ : api_Re)))), (104, .arr 2 ((v153 ++ v178).map e_api_Range))]) (O := []) (by kernel_rfl) (sound _ _) trivial ?_
            exact ⟨m5, Nat.lt_succ_self _, v177, (v153 ++ v178), (v154 + v178.length), false, by kernel_rfl, by kernel_rfl, (by first | omega | (simp only [zlm, zla, zlc, zln, zls, zlr, zlt, zld, lens_api_Re]; done) | (simp only [zlm, zla, zlc, zln, zls, zlr, zlt, zld, lens_api_Re]; omega) | (simp only [zlm, zla, zlc, zln, zls, zlr, zlt, zld, lens_api_Re] at *; omega)), by rw [hself5] at hF; exact hF⟩
          · refine WA.seq ?_
            obtain ⟨y163, hy163, hF⟩ := bind_some hF
            refine WA.reg [0, 2, 3, 4, 6, 7, 23] [0, 102, 104, 121] [(1, .call [0] (one (.bool y163.1)) [.box (pvL (e_rex_reader y163.2))] [])] (env' := [(0, .val false [.ptr 0 1 0 0]), (2, .val false [.ptr 102 1 0 0]), (3, one (.bool y101.1)), (4, .val false [.arr 104 v154]), (6, one (.bool y161)), (7, .val false [.arr 121 y162.1.length]), (23, one (.bool y163.1))]) (os' := [(0, .box (pvL (e_rex_reader y163.2))), (102, .box (pvL (e_api_Re (⟨0, ([] : List api_Range), ([] : List api_Re), 0, 0⟩ : api_Re)))), (104, .arr 2 (v153.map e_api_Range)), (121, .arr 2 (y162.1.map e_api_Range))]) (O := [Sim Tryz.prog GL0 71 [.val false [.ptr 0 1 0 0], one (.str ([45] : List UInt8))] [.box (pvL (e_rex_reader y162.2))] (one (.bool y163.1)) [.box (pvL (e_rex_reader y163.2))], ([0] : List Nat).Nodup]) (by kernel_rfl) (sound _ _) ⟨(F71_ok k _ _ _ hy163), (by decide), trivial⟩ ?_
            refine WA.cond (b := y163.1) rfl (fun hb164 => ?_) (fun hb164 => ?_)
            · have hF := cond_t hF hb164
              refine WA.seq ?_
              obtain ⟨y165, hy165, hF⟩ := bind_some hF
              refine WA.reg [0, 2, 3, 4, 6, 7, 8] [0, 102, 104, 121] [(1, .callR [0] (one (.bool y165)))] (env' := [(0, .val false [.ptr 0 1 0 0]), (2, .val false [.ptr 102 1 0 0]), (3, one (.bool y101.1)), (4, .val false [.arr 104 v154]), (6, one (.bool y161)), (7, .val false [.arr 121 y162.1.length]), (8, one (.bool y165))]) (os' := [(0, .box (pvL (e_rex_reader y163.2))), (102, .box (pvL (e_api_Re (⟨0, ([] : List api_Range), ([] : List api_Re), 0, 0⟩ : api_Re)))), (104, .arr 2 (v153.map e_api_Range)), (121, .arr 2 (y162.1.map e_api_Range))]) (O := [Sim Tryz.prog GL0 97 [.val false [.ptr 0 1 0 0], one (.str ([92, 100] : List UInt8))] [.box (pvL (e_rex_reader y163.2))] (one (.bool y165)) [.box (pvL (e_rex_reader y163.2))], ([0] : List Nat).Nodup]) (by kernel_rfl) (sound _ _) ⟨(F97_ok k _ _ _ hy165), (by decide), trivial⟩ ?_
              refine WA.seq ?_
              rcases orP_some hF with ⟨hz, hr⟩ | ⟨y166, hy166, hF⟩
              · subst hr
                refine WA.regP 1 [0] [] [] badV (f := 169) (args := [.val false [.ptr 0 1 0 0]]) (os := [.box (pvL (e_rex_reader y163.2))]) (env1 := []) (os1 := [(0, .box (pvL (e_rex_reader y163.2))), (102, .box (pvL (e_api_Re (⟨0, ([] : List api_Range), ([] : List api_Re), 0, 0⟩ : api_Re)))), (104, .arr 2 (v153.map e_api_Range)), (121, .arr 2 (y162.1.map e_api_Range))]) (O := []) (by kernel_rfl) (sound _ _) trivial (by decide) (F169_ok k _ _ hz) (fun psl hpsl => ?_)
                obtain ⟨ps, rfl⟩ := one_of_len hpsl
                exact ⟨rfl, [ps], by kernel_rfl, rfl⟩
              · refine WA.reg [0, 2, 3, 4, 6, 7, 8, 9] [0, 102, 104, 121] [(1, .call [0] (one (.sl (y166.1.map e_api_Range))) [.box (pvL (e_rex_reader y166.2))] [])] (env' := [(0, .val false [.ptr 0 1 0 0]), (2, .val false [.ptr 102 1 0 0]), (3, one (.bool y101.1)), (4, .val false [.arr 104 v154]), (6, one (.bool y161)), (7, .val false [.arr 121 y162.1.length]), (8, one (.bool y165)), (9, one (.sl (y166.1.map e_api_Range)))]) (os' := [(0, .box (pvL (e_rex_reader y166.2))), (102, .box (pvL (e_api_Re (⟨0, ([] : List api_Range), ([] : List api_Re), 0, 0⟩ : api_Re)))), (104, .arr 2 (v153.map e_api_Range)), (121, .arr 2 (y162.1.map e_api_Range))]) (O := [Sim Tryz.prog GL0 169 [.val false [.ptr 0 1 0 0]] [.box (pvL (e_rex_reader y163.2))] (one (.sl (y166.1.map e_api_Range))) [.box (pvL (e_rex_reader y166.2))], ([0] : List Nat).Nodup]) (by kernel_rfl) (sound _ _) ⟨(sim_frz (os' := [.box (pvL (e_rex_reader y166.2))]) (m := 1) rfl (Nat.le_refl _) (List.length_map _).symm (F169_ok k _ _ hy166)), (by decide), trivial⟩ ?_
                refine WA.seq ?_
                refine WA.join (fun s_ => ∃ (v172 : Bool), pickE s_.env [0, 2, 3, 4, 7, 9, 42] = [(0, .val false [.ptr 0 1 0 0]), (2, .val false [.ptr 102 1 0 0]), (3, one (.bool y101.1)), (4, .val false [.arr 104 v154]), (7, .val false [.arr 121 y162.1.length]), (9, one (.sl (y166.1.map e_api_Range))), (42, one (.bool v172))] ∧ pickE s_.os [0, 102, 104, 121] = [(0, .box (pvL (e_rex_reader y166.2))), (102, .box (pvL (e_api_Re (⟨0, ([] : List api_Range), ([] : List api_Re), 0, 0⟩ : api_Re)))), (104, .arr 2 (v153.map e_api_Range)), (121, .arr 2 (y162.1.map e_api_Range))] ∧ F138_j7 self5 v153 y162 y166 v172 = some r) ?_ ?_
                · rintro s_ ⟨v172, he, ho, hF⟩
                  refine WA.keep _ _ he ho ?_
                  clear he ho
                  refine WA.cond (b := v172) rfl (fun hb173 => ?_) (fun hb173 => ?_)
                  · have hF := cond_t hF hb173
                    refine WA.bad [] (t := 70) (env1 := []) (os1 := [(0, .box (pvL (e_rex_reader y166.2))), (102, .box (pvL (e_api_Re (⟨0, ([] : List api_Range), ([] : List api_Re), 0, 0⟩ : api_Re)))), (104, .arr 2 (v153.map e_api_Range)), (121, .arr 2 (y162.1.map e_api_Range))]) (O := []) (by kernel_rfl) (sound _ _) trivial ?_
                    obtain rfl := Option.some.inj hF
                    exact ⟨rfl, [(e_rex_reader y166.2)], by kernel_rfl, rfl⟩
                  · have hF := cond_f hF hb173
                    refine WA.skip ?_
                    obtain ⟨y174, hy174, hF⟩ := bind_some hF
                    obtain ⟨hc175, hF⟩ := if_some hF
                    obtain ⟨y176, hy176, hF⟩ := bind_some hF
                    refine WA.regM (α := (List (List PV))) (raw := ((y162.1.map e_api_Range).set (Int.toNat 0) (e_api_Range ({ y176 with f_Hi := y174.f_Lo } : api_Range)))) (can := ((y162.1.set (Int.toNat 0) ({ y176 with f_Hi := y174.f_Lo } : api_Range)).map e_api_Range)) (fun m_ => ([(0, .val false [.ptr 0 1 0 0]), (2, .val false [.ptr 102 1 0 0]), (3, one (.bool y101.1)), (4, .val false [.arr 104 v154]), (7, .val false [.arr 121 y162.1.length])], [(0, .box (pvL (e_rex_reader y166.2))), (102, .box (pvL (e_api_Re (⟨0, ([] : List api_Range), ([] : List api_Re), 0, 0⟩ : api_Re)))), (104, .arr 2 (v153.map e_api_Range)), (121, .arr 2 m_)], [idxL (y166.1.map e_api_Range) 0 = some (e_api_Range y174), y162.1.length = (y162.1.map e_api_Range).length, (0 : Int) ≤ 0, 0 < ((y162.1.length : Nat) : Int), y162.1.length = (y162.1.map e_api_Range).length, 0 < y162.1.length, y162.1.length = (y162.1.map e_api_Range).length, (y162.1.map e_api_Range)[Int.toNat 0]? = some (e_api_Range y176)])) ((by first | (simp only [len_map, app_map, take_map, drop_map, set_map, rep_map, lens_api_Re, app_api_Re, take_api_Re, drop_api_Re, set_api_Re, es_api_Re, e0_eq_api_Re]; done) | (simp only [List.map_append, List.map_cons, List.map_nil, List.map_take, List.map_drop, List.map_set, List.map_replicate, List.length_map, es_map_api_Re, e0_eq_api_Re]; done))) [0, 2, 3, 4, 7] [0, 102, 104, 121] [(2, .cells (e_api_Range y174)), (7, .cells (e_api_Range y176))] (env' := [(0, .val false [.ptr 0 1 0 0]), (2, .val false [.ptr 102 1 0 0]), (3, one (.bool y101.1)), (4, .val false [.arr 104 v154]), (7, .val false [.arr 121 y162.1.length])]) (os' := [(0, .box (pvL (e_rex_reader y166.2))), (102, .box (pvL (e_api_Re (⟨0, ([] : List api_Range), ([] : List api_Re), 0, 0⟩ : api_Re)))), (104, .arr 2 (v153.map e_api_Range)), (121, .arr 2 ((y162.1.set (Int.toNat 0) ({ y176 with f_Hi := y174.f_Lo } : api_Range)).map e_api_Range))]) (O := [idxL (y166.1.map e_api_Range) 0 = some (e_api_Range y174), y162.1.length = (y162.1.map e_api_Range).length, (0 : Int) ≤ 0, 0 < ((y162.1.length : Nat) : Int), y162.1.length = (y162.1.map e_api_Range).length, 0 < y162.1.length, y162.1.length = (y162.1.map e_api_Range).length, (y162.1.map e_api_Range)[Int.toNat 0]? = some (e_api_Range y176)]) (by kernel_rfl) (by kernel_rfl) (sound _ _) ⟨(idx_map _ hy174), (by first | omega | (simp only [zlm, zla, zlc, zln, zls, zlr, zlt, zld, lens_api_Re]; done) | (simp only [zlm, zla, zlc, zln, zls, zlr, zlt, zld, lens_api_Re]; omega) | (simp only [zlm, zla, zlc, zln, zls, zlr, zlt, zld, lens_api_Re] at *; omega)), hc175.1, (by have h_ := hc175.2; (try simp only [zlm, zla, zlc, zln, zls, zlr, zlt, zld, lens_api_Re] at h_ ⊢); omega), (by first | omega | (simp only [zlm, zla, zlc, zln, zls, zlr, zlt, zld, lens_api_Re]; done) | (simp only [zlm, zla, zlc, zln, zls, zlr, zlt, zld, lens_api_Re]; omega) | (simp only [zlm, zla, zlc, zln, zls, zlr, zlt, zld, lens_api_Re] at *; omega)), (by omega), (by first | omega | (simp only [zlm, zla, zlc, zln, zls, zlr, zlt, zld, lens_api_Re]; done) | (simp only [zlm, zla, zlc, zln, zls, zlr, zlt, zld, lens_api_Re]; omega) | (simp only [zlm, zla, zlc, zln, zls, zlr, zlt, zld, lens_api_Re] at *; omega)), (get_of_idx (idx_map _ hy176)), trivial⟩ ?_
                    exact ⟨y166.2, (y162.1.set (Int.toNat 0) ({ y176 with f_Hi := y174.f_Lo } : api_Range)), y162.1.length, by kernel_rfl, by kernel_rfl, (by first | omega | (simp only [zlm, zla, zlc, zln, zls, zlr, zlt, zld, lens_api_Re]; done) | (simp only [zlm, zla, zlc, zln, zls, zlr, zlt, zld, lens_api_Re]; omega) | (simp only [zlm, zla, zlc, zln, zls, zlr, zlt, zld, lens_api_Re] at *; omega)), hF⟩
                · rcases Bool.eq_false_or_eq_true y161 with hb167 | hb167
                  · have hF := cond_t hF hb167
                    refine WA.regD (by kernel_rfl) [0, 2, 3, 4, 7, 9, 42] [0, 102, 104, 121] [(1, .bool true)] (env' := [(0, .val false [.ptr 0 1 0 0]), (2, .val false [.ptr 102 1 0 0]), (3, one (.bool y101.1)), (4, .val false [.arr 104 v154]), (7, .val false [.arr 121 y162.1.length]), (9, one (.sl (y166.1.map e_api_Range))), (42, one (.bool true))]) (os' := [(0, .box (pvL (e_rex_reader y166.2))), (102, .box (pvL (e_api_Re (⟨0, ([] : List api_Range), ([] : List api_Re), 0, 0⟩ : api_Re)))), (104, .arr 2 (v153.map e_api_Range)), (121, .arr 2 (y162.1.map e_api_Range))]) (O := [y161 = true]) (by kernel_rfl) (by kernel_rfl) (sound _ _) ⟨hb167, trivial⟩ ?_
                    exact ⟨true, by kernel_rfl, by kernel_rfl, hF⟩
                  · have hF := cond_f hF hb167
                    rcases Bool.eq_false_or_eq_true y165 with hb168 | hb168
                    · have hF := cond_t hF hb168
                      refine WA.regD (by kernel_rfl) [0, 2, 3, 4, 7, 9, 42] [0, 102, 104, 121] [(1, .bool false), (4, .bool true)] (env' := [(0, .val false [.ptr 0 1 0 0]), (2, .val false [.ptr 102 1 0 0]), (3, one (.bool y101.1)), (4, .val false [.arr 104 v154]), (7, .val false [.arr 121 y162.1.length]), (9, one (.sl (y166.1.map e_api_Range))), (42, one (.bool true))]) (os' := [(0, .box (pvL (e_rex_reader y166.2))), (102, .box (pvL (e_api_Re (⟨0, ([] : List api_Range), ([] : List api_Re), 0, 0⟩ : api_Re)))), (104, .arr 2 (v153.map e_api_Range)), (121, .arr 2 (y162.1.map e_api_Range))]) (O := [y161 = false, y165 = true]) (by kernel_rfl) (by kernel_rfl) (sound _ _) ⟨hb167, hb168, trivial⟩ ?_
                      exact ⟨true, by kernel_rfl, by kernel_rfl, hF⟩
                    · have hF := cond_f hF hb168
                      obtain ⟨y169, hy169, hF⟩ := bind_some hF
                      obtain ⟨hc170, hF⟩ := if_some hF
                      obtain ⟨y171, hy171, hF⟩ := bind_some hF
                      refine WA.regD (by kernel_rfl) [0, 2, 3, 4, 7, 9, 42] [0, 102, 104, 121] [(1, .bool false), (4, .bool false), (6, .cells (e_api_Range y169)), (12, .cells (e_api_Range y171))] (env' := [(0, .val false [.ptr 0 1 0 0]), (2, .val false [.ptr 102 1 0 0]), (3, one (.bool y101.1)), (4, .val false [.arr 104 v154]), (7, .val false [.arr 121 y162.1.length]), (9, one (.sl (y166.1.map e_api_Range))), (42, one (.bool (decide (y169.f_Lo < y171.f_Lo))))]) (os' := [(0, .box (pvL (e_rex_reader y166.2))), (102, .box (pvL (e_api_Re (⟨0, ([] : List api_Range), ([] : List api_Re), 0, 0⟩ : api_Re)))), (104, .arr 2 (v153.map e_api_Range)), (121, .arr 2 (y162.1.map e_api_Range))]) (O := [y161 = false, y165 = false, idxL (y166.1.map e_api_Range) 0 = some (e_api_Range y169), y162.1.length = (y162.1.map e_api_Range).length, (0 : Int) ≤ 0, 0 < ((y162.1.length : Nat) : Int), y162.1.length = (y162.1.map e_api_Range).length, 0 < y162.1.length, y162.1.length = (y162.1.map e_api_Range).length, (y162.1.map e_api_Range)[Int.toNat 0]? = some (e_api_Range y171)]) (by kernel_rfl) (by kernel_rfl) (sound _ _) ⟨hb167, hb168, (idx_map _ hy169), (by first | omega | (simp only [zlm, zla, zlc, zln, zls, zlr, zlt, zld, lens_api_Re]; done) | (simp only [zlm, zla, zlc, zln, zls, zlr, zlt, zld, lens_api_Re]; omega) | (simp only [zlm, zla, zlc, zln, zls, zlr, zlt, zld, lens_api_Re] at *; omega)), hc170.1, (by have h_ := hc170.2; (try simp only [zlm, zla, zlc, zln, zls, zlr, zlt, zld, lens_api_Re] at h_ ⊢); omega), (by first | omega | (simp only [zlm, zla, zlc, zln, zls, zlr, zlt, zld, lens_api_Re]; done) | (simp only [zlm, zla, zlc, zln, zls, zlr, zlt, zld, lens_api_Re]; omega) | (simp only [zlm, zla, zlc, zln, zls, zlr, zlt, zld, lens_api_Re] at *; omega)), (by omega), (by first | omega | (simp only [zlm, zla, zlc, zln, zls, zlr, zlt, zld, lens_api_Re]; done) | (simp only [zlm, zla, zlc, zln, zls, zlr, zlt, zld, lens_api_Re]; omega) | (simp only [zlm, zla, zlc, zln, zls, zlr, zlt, zld, lens_api_Re] at *; omega)), (get_of_idx (idx_map _ hy171)), trivial⟩ ?_
                      exact ⟨(decide (y169.f_Lo < y171.f_Lo)), by kernel_rfl, by kernel_rfl, hF⟩
            · have hF := cond_f hF hb164
              refine WA.skip ?_
              exact ⟨y163.2, y162.1, y162.1.length, by kernel_rfl, by kernel_rfl, (by first | omega | (simp only [zlm, zla, zlc, zln, zls, zlr, zlt, zld, lens_api_Re]; done) | (simp only [zlm, zla, zlc, zln, zls, zlr, zlt, zld, lens_api_Re]; omega) | (simp only [zlm, zla, zlc, zln, zls, zlr, zlt, zld, lens_api_Re] at *; omega)), hF⟩
      · have hF := cond_f hF hb160
        refine WA.exit ?_
        refine WA.seq ?_
        refine WA.freeze 104 4 (s := 2) (n := v154) (els := (v153.map e_api_Range)) rfl rfl (by first | omega | (simp only [zlm, zla, zlc, zln, zls, zlr, zlt, zld, lens_api_Re]; done) | (simp only [zlm, zla, zlc, zln, zls, zlr, zlt, zld, lens_api_Re]; omega) | (simp only [zlm, zla, zlc, zln, zls, zlr, zlt, zld, lens_api_Re] at *; omega)) ?_
        refine WA.keep [2, 3, 4] [0, 102] (env' := [(2, .val false [.ptr 102 1 0 0]), (3, one (.bool y101.1)), (4, one (.sl (v153.map e_api_Range)))]) (os' := [(0, .box (pvL (e_rex_reader v158))), (102, .box (pvL (e_api_Re (⟨0, ([] : List api_Range), ([] : List api_Re), 0, 0⟩ : api_Re))))]) (by kernel_rfl) (by kernel_rfl) ?_
        obtain ⟨y181, hy181, hF⟩ := bind_some hF
        obtain ⟨y182, hy182, hF⟩ := bind_some hF
        obtain ⟨y183, hy183, hF⟩ := bind_some hF
        refine WA.reg [2, 3, 4] [0, 102] [(1, .callR [] (one (.sl (y181.map e_api_Range)))), (2, .callR [] (one (.sl (y182.map e_api_Range)))), (3, .callR [] (one (.sl (y183.map e_api_Range))))] (env' := [(2, .val false [.ptr 102 1 0 0]), (3, one (.bool y101.1)), (4, one (.sl (y183.map e_api_Range)))]) (os' := [(0, .box (pvL (e_rex_reader v158))), (102, .box (pvL (e_api_Re (⟨0, ([] : List api_Range), ([] : List api_Re), 0, 0⟩ : api_Re))))]) (O := [Sim Tryz.prog GL0 77 [one (.sl (v153.map e_api_Range))] [] (one (.sl (y181.map e_api_Range))) [], ([] : List Nat).Nodup, Sim Tryz.prog GL0 59 [] [] (one (.sl (y182.map e_api_Range))) [], ([] : List Nat).Nodup, Sim Tryz.prog GL0 76 [one (.sl (y181.map e_api_Range)), one (.sl (y182.map e_api_Range))] [] (one (.sl (y183.map e_api_Range))) [], ([] : List Nat).Nodup]) (by kernel_rfl) (sound _ _) ⟨(F77_ok k _ _ hy181), (by decide), (F59_ok k _ hy182), (by decide), (F76_ok k _ _ _ hy183), (by decide), trivial⟩ ?_
        refine WA.join (fun s_ => ∃ (v186 : List api_Range), pickE s_.env [2, 4] = [(2, .val false [.ptr 102 1 0 0]), (4, one (.sl (v186.map e_api_Range)))] ∧ pickE s_.os [0, 102] = [(0, .box (pvL (e_rex_reader v158))), (102, .box (pvL (e_api_Re (⟨0, ([] : List api_Range), ([] : List api_Re), 0, 0⟩ : api_Re))))] ∧ F138_j9 k v158 v186 = some r) ?_ ?_
        · rintro s_ ⟨v186, he, ho, hF⟩
          refine WA.keep _ _ he ho ?_
          clear he ho
          refine WA.seq ?_
          obtain ⟨y187, hy187, hF⟩ := bind_some hF
          refine WA.reg [2] [0, 102] [(1, .callR [] (.val true (pvL (e_api_Re y187))))] (env' := [(2, .val false [.ptr 102 1 0 0])]) (os' := [(0, .box (pvL (e_rex_reader v158))), (102, .box (pvL (e_api_Re y187)))]) (O := [Sim Tryz.prog GL0 58 [one (.sl (v186.map e_api_Range))] [] (.val true (pvL (e_api_Re y187))) [], ([] : List Nat).Nodup]) (by kernel_rfl) (sound _ _) ⟨(F58_ok k _ _ hy187), (by decide), trivial⟩ ?_
          refine WA.ret ?_
          obtain rfl := Option.some.inj hF
          exact out_ret (.val true (pvL (e_api_Re y187))) [.box (pvL (e_rex_reader v158))] (by kernel_rfl) (by kernel_rfl) (by kernel_rfl) (by kernel_rfl) (by decide) rfl rfl
        · refine WA.seq ?_
          refine WA.reg [2, 4, 59] [0, 102] [] (env' := [(2, .val false [.ptr 102 1 0 0]), (4, one (.sl (y183.map e_api_Range))), (59, one (.bool y101.1))]) (os' := [(0, .box (pvL (e_rex_reader v158))), (102, .box (pvL (e_api_Re (⟨0, ([] : List api_Range), ([] : List api_Re), 0, 0⟩ : api_Re))))]) (O := []) (by kernel_rfl) (sound _ _) trivial ?_
          refine WA.cond (b := y101.1) rfl (fun hb184 => ?_) (fun hb184 => ?_)
          · have hF := cond_t hF hb184
            obtain ⟨y185, hy185, hF⟩ := bind_some hF
            refine WA.reg [2, 4] [0, 102] [(1, .callR [] (one (.sl (y185.map e_api_Range))))] (env' := [(2, .val false [.ptr 102 1 0 0]), (4, one (.sl (y185.map e_api_Range)))]) (os' := [(0, .box (pvL (e_rex_reader v158))), (102, .box (pvL (e_api_Re (⟨0, ([] : List api_Range), ([] : List api_Re), 0, 0⟩ : api_Re))))]) (O := [Sim Tryz.prog GL0 109 [one (.sl (y183.map e_api_Range))] [] (one (.sl (y185.map e_api_Range))) [], ([] : List Nat).Nodup]) (by kernel_rfl) (sound _ _) ⟨(F109_ok k _ _ hy185), (by decide), trivial⟩ ?_
            exact ⟨y185, by kernel_rfl, by kernel_rfl, hF⟩
          · have hF := cond_f hF hb184
            refine WA.skip ?_
            exact ⟨y183, by kernel_rfl, by kernel_rfl, hF⟩
    · rcases Bool.eq_false_or_eq_true v155 with hb156 | hb156
      · have hF := cond_t hF hb156
        refine WA.reg [0, 2, 3, 4, 17] [0, 102, 104] [(1, .bool true)] (env' := [(0, .val false [.ptr 0 1 0 0]), (2, .val false [.ptr 102 1 0 0]), (3, one (.bool y101.1)), (4, .val false [.arr 104 v154]), (17, one (.bool true))]) (os' := [(0, .box (pvL (e_rex_reader v152))), (102, .box (pvL (e_api_Re (⟨0, ([] : List api_Range), ([] : List api_Re), 0, 0⟩ : api_Re)))), (104, .arr 2 (v153.map e_api_Range))]) (O := [v155 = true]) (by kernel_rfl) (sound _ _) ⟨hb156, trivial⟩ ?_
        exact ⟨v152, true, by kernel_rfl, by kernel_rfl, hF⟩
      · have hF := cond_f hF hb156
        obtain ⟨y157, hy157, hF⟩ := bind_some hF
        refine WA.reg [0, 2, 3, 4, 17] [0, 102, 104] [(1, .bool false), (3, .call [0] (one (.bool y157.1)) [.box (pvL (e_rex_reader y157.2))] [])] (env' := [(0, .val false [.ptr 0 1 0 0]), (2, .val false [.ptr 102 1 0 0]), (3, one (.bool y101.1)), (4, .val false [.arr 104 v154]), (17, one (.bool (!y157.1)))]) (os' := [(0, .box (pvL (e_rex_reader y157.2))), (102, .box (pvL (e_api_Re (⟨0, ([] : List api_Range), ([] : List api_Re), 0, 0⟩ : api_Re)))), (104, .arr 2 (v153.map e_api_Range))]) (O := [v155 = false, Sim Tryz.prog GL0 71 [.val false [.ptr 0 1 0 0], one (.str ([93] : List UInt8))] [.box (pvL (e_rex_reader v152))] (one (.bool y157.1)) [.box (pvL (e_rex_reader y157.2))], ([0] : List Nat).Nodup]) (by kernel_rfl) (sound _ _) ⟨hb156, (F71_ok k _ _ _ hy157), (by decide), trivial⟩ ?_
        exact ⟨y157.2, (!y157.1), by kernel_rfl, by kernel_rfl, hF⟩
/-!   entrepot rex.reader .atom -/
def F117 (R48 : rex_reader → Option (Option (api_Re × rex_reader))) (k : Nat) (v0 : rex_reader) : Option (Option (api_Re × rex_reader)) :=
  (F71 k v0 ([40] : List UInt8)).bind fun y101 => (cond y101.1 (orP (R48 y101.2) fun y103 => (F71 k y103.2 ([41] : List UInt8)).bind fun y104 => (cond (!y104.1) (some none) (((some (some (y103.1, y104.2))))))) ((F71 k y101.2 ([91] : List UInt8)).bind fun y106 => (cond y106.1 (orP (F138 k y106.2) fun y108 => (some (some (y108.1, y108.2)))) ((F71 k y106.2 ([46] : List UInt8)).bind fun y109 => (cond y109.1 ((F59 k).bind fun y111 => (F58 k y111).bind fun y112 => (some (some (y112, y109.2)))) ((F71 k y109.2 ([92] : List UInt8)).bind fun y113 => (cond y113.1 (orP (F139 k y113.2 ([92, 46, 91, 93, 40, 41, 123, 125, 42, 43, 63, 124, 94, 36, 45, 47] : List UInt8)) fun y115 => (F58 k y115.1).bind fun y116 => (some (some (y116, y115.2)))) ((orP (F140 k y113.2) fun y117 => (F141 k ([92, 46, 91, 93, 40, 41, 123, 125, 42, 43, 63, 124, 94, 36] : List UInt8) (IntKind.wrap .i32 y117.1)).bind fun y118 => (cond y118 (some none) ((F58 k ([(⟨y117.1, y117.1⟩ : api_Range)] : List api_Range)).bind fun y120 => (some (some (y120, y117.2))))))))))))))
theorem F117_ok (R48 : rex_reader → Option (Option (api_Re × rex_reader))) (IH48 : ∀ (v0 : rex_reader) (r : Option (api_Re × rex_reader)), R48 v0 = some r → SimP Tryz.prog GL0 badV 48 [.val false [.ptr 0 1 0 0]] [.box (pvL (e_rex_reader v0))] (r.map fun r => (.val true (pvL (e_api_Re r.1)), [.box (pvL (e_rex_reader r.2))]))) (k : Nat) (v0 : rex_reader) (r : Option (api_Re × rex_reader)) (hF : F117 R48 k v0 = some r) : SimP Tryz.prog GL0 badV 117 [.val false [.ptr 0 1 0 0]] [.box (pvL (e_rex_reader v0))] (r.map fun r => (.val true (pvL (e_api_Re r.1)), [.box (pvL (e_rex_reader r.2))])) := by
  refine simP_of [0] Tryz.func117 rfl (by kernel_rfl) (by kernel_rfl) ?_
  show WA _ _ 44 _ _ _
  refine WA.seq ?_
  refine WA.reg [0, 2] [0, 102] [(0, .obj 102)] (env' := [(0, .val false [.ptr 0 1 0 0]), (2, .val false [.ptr 102 1 0 0])]) (os' := [(0, .box (pvL (e_rex_reader v0))), (102, .box (pvL (e_api_Re (⟨0, ([] : List api_Range), ([] : List api_Re), 0, 0⟩ : api_Re))))]) (O := []) (by kernel_rfl) (sound _ _) trivial ?_
  refine WA.seq ?_
  refine WA.block ?_
  refine WA.seq ?_
  obtain ⟨y101, hy101, hF⟩ := bind_some hF
  refine WA.reg [0, 2, 5] [0, 102] [(1, .call [0] (one (.bool y101.1)) [.box (pvL (e_rex_reader y101.2))] [])] (env' := [(0, .val false [.ptr 0 1 0 0]), (2, .val false [.ptr 102 1 0 0]), (5, one (.bool y101.1))]) (os' := [(0, .box (pvL (e_rex_reader y101.2))), (102, .box (pvL (e_api_Re (⟨0, ([] : List api_Range), ([] : List api_Re), 0, 0⟩ : api_Re))))]) (O := [Sim Tryz.prog GL0 71 [.val false [.ptr 0 1 0 0], one (.str ([40] : List UInt8))] [.box (pvL (e_rex_reader v0))] (one (.bool y101.1)) [.box (pvL (e_rex_reader y101.2))], ([0] : List Nat).Nodup]) (by kernel_rfl) (sound _ _) ⟨(F71_ok k _ _ _ hy101), (by decide), trivial⟩ ?_
  refine WA.cond (b := y101.1) rfl (fun hb102 => ?_) (fun hb102 => ?_)
  · have hF := cond_t hF hb102
    refine WA.seq ?_
    rcases orP_some hF with ⟨hz, hr⟩ | ⟨y103, hy103, hF⟩
    · subst hr
      refine WA.regP 1 [0] [] [] badV (f := 48) (args := [.val false [.ptr 0 1 0 0]]) (os := [.box (pvL (e_rex_reader y101.2))]) (env1 := []) (os1 := [(0, .box (pvL (e_rex_reader y101.2))), (102, .box (pvL (e_api_Re (⟨0, ([] : List api_Range), ([] : List api_Re), 0, 0⟩ : api_Re))))]) (O := []) (by kernel_rfl) (sound _ _) trivial (by decide) (IH48 _ _ hz) (fun psl hpsl => ?_)
      obtain ⟨ps, rfl⟩ := one_of_len hpsl
      exact ⟨rfl, [ps], by kernel_rfl, rfl⟩
    · refine WA.reg [0, 2, 3] [0, 102, 103] [(1, .call [0] (.val true (pvL (e_api_Re y103.1))) [.box (pvL (e_rex_reader y103.2))] []), (2, .obj 103)] (env' := [(0, .val false [.ptr 0 1 0 0]), (2, .val false [.ptr 102 1 0 0]), (3, .val false [.ptr 103 1 0 0])]) (os' := [(0, .box (pvL (e_rex_reader y103.2))), (102, .box (pvL (e_api_Re (⟨0, ([] : List api_Range), ([] : List api_Re), 0, 0⟩ : api_Re)))), (103, .box (pvL (e_api_Re y103.1)))]) (O := [Sim Tryz.prog GL0 48 [.val false [.ptr 0 1 0 0]] [.box (pvL (e_rex_reader y101.2))] (.val true (pvL (e_api_Re y103.1))) [.box (pvL (e_rex_reader y103.2))], ([0] : List Nat).Nodup]) (by kernel_rfl) (sound _ _) ⟨(IH48 _ _ hy103), (by decide), trivial⟩ ?_
      refine WA.seq ?_
      refine WA.seq ?_
      obtain ⟨y104, hy104, hF⟩ := bind_some hF
      refine WA.reg [2, 3, 12] [0, 102, 103] [(1, .call [0] (one (.bool y104.1)) [.box (pvL (e_rex_reader y104.2))] [])] (env' := [(2, .val false [.ptr 102 1 0 0]), (3, .val false [.ptr 103 1 0 0]), (12, one (.bool (!y104.1)))]) (os' := [(0, .box (pvL (e_rex_reader y104.2))), (102, .box (pvL (e_api_Re (⟨0, ([] : List api_Range), ([] : List api_Re), 0, 0⟩ : api_Re)))), (103, .box (pvL (e_api_Re y103.1)))]) (O := [Sim Tryz.prog GL0 71 [.val false [.ptr 0 1 0 0], one (.str ([41] : List UInt8))] [.box (pvL (e_rex_reader y103.2))] (one (.bool y104.1)) [.box (pvL (e_rex_reader y104.2))], ([0] : List Nat).Nodup]) (by kernel_rfl) (sound _ _) ⟨(F71_ok k _ _ _ hy104), (by decide), trivial⟩ ?_
      refine WA.cond (b := (!y104.1)) rfl (fun hb105 => ?_) (fun hb105 => ?_)
      · have hF := cond_t hF hb105
        refine WA.bad [] (t := 70) (env1 := []) (os1 := [(0, .box (pvL (e_rex_reader y104.2))), (102, .box (pvL (e_api_Re (⟨0, ([] : List api_Range), ([] : List api_Re), 0, 0⟩ : api_Re)))), (103, .box (pvL (e_api_Re y103.1)))]) (O := []) (by kernel_rfl) (sound _ _) trivial ?_
        obtain rfl := Option.some.inj hF
        exact ⟨rfl, [(e_rex_reader y104.2)], by kernel_rfl, rfl⟩
      · have hF := cond_f hF hb105
        refine WA.skip ?_
        refine WA.seq ?_
        refine WA.reg [2] [0, 102] [] (env' := [(2, .val false [.ptr 102 1 0 0])]) (os' := [(0, .box (pvL (e_rex_reader y104.2))), (102, .box (pvL (e_api_Re y103.1)))]) (O := []) (by kernel_rfl) (sound _ _) trivial ?_
        refine WA.ret ?_
        obtain rfl := Option.some.inj hF
        exact out_ret (.val true (pvL (e_api_Re y103.1))) [.box (pvL (e_rex_reader y104.2))] (by kernel_rfl) (by kernel_rfl) (by kernel_rfl) (by kernel_rfl) (by decide) rfl rfl
  · have hF := cond_f hF hb102
    refine WA.seq ?_
    obtain ⟨y106, hy106, hF⟩ := bind_some hF
    refine WA.reg [0, 2, 16] [0, 102] [(1, .call [0] (one (.bool y106.1)) [.box (pvL (e_rex_reader y106.2))] [])] (env' := [(0, .val false [.ptr 0 1 0 0]), (2, .val false [.ptr 102 1 0 0]), (16, one (.bool y106.1))]) (os' := [(0, .box (pvL (e_rex_reader y106.2))), (102, .box (pvL (e_api_Re (⟨0, ([] : List api_Range), ([] : List api_Re), 0, 0⟩ : api_Re))))]) (O := [Sim Tryz.prog GL0 71 [.val false [.ptr 0 1 0 0], one (.str ([91] : List UInt8))] [.box (pvL (e_rex_reader y101.2))] (one (.bool y106.1)) [.box (pvL (e_rex_reader y106.2))], ([0] : List Nat).Nodup]) (by kernel_rfl) (sound _ _) ⟨(F71_ok k _ _ _ hy106), (by decide), trivial⟩ ?_
    refine WA.cond (b := y106.1) rfl (fun hb107 => ?_) (fun hb107 => ?_)
    · have hF := cond_t hF hb107
      refine WA.seq ?_
      rcases orP_some hF with ⟨hz, hr⟩ | ⟨y108, hy108, hF⟩
      · subst hr
        refine WA.regP 1 [0] [] [] badV (f := 138) (args := [.val false [.ptr 0 1 0 0]]) (os := [.box (pvL (e_rex_reader y106.2))]) (env1 := []) (os1 := [(0, .box (pvL (e_rex_reader y106.2))), (102, .box (pvL (e_api_Re (⟨0, ([] : List api_Range), ([] : List api_Re), 0, 0⟩ : api_Re))))]) (O := []) (by kernel_rfl) (sound _ _) trivial (by decide) (F138_ok k _ _ hz) (fun psl hpsl => ?_)
        obtain ⟨ps, rfl⟩ := one_of_len hpsl
        exact ⟨rfl, [ps], by kernel_rfl, rfl⟩
      · refine WA.reg [2] [0, 102] [(1, .call [0] (.val true (pvL (e_api_Re y108.1))) [.box (pvL (e_rex_reader y108.2))] [])] (env' := [(2, .val false [.ptr 102 1 0 0])]) (os' := [(0, .box (pvL (e_rex_reader y108.2))), (102, .box (pvL (e_api_Re y108.1)))]) (O := [Sim Tryz.prog GL0 138 [.val false [.ptr 0 1 0 0]] [.box (pvL (e_rex_reader y106.2))] (.val true (pvL (e_api_Re y108.1))) [.box (pvL (e_rex_reader y108.2))], ([0] : List Nat).Nodup]) (by kernel_rfl) (sound _ _) ⟨(F138_ok k _ _ hy108), (by decide), trivial⟩ ?_
        refine WA.ret ?_
        obtain rfl := Option.some.inj hF
        exact out_ret (.val true (pvL (e_api_Re y108.1))) [.box (pvL (e_rex_reader y108.2))] (by kernel_rfl) (by kernel_rfl) (by kernel_rfl) (by kernel_rfl) (by decide) rfl rfl
    · have hF := cond_f hF hb107
      refine WA.seq ?_
      obtain ⟨y109, hy109, hF⟩ := bind_some hF
      refine WA.reg [0, 2, 21] [0, 102] [(1, .call [0] (one (.bool y109.1)) [.box (pvL (e_rex_reader y109.2))] [])] (env' := [(0, .val false [.ptr 0 1 0 0]), (2, .val false [.ptr 102 1 0 0]), (21, one (.bool y109.1))]) (os' := [(0, .box (pvL (e_rex_reader y109.2))), (102, .box (pvL (e_api_Re (⟨0, ([] : List api_Range), ([] : List api_Re), 0, 0⟩ : api_Re))))]) (O := [Sim Tryz.prog GL0 71 [.val false [.ptr 0 1 0 0], one (.str ([46] : List UInt8))] [.box (pvL (e_rex_reader y106.2))] (one (.bool y109.1)) [.box (pvL (e_rex_reader y109.2))], ([0] : List Nat).Nodup]) (by kernel_rfl) (sound _ _) ⟨(F71_ok k _ _ _ hy109), (by decide), trivial⟩ ?_
      refine WA.cond (b := y109.1) rfl (fun hb110 => ?_) (fun hb110 => ?_)
      · have hF := cond_t hF hb110
        refine WA.seq ?_
        obtain ⟨y111, hy111, hF⟩ := bind_some hF
        obtain ⟨y112, hy112, hF⟩ := bind_some hF
        refine WA.reg [2] [0, 102] [(0, .callR [] (one (.sl (y111.map e_api_Range)))), (1, .callR [] (.val true (pvL (e_api_Re y112))))] (env' := [(2, .val false [.ptr 102 1 0 0])]) (os' := [(0, .box (pvL (e_rex_reader y109.2))), (102, .box (pvL (e_api_Re y112)))]) (O := [Sim Tryz.prog GL0 59 [] [] (one (.sl (y111.map e_api_Range))) [], ([] : List Nat).Nodup, Sim Tryz.prog GL0 58 [one (.sl (y111.map e_api_Range))] [] (.val true (pvL (e_api_Re y112))) [], ([] : List Nat).Nodup]) (by kernel_rfl) (sound _ _) ⟨(F59_ok k _ hy111), (by decide), (F58_ok k _ _ hy112), (by decide), trivial⟩ ?_
        refine WA.ret ?_
        obtain rfl := Option.some.inj hF
        exact out_ret (.val true (pvL (e_api_Re y112))) [.box (pvL (e_rex_reader y109.2))] (by kernel_rfl) (by kernel_rfl) (by kernel_rfl) (by kernel_rfl) (by decide) rfl rfl
      · have hF := cond_f hF hb110
        refine WA.seq ?_
        obtain ⟨y113, hy113, hF⟩ := bind_some hF
        refine WA.reg [0, 2, 26] [0, 102] [(1, .call [0] (one (.bool y113.1)) [.box (pvL (e_rex_reader y113.2))] [])] (env' := [(0, .val false [.ptr 0 1 0 0]), (2, .val false [.ptr 102 1 0 0]), (26, one (.bool y113.1))]) (os' := [(0, .box (pvL (e_rex_reader y113.2))), (102, .box (pvL (e_api_Re (⟨0, ([] : List api_Range), ([] : List api_Re), 0, 0⟩ : api_Re))))]) (O := [Sim Tryz.prog GL0 71 [.val false [.ptr 0 1 0 0], one (.str ([92] : List UInt8))] [.box (pvL (e_rex_reader y109.2))] (one (.bool y113.1)) [.box (pvL (e_rex_reader y113.2))], ([0] : List Nat).Nodup]) (by kernel_rfl) (sound _ _) ⟨(F71_ok k _ _ _ hy113), (by decide), trivial⟩ ?_
        refine WA.cond (b := y113.1) rfl (fun hb114 => ?_) (fun hb114 => ?_)
        · have hF := cond_t hF hb114
          refine WA.seq ?_
          rcases orP_some hF with ⟨hz, hr⟩ | ⟨y115, hy115, hF⟩
          · subst hr
            refine WA.regP 1 [0] [] [] badV (f := 139) (args := [.val false [.ptr 0 1 0 0], one (.str ([92, 46, 91, 93, 40, 41, 123, 125, 42, 43, 63, 124, 94, 36, 45, 47] : List UInt8))]) (os := [.box (pvL (e_rex_reader y113.2))]) (env1 := []) (os1 := [(0, .box (pvL (e_rex_reader y113.2))), (102, .box (pvL (e_api_Re (⟨0, ([] : List api_Range), ([] : List api_Re), 0, 0⟩ : api_Re))))]) (O := []) (by kernel_rfl) (sound _ _) trivial (by decide) (F139_ok k _ _ _ hz) (fun psl hpsl => ?_)
            obtain ⟨ps, rfl⟩ := one_of_len hpsl
            exact ⟨rfl, [ps], by kernel_rfl, rfl⟩
          · obtain ⟨y116, hy116, hF⟩ := bind_some hF
            refine WA.reg [2] [0, 102] [(1, .call [0] (one (.sl (y115.1.map e_api_Range))) [.box (pvL (e_rex_reader y115.2))] []), (2, .callR [] (.val true (pvL (e_api_Re y116))))] (env' := [(2, .val false [.ptr 102 1 0 0])]) (os' := [(0, .box (pvL (e_rex_reader y115.2))), (102, .box (pvL (e_api_Re y116)))]) (O := [Sim Tryz.prog GL0 139 [.val false [.ptr 0 1 0 0], one (.str ([92, 46, 91, 93, 40, 41, 123, 125, 42, 43, 63, 124, 94, 36, 45, 47] : List UInt8))] [.box (pvL (e_rex_reader y113.2))] (one (.sl (y115.1.map e_api_Range))) [.box (pvL (e_rex_reader y115.2))], ([0] : List Nat).Nodup, Sim Tryz.prog GL0 58 [one (.sl (y115.1.map e_api_Range))] [] (.val true (pvL (e_api_Re y116))) [], ([] : List Nat).Nodup]) (by kernel_rfl) (sound _ _) ⟨(sim_frz (os' := [.box (pvL (e_rex_reader y115.2))]) (m := 1) rfl (Nat.le_refl _) (List.length_map _).symm (F139_ok k _ _ _ hy115)), (by decide), (F58_ok k _ _ hy116), (by decide), trivial⟩ ?_
            refine WA.ret ?_
            obtain rfl := Option.some.inj hF
            exact out_ret (.val true (pvL (e_api_Re y116))) [.box (pvL (e_rex_reader y115.2))] (by kernel_rfl) (by kernel_rfl) (by kernel_rfl) (by kernel_rfl) (by decide) rfl rfl
        · have hF := cond_f hF hb114
          refine WA.skip ?_
          refine WA.seq ?_
          rcases orP_some hF with ⟨hz, hr⟩ | ⟨y117, hy117, hF⟩
          · subst hr
            refine WA.regP 1 [0] [] [] badV (f := 140) (args := [.val false [.ptr 0 1 0 0]]) (os := [.box (pvL (e_rex_reader y113.2))]) (env1 := []) (os1 := [(0, .box (pvL (e_rex_reader y113.2))), (102, .box (pvL (e_api_Re (⟨0, ([] : List api_Range), ([] : List api_Re), 0, 0⟩ : api_Re))))]) (O := []) (by kernel_rfl) (sound _ _) trivial (by decide) (F140_ok k _ _ hz) (fun psl hpsl => ?_)
            obtain ⟨ps, rfl⟩ := one_of_len hpsl
            exact ⟨rfl, [ps], by kernel_rfl, rfl⟩
          · refine WA.reg [2, 4] [0, 102] [(1, .call [0] (one (.int .i64 y117.1)) [.box (pvL (e_rex_reader y117.2))] [])] (env' := [(2, .val false [.ptr 102 1 0 0]), (4, one (.int .i64 y117.1))]) (os' := [(0, .box (pvL (e_rex_reader y117.2))), (102, .box (pvL (e_api_Re (⟨0, ([] : List api_Range), ([] : List api_Re), 0, 0⟩ : api_Re))))]) (O := [Sim Tryz.prog GL0 140 [.val false [.ptr 0 1 0 0]] [.box (pvL (e_rex_reader y113.2))] (one (.int .i64 y117.1)) [.box (pvL (e_rex_reader y117.2))], ([0] : List Nat).Nodup]) (by kernel_rfl) (sound _ _) ⟨(F140_ok k _ _ hy117), (by decide), trivial⟩ ?_
            refine WA.seq ?_
            refine WA.seq ?_
            obtain ⟨y118, hy118, hF⟩ := bind_some hF
            refine WA.reg [2, 4, 36] [0, 102] [(2, .callR [] (one (.bool y118)))] (env' := [(2, .val false [.ptr 102 1 0 0]), (4, one (.int .i64 y117.1)), (36, one (.bool y118))]) (os' := [(0, .box (pvL (e_rex_reader y117.2))), (102, .box (pvL (e_api_Re (⟨0, ([] : List api_Range), ([] : List api_Re), 0, 0⟩ : api_Re))))]) (O := [Sim Tryz.prog GL0 141 [one (.str ([92, 46, 91, 93, 40, 41, 123, 125, 42, 43, 63, 124, 94, 36] : List UInt8)), one (.int .i32 (IntKind.wrap .i32 y117.1))] [] (one (.bool y118)) [], ([] : List Nat).Nodup]) (by kernel_rfl) (sound _ _) ⟨(F141_ok k _ _ _ hy118), (by decide), trivial⟩ ?_
            refine WA.cond (b := y118) rfl (fun hb119 => ?_) (fun hb119 => ?_)
            · have hF := cond_t hF hb119
              refine WA.bad [] (t := 70) (env1 := []) (os1 := [(0, .box (pvL (e_rex_reader y117.2))), (102, .box (pvL (e_api_Re (⟨0, ([] : List api_Range), ([] : List api_Re), 0, 0⟩ : api_Re))))]) (O := []) (by kernel_rfl) (sound _ _) trivial ?_
              obtain rfl := Option.some.inj hF
              exact ⟨rfl, [(e_rex_reader y117.2)], by kernel_rfl, rfl⟩
            · have hF := cond_f hF hb119
              refine WA.skip ?_
              refine WA.seq ?_
              obtain ⟨y120, hy120, hF⟩ := bind_some hF
              refine WA.reg [2] [0, 102] [(4, .callR [] (.val true (pvL (e_api_Re y120))))] (env' := [(2, .val false [.ptr 102 1 0 0])]) (os' := [(0, .box (pvL (e_rex_reader y117.2))), (102, .box (pvL (e_api_Re y120)))]) (O := [Sim Tryz.prog GL0 58 [one (.sl (([(⟨y117.1, y117.1⟩ : api_Range)] : List api_Range).map e_api_Range))] [] (.val true (pvL (e_api_Re y120))) [], ([] : List Nat).Nodup]) (by kernel_rfl) (sound _ _) ⟨(F58_ok k _ _ hy120), (by decide), trivial⟩ ?_
              refine WA.ret ?_
              obtain rfl := Option.some.inj hF
              exact out_ret (.val true (pvL (e_api_Re y120))) [.box (pvL (e_rex_reader y117.2))] (by kernel_rfl) (by kernel_rfl) (by kernel_rfl) (by kernel_rfl) (by decide) rfl rfl
/-!   entrepot rex.reader .piece -/
def F98_j0 (y101 : api_Re × rex_reader) (v111 : rex_reader) (v112 : Int) (v113 : Int) : Option (Option (api_Re × rex_reader)) :=
  (some (some ((⟨4, ([] : List api_Range), ([y101.1] : List api_Re), v112, v113⟩ : api_Re), v111)))
def F98 (R48 : rex_reader → Option (Option (api_Re × rex_reader))) (k : Nat) (v0 : rex_reader) : Option (Option (api_Re × rex_reader)) :=
  (orP (F117 R48 k v0) fun y101 => ((F71 k y101.2 ([42] : List UInt8)).bind fun y102 => (cond y102.1 ((F98_j0 y101 y102.2 0 (-1))) ((F71 k y102.2 ([43] : List UInt8)).bind fun y104 => (cond y104.1 ((F98_j0 y101 y104.2 1 (-1))) ((F71 k y104.2 ([63] : List UInt8)).bind fun y106 => (cond y106.1 ((F98_j0 y101 y106.2 0 1)) ((F71 k y106.2 ([123] : List UInt8)).bind fun y108 => (cond y108.1 (orP (F118 k y108.2) fun y110 => (F98_j0 y101 y110.2.2 y110.1 y110.2.1)) ((some (some (y101.1, y108.2)))))))))))))
theorem F98_ok (R48 : rex_reader → Option (Option (api_Re × rex_reader))) (IH48 : ∀ (v0 : rex_reader) (r : Option (api_Re × rex_reader)), R48 v0 = some r → SimP Tryz.prog GL0 badV 48 [.val false [.ptr 0 1 0 0]] [.box (pvL (e_rex_reader v0))] (r.map fun r => (.val true (pvL (e_api_Re r.1)), [.box (pvL (e_rex_reader r.2))]))) (k : Nat) (v0 : rex_reader) (r : Option (api_Re × rex_reader)) (hF : F98 R48 k v0 = some r) : SimP Tryz.prog GL0 badV 98 [.val false [.ptr 0 1 0 0]] [.box (pvL (e_rex_reader v0))] (r.map fun r => (.val true (pvL (e_api_Re r.1)), [.box (pvL (e_rex_reader r.2))])) := by
  refine simP_of [0] Tryz.func98 rfl (by kernel_rfl) (by kernel_rfl) ?_
  show WA _ _ 31 _ _ _
  refine WA.seq ?_
  refine WA.reg [0, 2] [0, 102] [(0, .obj 102)] (env' := [(0, .val false [.ptr 0 1 0 0]), (2, .val false [.ptr 102 1 0 0])]) (os' := [(0, .box (pvL (e_rex_reader v0))), (102, .box (pvL (e_api_Re (⟨0, ([] : List api_Range), ([] : List api_Re), 0, 0⟩ : api_Re))))]) (O := []) (by kernel_rfl) (sound _ _) trivial ?_
  refine WA.seq ?_
  rcases orP_some hF with ⟨hz, hr⟩ | ⟨y101, hy101, hF⟩
  · subst hr
    refine WA.regP 1 [0] [] [] badV (f := 117) (args := [.val false [.ptr 0 1 0 0]]) (os := [.box (pvL (e_rex_reader v0))]) (env1 := []) (os1 := [(0, .box (pvL (e_rex_reader v0))), (102, .box (pvL (e_api_Re (⟨0, ([] : List api_Range), ([] : List api_Re), 0, 0⟩ : api_Re))))]) (O := []) (by kernel_rfl) (sound _ _) trivial (by decide) (F117_ok R48 IH48 k _ _ hz) (fun psl hpsl => ?_)
    obtain ⟨ps, rfl⟩ := one_of_len hpsl
    exact ⟨rfl, [ps], by kernel_rfl, rfl⟩
  · refine WA.reg [0, 2, 3] [0, 102, 103] [(1, .call [0] (.val true (pvL (e_api_Re y101.1))) [.box (pvL (e_rex_reader y101.2))] []), (2, .obj 103)] (env' := [(0, .val false [.ptr 0 1 0 0]), (2, .val false [.ptr 102 1 0 0]), (3, .val false [.ptr 103 1 0 0])]) (os' := [(0, .box (pvL (e_rex_reader y101.2))), (102, .box (pvL (e_api_Re (⟨0, ([] : List api_Range), ([] : List api_Re), 0, 0⟩ : api_Re)))), (103, .box (pvL (e_api_Re y101.1)))]) (O := [Sim Tryz.prog GL0 117 [.val false [.ptr 0 1 0 0]] [.box (pvL (e_rex_reader v0))] (.val true (pvL (e_api_Re y101.1))) [.box (pvL (e_rex_reader y101.2))], ([0] : List Nat).Nodup]) (by kernel_rfl) (sound _ _) ⟨(F117_ok R48 IH48 k _ _ hy101), (by decide), trivial⟩ ?_
    refine WA.seq ?_
    refine WA.reg [0, 2, 3, 4, 5] [0, 102, 103] [] (env' := [(0, .val false [.ptr 0 1 0 0]), (2, .val false [.ptr 102 1 0 0]), (3, .val false [.ptr 103 1 0 0]), (4, one (.int .i64 0)), (5, one (.int .i64 (-1)))]) (os' := [(0, .box (pvL (e_rex_reader y101.2))), (102, .box (pvL (e_api_Re (⟨0, ([] : List api_Range), ([] : List api_Re), 0, 0⟩ : api_Re)))), (103, .box (pvL (e_api_Re y101.1)))]) (O := []) (by kernel_rfl) (sound _ _) trivial ?_
    refine WA.join (fun s_ => ∃ (v111 : rex_reader) (v112 : Int) (v113 : Int), pickE s_.env [2, 3, 4, 5] = [(2, .val false [.ptr 102 1 0 0]), (3, .val false [.ptr 103 1 0 0]), (4, one (.int .i64 v112)), (5, one (.int .i64 v113))] ∧ pickE s_.os [0, 102, 103] = [(0, .box (pvL (e_rex_reader v111))), (102, .box (pvL (e_api_Re (⟨0, ([] : List api_Range), ([] : List api_Re), 0, 0⟩ : api_Re)))), (103, .box (pvL (e_api_Re y101.1)))] ∧ F98_j0 y101 v111 v112 v113 = some r) ?_ ?_
    · rintro s_ ⟨v111, v112, v113, he, ho, hF⟩
      refine WA.keep _ _ he ho ?_
      clear he ho
      refine WA.seq ?_
      refine WA.regM (α := (List (List PV))) (raw := [(e_api_Re y101.1)]) (can := (es_api_Re ([y101.1] : List api_Re))) (fun m_ => ([(2, .val false [.ptr 102 1 0 0])], [(0, .box (pvL (e_rex_reader v111))), (102, .box (pvL ([.int .i64 4] ++ [.sl (([] : List api_Range).map e_api_Range)] ++ [.sl m_] ++ [.int .i64 v112] ++ [.int .i64 v113])))], [])) ((by first | (simp only [len_map, app_map, take_map, drop_map, set_map, rep_map, lens_api_Re, app_api_Re, take_api_Re, drop_api_Re, set_api_Re, es_api_Re, e0_eq_api_Re]; done) | (simp only [List.map_append, List.map_cons, List.map_nil, List.map_take, List.map_drop, List.map_set, List.map_replicate, List.length_map, es_map_api_Re, e0_eq_api_Re]; done))) [2] [0, 102] [] (env' := [(2, .val false [.ptr 102 1 0 0])]) (os' := [(0, .box (pvL (e_rex_reader v111))), (102, .box (pvL ([.int .i64 4] ++ [.sl (([] : List api_Range).map e_api_Range)] ++ [.sl (es_api_Re ([y101.1] : List api_Re))] ++ [.int .i64 v112] ++ [.int .i64 v113])))]) (O := []) (by kernel_rfl) (by kernel_rfl) (sound _ _) trivial ?_
      refine WA.ret ?_
      obtain rfl := Option.some.inj hF
      exact out_ret (.val true (pvL (e_api_Re (⟨4, ([] : List api_Range), ([y101.1] : List api_Re), v112, v113⟩ : api_Re)))) [.box (pvL (e_rex_reader v111))] (by kernel_rfl) (by kernel_rfl) (by kernel_rfl) (by kernel_rfl) (by decide) rfl rfl
    · refine WA.block ?_
      refine WA.seq ?_
      obtain ⟨y102, hy102, hF⟩ := bind_some hF
      refine WA.reg [0, 2, 3, 4, 5, 9] [0, 102, 103] [(1, .call [0] (one (.bool y102.1)) [.box (pvL (e_rex_reader y102.2))] [])] (env' := [(0, .val false [.ptr 0 1 0 0]), (2, .val false [.ptr 102 1 0 0]), (3, .val false [.ptr 103 1 0 0]), (4, one (.int .i64 0)), (5, one (.int .i64 (-1))), (9, one (.bool y102.1))]) (os' := [(0, .box (pvL (e_rex_reader y102.2))), (102, .box (pvL (e_api_Re (⟨0, ([] : List api_Range), ([] : List api_Re), 0, 0⟩ : api_Re)))), (103, .box (pvL (e_api_Re y101.1)))]) (O := [Sim Tryz.prog GL0 71 [.val false [.ptr 0 1 0 0], one (.str ([42] : List UInt8))] [.box (pvL (e_rex_reader y101.2))] (one (.bool y102.1)) [.box (pvL (e_rex_reader y102.2))], ([0] : List Nat).Nodup]) (by kernel_rfl) (sound _ _) ⟨(F71_ok k _ _ _ hy102), (by decide), trivial⟩ ?_
      refine WA.cond (b := y102.1) rfl (fun hb103 => ?_) (fun hb103 => ?_)
      · have hF := cond_t hF hb103
        refine WA.skip ?_
        exact ⟨y102.2, 0, (-1), by kernel_rfl, by kernel_rfl, hF⟩
      · have hF := cond_f hF hb103
        refine WA.seq ?_
        obtain ⟨y104, hy104, hF⟩ := bind_some hF
        refine WA.reg [0, 2, 3, 4, 5, 12] [0, 102, 103] [(1, .call [0] (one (.bool y104.1)) [.box (pvL (e_rex_reader y104.2))] [])] (env' := [(0, .val false [.ptr 0 1 0 0]), (2, .val false [.ptr 102 1 0 0]), (3, .val false [.ptr 103 1 0 0]), (4, one (.int .i64 0)), (5, one (.int .i64 (-1))), (12, one (.bool y104.1))]) (os' := [(0, .box (pvL (e_rex_reader y104.2))), (102, .box (pvL (e_api_Re (⟨0, ([] : List api_Range), ([] : List api_Re), 0, 0⟩ : api_Re)))), (103, .box (pvL (e_api_Re y101.1)))]) (O := [Sim Tryz.prog GL0 71 [.val false [.ptr 0 1 0 0], one (.str ([43] : List UInt8))] [.box (pvL (e_rex_reader y102.2))] (one (.bool y104.1)) [.box (pvL (e_rex_reader y104.2))], ([0] : List Nat).Nodup]) (by kernel_rfl) (sound _ _) ⟨(F71_ok k _ _ _ hy104), (by decide), trivial⟩ ?_
        refine WA.cond (b := y104.1) rfl (fun hb105 => ?_) (fun hb105 => ?_)
        · have hF := cond_t hF hb105
          refine WA.reg [2, 3, 4, 5] [0, 102, 103] [] (env' := [(2, .val false [.ptr 102 1 0 0]), (3, .val false [.ptr 103 1 0 0]), (4, one (.int .i64 1)), (5, one (.int .i64 (-1)))]) (os' := [(0, .box (pvL (e_rex_reader y104.2))), (102, .box (pvL (e_api_Re (⟨0, ([] : List api_Range), ([] : List api_Re), 0, 0⟩ : api_Re)))), (103, .box (pvL (e_api_Re y101.1)))]) (O := []) (by kernel_rfl) (sound _ _) trivial ?_
          exact ⟨y104.2, 1, (-1), by kernel_rfl, by kernel_rfl, hF⟩
        · have hF := cond_f hF hb105
          refine WA.seq ?_
          obtain ⟨y106, hy106, hF⟩ := bind_some hF
          refine WA.reg [0, 2, 3, 4, 15] [0, 102, 103] [(1, .call [0] (one (.bool y106.1)) [.box (pvL (e_rex_reader y106.2))] [])] (env' := [(0, .val false [.ptr 0 1 0 0]), (2, .val false [.ptr 102 1 0 0]), (3, .val false [.ptr 103 1 0 0]), (4, one (.int .i64 0)), (15, one (.bool y106.1))]) (os' := [(0, .box (pvL (e_rex_reader y106.2))), (102, .box (pvL (e_api_Re (⟨0, ([] : List api_Range), ([] : List api_Re), 0, 0⟩ : api_Re)))), (103, .box (pvL (e_api_Re y101.1)))]) (O := [Sim Tryz.prog GL0 71 [.val false [.ptr 0 1 0 0], one (.str ([63] : List UInt8))] [.box (pvL (e_rex_reader y104.2))] (one (.bool y106.1)) [.box (pvL (e_rex_reader y106.2))], ([0] : List Nat).Nodup]) (by kernel_rfl) (sound _ _) ⟨(F71_ok k _ _ _ hy106), (by decide), trivial⟩ ?_
          refine WA.cond (b := y106.1) rfl (fun hb107 => ?_) (fun hb107 => ?_)
          · have hF := cond_t hF hb107
            refine WA.reg [2, 3, 4, 5] [0, 102, 103] [] (env' := [(2, .val false [.ptr 102 1 0 0]), (3, .val false [.ptr 103 1 0 0]), (4, one (.int .i64 0)), (5, one (.int .i64 1))]) (os' := [(0, .box (pvL (e_rex_reader y106.2))), (102, .box (pvL (e_api_Re (⟨0, ([] : List api_Range), ([] : List api_Re), 0, 0⟩ : api_Re)))), (103, .box (pvL (e_api_Re y101.1)))]) (O := []) (by kernel_rfl) (sound _ _) trivial ?_
            exact ⟨y106.2, 0, 1, by kernel_rfl, by kernel_rfl, hF⟩
          · have hF := cond_f hF hb107
            refine WA.seq ?_
            obtain ⟨y108, hy108, hF⟩ := bind_some hF
            refine WA.reg [0, 2, 3, 18] [0, 102, 103] [(1, .call [0] (one (.bool y108.1)) [.box (pvL (e_rex_reader y108.2))] [])] (env' := [(0, .val false [.ptr 0 1 0 0]), (2, .val false [.ptr 102 1 0 0]), (3, .val false [.ptr 103 1 0 0]), (18, one (.bool y108.1))]) (os' := [(0, .box (pvL (e_rex_reader y108.2))), (102, .box (pvL (e_api_Re (⟨0, ([] : List api_Range), ([] : List api_Re), 0, 0⟩ : api_Re)))), (103, .box (pvL (e_api_Re y101.1)))]) (O := [Sim Tryz.prog GL0 71 [.val false [.ptr 0 1 0 0], one (.str ([123] : List UInt8))] [.box (pvL (e_rex_reader y106.2))] (one (.bool y108.1)) [.box (pvL (e_rex_reader y108.2))], ([0] : List Nat).Nodup]) (by kernel_rfl) (sound _ _) ⟨(F71_ok k _ _ _ hy108), (by decide), trivial⟩ ?_
            refine WA.cond (b := y108.1) rfl (fun hb109 => ?_) (fun hb109 => ?_)
            · have hF := cond_t hF hb109
              rcases orP_some hF with ⟨hz, hr⟩ | ⟨y110, hy110, hF⟩
              · subst hr
                refine WA.regP 1 [0] [] [] badV (f := 118) (args := [.val false [.ptr 0 1 0 0]]) (os := [.box (pvL (e_rex_reader y108.2))]) (env1 := []) (os1 := [(0, .box (pvL (e_rex_reader y108.2))), (102, .box (pvL (e_api_Re (⟨0, ([] : List api_Range), ([] : List api_Re), 0, 0⟩ : api_Re)))), (103, .box (pvL (e_api_Re y101.1)))]) (O := []) (by kernel_rfl) (sound _ _) trivial (by decide) (F118_ok k _ _ hz) (fun psl hpsl => ?_)
                obtain ⟨ps, rfl⟩ := one_of_len hpsl
                exact ⟨rfl, [ps], by kernel_rfl, rfl⟩
              · refine WA.reg [2, 3, 4, 5] [0, 102, 103] [(1, .call [0] (.tup [(false, [.pv (.int .i64 y110.1)]), (false, [.pv (.int .i64 y110.2.1)])]) [.box (pvL (e_rex_reader y110.2.2))] [])] (env' := [(2, .val false [.ptr 102 1 0 0]), (3, .val false [.ptr 103 1 0 0]), (4, one (.int .i64 y110.1)), (5, one (.int .i64 y110.2.1))]) (os' := [(0, .box (pvL (e_rex_reader y110.2.2))), (102, .box (pvL (e_api_Re (⟨0, ([] : List api_Range), ([] : List api_Re), 0, 0⟩ : api_Re)))), (103, .box (pvL (e_api_Re y101.1)))]) (O := [Sim Tryz.prog GL0 118 [.val false [.ptr 0 1 0 0]] [.box (pvL (e_rex_reader y108.2))] (.tup [(false, [.pv (.int .i64 y110.1)]), (false, [.pv (.int .i64 y110.2.1)])]) [.box (pvL (e_rex_reader y110.2.2))], ([0] : List Nat).Nodup]) (by kernel_rfl) (sound _ _) ⟨(F118_ok k _ _ hy110), (by decide), trivial⟩ ?_
                exact ⟨y110.2.2, y110.1, y110.2.1, by kernel_rfl, by kernel_rfl, hF⟩
            · have hF := cond_f hF hb109
              refine WA.seq ?_
              refine WA.reg [2] [0, 102] [] (env' := [(2, .val false [.ptr 102 1 0 0])]) (os' := [(0, .box (pvL (e_rex_reader y108.2))), (102, .box (pvL (e_api_Re y101.1)))]) (O := []) (by kernel_rfl) (sound _ _) trivial ?_
              refine WA.ret ?_
              obtain rfl := Option.some.inj hF
              exact out_ret (.val true (pvL (e_api_Re y101.1))) [.box (pvL (e_rex_reader y108.2))] (by kernel_rfl) (by kernel_rfl) (by kernel_rfl) (by kernel_rfl) (by decide) rfl rfl
/-!   entrepot rex.reader .seq -/
def F70_j3 (R48 : rex_reader → Option (Option (api_Re × rex_reader))) (k : Nat) (self2 : rex_reader → (List api_Re) → Option (Option (api_Re × rex_reader))) (v120 : rex_reader) (v121 : List api_Re) (v127 : Bool) : Option (Option (api_Re × rex_reader)) :=
  cond v127 ((orP (F98 R48 k v120) fun y129 => if v121.length + ([y129.1] : List api_Re).length ≤ 1073741824 then self2 y129.2 (v121 ++ ([y129.1] : List api_Re)) else none)) (((cond ((v121.length : Int) == 1) (if (0 : Int) ≤ 0 ∧ 0 < (v121.length : Int) then (idxL v121 0).bind fun y133 => (some (some (y133, v120))) else none) (((some (some ((⟨2, ([] : List api_Range), v121, 0, 0⟩ : api_Re), v120))))))))
def F70_b2 (R48 : rex_reader → Option (Option (api_Re × rex_reader))) (k : Nat) (self2 : rex_reader → (List api_Re) → Option (Option (api_Re × rex_reader))) (v120 : rex_reader) (v121 : List api_Re) : Option (Option (api_Re × rex_reader)) :=
  cond (decide (v120.f_at < (v120.f_s.length : Int))) ((F97 k v120 ([124] : List UInt8)).bind fun y124 => cond (!y124) ((F97 k v120 ([41] : List UInt8)).bind fun y126 => (F70_j3 R48 k self2 v120 v121 (!y126))) ((F70_j3 R48 k self2 v120 v121 false))) ((F70_j3 R48 k self2 v120 v121 false))
def F70_l2 (R48 : rex_reader → Option (Option (api_Re × rex_reader))) (k : Nat) : Nat → rex_reader → (List api_Re) → Option (Option (api_Re × rex_reader))
  | 0, _, _ => none
  | m_ + 1, v120, v121 => F70_b2 R48 k (F70_l2 R48 k m_) v120 v121
def F70 (R48 : rex_reader → Option (Option (api_Re × rex_reader))) (k : Nat) (v0 : rex_reader) : Option (Option (api_Re × rex_reader)) :=
  ((F70_l2 R48 k k v0 ([] : List api_Re)))
theorem F70_ok (R48 : rex_reader → Option (Option (api_Re × rex_reader))) (IH48 : ∀ (v0 : rex_reader) (r : Option (api_Re × rex_reader)), R48 v0 = some r → SimP Tryz.prog GL0 badV 48 [.val false [.ptr 0 1 0 0]] [.box (pvL (e_rex_reader v0))] (r.map fun r => (.val true (pvL (e_api_Re r.1)), [.box (pvL (e_rex_reader r.2))]))) (k : Nat) (v0 : rex_reader) (r : Option (api_Re × rex_reader)) (hF : F70 R48 k v0 = some r) : SimP Tryz.prog GL0 badV 70 [.val false [.ptr 0 1 0 0]] [.box (pvL (e_rex_reader v0))] (r.map fun r => (.val true (pvL (e_api_Re r.1)), [.box (pvL (e_rex_reader r.2))])) := by
  refine simP_of [0] Tryz.func70 rfl (by kernel_rfl) (by kernel_rfl) ?_
  show WA _ _ 37 _ _ _
  refine WA.seq ?_
  refine WA.reg [0, 2] [0, 102] [(0, .obj 102)] (env' := [(0, .val false [.ptr 0 1 0 0]), (2, .val false [.ptr 102 1 0 0])]) (os' := [(0, .box (pvL (e_rex_reader v0))), (102, .box (pvL (e_api_Re (⟨0, ([] : List api_Range), ([] : List api_Re), 0, 0⟩ : api_Re))))]) (O := []) (by kernel_rfl) (sound _ _) trivial ?_
  refine WA.seq ?_
  refine WA.reg [0, 2, 3] [0, 102, 103] [(0, .obj 103)] (env' := [(0, .val false [.ptr 0 1 0 0]), (2, .val false [.ptr 102 1 0 0]), (3, .val false [.arr 103 0])]) (os' := [(0, .box (pvL (e_rex_reader v0))), (102, .box (pvL (e_api_Re (⟨0, ([] : List api_Range), ([] : List api_Re), 0, 0⟩ : api_Re)))), (103, .arr 5 (es_api_Re ([] : List api_Re)))]) (O := []) (by kernel_rfl) (sound _ _) trivial ?_
  refine WA.seq ?_
  refine WA.block ?_
  refine WA.loop (fun m s_ => ∃ (v120 : rex_reader) (v121 : List api_Re) (v122 : Nat), pickE s_.env [0, 2, 3] = [(0, .val false [.ptr 0 1 0 0]), (2, .val false [.ptr 102 1 0 0]), (3, .val false [.arr 103 v122])] ∧ pickE s_.os [0, 102, 103] = [(0, .box (pvL (e_rex_reader v120))), (102, .box (pvL (e_api_Re (⟨0, ([] : List api_Range), ([] : List api_Re), 0, 0⟩ : api_Re)))), (103, .arr 5 (es_api_Re v121))] ∧ v122 = (v121 : List _).length ∧ F70_l2 R48 k m v120 v121 = some r) k ⟨v0, ([] : List api_Re), 0, by kernel_rfl, by kernel_rfl, (by first | omega | (simp only [zlm, zla, zlc, zln, zls, zlr, zlt, zld, lens_api_Re]; done) | (simp only [zlm, zla, zlc, zln, zls, zlr, zlt, zld, lens_api_Re]; omega) | (simp only [zlm, zla, zlc, zln, zls, zlr, zlt, zld, lens_api_Re] at *; omega)), hF⟩ ?_
  clear hF
  rintro m2 s_ ⟨v120, v121, v122, he, ho, hn_v122, hF⟩
  refine WA.keep _ _ he ho ?_
  clear he ho
  cases m2 with
  | zero => cases hF
  | succ m2 =>
    obtain ⟨self2, hself2⟩ : ∃ g, g = F70_l2 R48 k m2 := ⟨_, rfl⟩
    have hF : F70_b2 R48 k self2 v120 v121 = some r := by first | (rw [hself2]; exact hF) | exact hF
    refine WA.seq ?_
    refine WA.join (fun s_ => ∃ (v127 : Bool), pickE s_.env [0, 2, 3, 23] = [(0, .val false [.ptr 0 1 0 0]), (2, .val false [.ptr 102 1 0 0]), (3, .val false [.arr 103 v122]), (23, one (.bool v127))] ∧ pickE s_.os [0, 102, 103] = [(0, .box (pvL (e_rex_reader v120))), (102, .box (pvL (e_api_Re (⟨0, ([] : List api_Range), ([] : List api_Re), 0, 0⟩ : api_Re)))), (103, .arr 5 (es_api_Re v121))] ∧ F70_j3 R48 k self2 v120 v121 v127 = some r) ?_ ?_
    · rintro s_ ⟨v127, he, ho, hF⟩
      refine WA.keep _ _ he ho ?_
      clear he ho
      refine WA.cond (b := v127) rfl (fun hb128 => ?_) (fun hb128 => ?_)
      · have hF := cond_t hF hb128
        refine WA.skip ?_
        refine WA.block ?_
        rcases orP_some hF with ⟨hz, hr⟩ | ⟨y129, hy129, hF⟩
        · subst hr
          refine WA.regP 2 [0] [] [] badV (f := 98) (args := [.val false [.ptr 0 1 0 0]]) (os := [.box (pvL (e_rex_reader v120))]) (env1 := []) (os1 := [(0, .box (pvL (e_rex_reader v120))), (102, .box (pvL (e_api_Re (⟨0, ([] : List api_Range), ([] : List api_Re), 0, 0⟩ : api_Re)))), (103, .arr 5 (es_api_Re v121))]) (O := []) (by kernel_rfl) (sound _ _) trivial (by decide) (F98_ok R48 IH48 k _ _ hz) (fun psl hpsl => ?_)
          obtain ⟨ps, rfl⟩ := one_of_len hpsl
          exact ⟨rfl, [ps], by kernel_rfl, rfl⟩
        · obtain ⟨hc130, hF⟩ := if_some hF
          refine WA.regM (α := (List (List PV)) × (List (List PV))) (raw := (((es_api_Re v121) ++ ([(e_api_Re y129.1)])), [(e_api_Re y129.1)])) (can := ((es_api_Re (v121 ++ ([y129.1] : List api_Re))), (es_api_Re ([y129.1] : List api_Re)))) (fun m_ => ([(0, .val false [.ptr 0 1 0 0]), (2, .val false [.ptr 102 1 0 0]), (3, .val false [.arr 103 (v122 + 1)])], [(0, .box (pvL (e_rex_reader y129.2))), (102, .box (pvL (e_api_Re (⟨0, ([] : List api_Range), ([] : List api_Re), 0, 0⟩ : api_Re)))), (103, .arr 5 m_.1)], [Sim Tryz.prog GL0 98 [.val false [.ptr 0 1 0 0]] [.box (pvL (e_rex_reader v120))] (.val true (pvL (e_api_Re y129.1))) [.box (pvL (e_rex_reader y129.2))], ([0] : List Nat).Nodup, v122 = (es_api_Re v121).length, (es_api_Re v121).length + m_.2.length ≤ 1073741824, ∀ es, es ∈ m_.2 → es.length = 5])) (pair_eq (by first | (simp only [len_map, app_map, take_map, drop_map, set_map, rep_map, lens_api_Re, app_api_Re, take_api_Re, drop_api_Re, set_api_Re, es_api_Re, e0_eq_api_Re]; done) | (simp only [List.map_append, List.map_cons, List.map_nil, List.map_take, List.map_drop, List.map_set, List.map_replicate, List.length_map, es_map_api_Re, e0_eq_api_Re]; done)) (by first | (simp only [len_map, app_map, take_map, drop_map, set_map, rep_map, lens_api_Re, app_api_Re, take_api_Re, drop_api_Re, set_api_Re, es_api_Re, e0_eq_api_Re]; done) | (simp only [List.map_append, List.map_cons, List.map_nil, List.map_take, List.map_drop, List.map_set, List.map_replicate, List.length_map, es_map_api_Re, e0_eq_api_Re]; done))) [0, 2, 3] [0, 102, 103] [(2, .call [0] (.val true (pvL (e_api_Re y129.1))) [.box (pvL (e_rex_reader y129.2))] [])] (env' := [(0, .val false [.ptr 0 1 0 0]), (2, .val false [.ptr 102 1 0 0]), (3, .val false [.arr 103 (v122 + 1)])]) (os' := [(0, .box (pvL (e_rex_reader y129.2))), (102, .box (pvL (e_api_Re (⟨0, ([] : List api_Range), ([] : List api_Re), 0, 0⟩ : api_Re)))), (103, .arr 5 (es_api_Re (v121 ++ ([y129.1] : List api_Re))))]) (O := [Sim Tryz.prog GL0 98 [.val false [.ptr 0 1 0 0]] [.box (pvL (e_rex_reader v120))] (.val true (pvL (e_api_Re y129.1))) [.box (pvL (e_rex_reader y129.2))], ([0] : List Nat).Nodup, v122 = (es_api_Re v121).length, (es_api_Re v121).length + (es_api_Re ([y129.1] : List api_Re)).length ≤ 1073741824, ∀ es, es ∈ (es_api_Re ([y129.1] : List api_Re)) → es.length = 5]) (by kernel_rfl) (by kernel_rfl) (sound _ _) ⟨(F98_ok R48 IH48 k _ _ hy129), (by decide), (by first | omega | (simp only [zlm, zla, zlc, zln, zls, zlr, zlt, zld, lens_api_Re]; done) | (simp only [zlm, zla, zlc, zln, zls, zlr, zlt, zld, lens_api_Re]; omega) | (simp only [zlm, zla, zlc, zln, zls, zlr, zlt, zld, lens_api_Re] at *; omega)), (by first | exact hc130 | (simp only [List.length_map, lens_api_Re] ; exact hc130)), (len_api_Re ([y129.1] : List api_Re)), trivial⟩ ?_
          exact ⟨m2, Nat.lt_succ_self _, y129.2, (v121 ++ ([y129.1] : List api_Re)), (v122 + 1), by kernel_rfl, by kernel_rfl, (by first | omega | (simp only [zlm, zla, zlc, zln, zls, zlr, zlt, zld, lens_api_Re]; done) | (simp only [zlm, zla, zlc, zln, zls, zlr, zlt, zld, lens_api_Re]; omega) | (simp only [zlm, zla, zlc, zln, zls, zlr, zlt, zld, lens_api_Re] at *; omega)), by rw [hself2] at hF; exact hF⟩
      · have hF := cond_f hF hb128
        refine WA.exit ?_
        refine WA.seq ?_
        refine WA.seq ?_
        refine WA.regM (α := Int) (raw := ((v122 : Nat) : Int)) (can := (v121.length : Int)) (fun m_ => ([(2, .val false [.ptr 102 1 0 0]), (3, .val false [.arr 103 v122]), (31, one (.bool (m_ == 1)))], [(0, .box (pvL (e_rex_reader v120))), (102, .box (pvL (e_api_Re (⟨0, ([] : List api_Range), ([] : List api_Re), 0, 0⟩ : api_Re)))), (103, .arr 5 (es_api_Re v121))], [])) ((by first | (simp only [zlm, zla, zlc, zln, zls, zlr, zlt, zld, lens_api_Re]; done) | (simp only [zlm, zla, zlc, zln, zls, zlr, zlt, zld, lens_api_Re]; omega) | omega)) [2, 3, 31] [0, 102, 103] [] (env' := [(2, .val false [.ptr 102 1 0 0]), (3, .val false [.arr 103 v122]), (31, one (.bool ((v121.length : Int) == 1)))]) (os' := [(0, .box (pvL (e_rex_reader v120))), (102, .box (pvL (e_api_Re (⟨0, ([] : List api_Range), ([] : List api_Re), 0, 0⟩ : api_Re)))), (103, .arr 5 (es_api_Re v121))]) (O := []) (by kernel_rfl) (by kernel_rfl) (sound _ _) trivial ?_
        refine WA.cond (b := ((v121.length : Int) == 1)) rfl (fun hb131 => ?_) (fun hb131 => ?_)
        · have hF := cond_t hF hb131
          refine WA.seq ?_
          obtain ⟨hc132, hF⟩ := if_some hF
          obtain ⟨y133, hy133, hF⟩ := bind_some hF
          refine WA.reg [2] [0, 102] [(2, .cells (e_api_Re y133))] (env' := [(2, .val false [.ptr 102 1 0 0])]) (os' := [(0, .box (pvL (e_rex_reader v120))), (102, .box (pvL (e_api_Re y133)))]) (O := [v122 = (es_api_Re v121).length, (0 : Int) ≤ 0, 0 < ((v122 : Nat) : Int), v122 = (es_api_Re v121).length, (es_api_Re v121)[Int.toNat 0]? = some (e_api_Re y133)]) (by kernel_rfl) (sound _ _) ⟨(by first | omega | (simp only [zlm, zla, zlc, zln, zls, zlr, zlt, zld, lens_api_Re]; done) | (simp only [zlm, zla, zlc, zln, zls, zlr, zlt, zld, lens_api_Re]; omega) | (simp only [zlm, zla, zlc, zln, zls, zlr, zlt, zld, lens_api_Re] at *; omega)), hc132.1, (by have h_ := hc132.2; (try simp only [zlm, zla, zlc, zln, zls, zlr, zlt, zld, lens_api_Re] at h_ ⊢); omega), (by first | omega | (simp only [zlm, zla, zlc, zln, zls, zlr, zlt, zld, lens_api_Re]; done) | (simp only [zlm, zla, zlc, zln, zls, zlr, zlt, zld, lens_api_Re]; omega) | (simp only [zlm, zla, zlc, zln, zls, zlr, zlt, zld, lens_api_Re] at *; omega)), (get_of_idx (idx_api_Re hy133)), trivial⟩ ?_
          refine WA.ret ?_
          obtain rfl := Option.some.inj hF
          exact out_ret (.val true (pvL (e_api_Re y133))) [.box (pvL (e_rex_reader v120))] (by kernel_rfl) (by kernel_rfl) (by kernel_rfl) (by kernel_rfl) (by decide) rfl rfl
        · have hF := cond_f hF hb131
          refine WA.skip ?_
          refine WA.seq ?_
          refine WA.freeze 103 3 (s := 5) (n := v122) (els := (es_api_Re v121)) rfl rfl (by first | omega | (simp only [zlm, zla, zlc, zln, zls, zlr, zlt, zld, lens_api_Re]; done) | (simp only [zlm, zla, zlc, zln, zls, zlr, zlt, zld, lens_api_Re]; omega) | (simp only [zlm, zla, zlc, zln, zls, zlr, zlt, zld, lens_api_Re] at *; omega)) ?_
          refine WA.keep [2, 3] [0, 102] (env' := [(2, .val false [.ptr 102 1 0 0]), (3, one (.sl (es_api_Re v121)))]) (os' := [(0, .box (pvL (e_rex_reader v120))), (102, .box (pvL (e_api_Re (⟨0, ([] : List api_Range), ([] : List api_Re), 0, 0⟩ : api_Re))))]) (by kernel_rfl) (by kernel_rfl) ?_
          refine WA.reg [2] [0, 102] [] (env' := [(2, .val false [.ptr 102 1 0 0])]) (os' := [(0, .box (pvL (e_rex_reader v120))), (102, .box (pvL (e_api_Re (⟨2, ([] : List api_Range), v121, 0, 0⟩ : api_Re))))]) (O := []) (by kernel_rfl) (sound _ _) trivial ?_
          refine WA.ret ?_
          obtain rfl := Option.some.inj hF
          exact out_ret (.val true (pvL (e_api_Re (⟨2, ([] : List api_Range), v121, 0, 0⟩ : api_Re)))) [.box (pvL (e_rex_reader v120))] (by kernel_rfl) (by kernel_rfl) (by kernel_rfl) (by kernel_rfl) (by decide) rfl rfl
    · rcases Bool.eq_false_or_eq_true (decide (v120.f_at < (v120.f_s.length : Int))) with hb123 | hb123
      · have hF := cond_t hF hb123
        obtain ⟨y124, hy124, hF⟩ := bind_some hF
        rcases Bool.eq_false_or_eq_true (!y124) with hb125 | hb125
        · have hF := cond_t hF hb125
          obtain ⟨y126, hy126, hF⟩ := bind_some hF
          refine WA.regD (by kernel_rfl) [0, 2, 3, 23] [0, 102, 103] [(10, .bool true), (12, .callR [0] (one (.bool y124))), (15, .bool true), (17, .callR [0] (one (.bool y126)))] (env' := [(0, .val false [.ptr 0 1 0 0]), (2, .val false [.ptr 102 1 0 0]), (3, .val false [.arr 103 v122]), (23, one (.bool (!y126)))]) (os' := [(0, .box (pvL (e_rex_reader v120))), (102, .box (pvL (e_api_Re (⟨0, ([] : List api_Range), ([] : List api_Re), 0, 0⟩ : api_Re)))), (103, .arr 5 (es_api_Re v121))]) (O := [(decide (v120.f_at < (v120.f_s.length : Int))) = true, Sim Tryz.prog GL0 97 [.val false [.ptr 0 1 0 0], one (.str ([124] : List UInt8))] [.box (pvL (e_rex_reader v120))] (one (.bool y124)) [.box (pvL (e_rex_reader v120))], ([0] : List Nat).Nodup, (!y124) = true, Sim Tryz.prog GL0 97 [.val false [.ptr 0 1 0 0], one (.str ([41] : List UInt8))] [.box (pvL (e_rex_reader v120))] (one (.bool y126)) [.box (pvL (e_rex_reader v120))], ([0] : List Nat).Nodup]) (by kernel_rfl) (by kernel_rfl) (sound _ _) ⟨hb123, (F97_ok k _ _ _ hy124), (by decide), hb125, (F97_ok k _ _ _ hy126), (by decide), trivial⟩ ?_
          exact ⟨(!y126), by kernel_rfl, by kernel_rfl, hF⟩
        · have hF := cond_f hF hb125
          refine WA.regD (by kernel_rfl) [0, 2, 3, 23] [0, 102, 103] [(10, .bool true), (12, .callR [0] (one (.bool y124))), (15, .bool false), (17, .callR [] (.tup []))] (env' := [(0, .val false [.ptr 0 1 0 0]), (2, .val false [.ptr 102 1 0 0]), (3, .val false [.arr 103 v122]), (23, one (.bool false))]) (os' := [(0, .box (pvL (e_rex_reader v120))), (102, .box (pvL (e_api_Re (⟨0, ([] : List api_Range), ([] : List api_Re), 0, 0⟩ : api_Re)))), (103, .arr 5 (es_api_Re v121))]) (O := [(decide (v120.f_at < (v120.f_s.length : Int))) = true, Sim Tryz.prog GL0 97 [.val false [.ptr 0 1 0 0], one (.str ([124] : List UInt8))] [.box (pvL (e_rex_reader v120))] (one (.bool y124)) [.box (pvL (e_rex_reader v120))], ([0] : List Nat).Nodup, (!y124) = false]) (by kernel_rfl) (by kernel_rfl) (sound _ _) ⟨hb123, (F97_ok k _ _ _ hy124), (by decide), hb125, trivial⟩ ?_
          exact ⟨false, by kernel_rfl, by kernel_rfl, hF⟩
      · have hF := cond_f hF hb123
        refine WA.regD (by kernel_rfl) [0, 2, 3, 23] [0, 102, 103] [(10, .bool false), (12, .callR [] (.tup [])), (17, .callR [] (.tup []))] (env' := [(0, .val false [.ptr 0 1 0 0]), (2, .val false [.ptr 102 1 0 0]), (3, .val false [.arr 103 v122]), (23, one (.bool false))]) (os' := [(0, .box (pvL (e_rex_reader v120))), (102, .box (pvL (e_api_Re (⟨0, ([] : List api_Range), ([] : List api_Re), 0, 0⟩ : api_Re)))), (103, .arr 5 (es_api_Re v121))]) (O := [(decide (v120.f_at < (v120.f_s.length : Int))) = false]) (by kernel_rfl) (by kernel_rfl) (sound _ _) ⟨hb123, trivial⟩ ?_
        exact ⟨false, by kernel_rfl, by kernel_rfl, hF⟩
/-!   entrepot rex.reader .alt -/
def F48_b0 (R48 : rex_reader → Option (Option (api_Re × rex_reader))) (k : Nat) (self0 : rex_reader → (List api_Re) → Option (Option (api_Re × rex_reader))) (v113 : rex_reader) (v114 : List api_Re) : Option (Option (api_Re × rex_reader)) :=
  (F71 k v113 ([124] : List UInt8)).bind fun y116 => (cond y116.1 ((orP (F70 R48 k y116.2) fun y118 => if v114.length + ([y118.1] : List api_Re).length ≤ 1073741824 then self0 y118.2 (v114 ++ ([y118.1] : List api_Re)) else none)) (((cond ((v114.length : Int) == 1) (if (0 : Int) ≤ 0 ∧ 0 < (v114.length : Int) then (idxL v114 0).bind fun y122 => (some (some (y122, y116.2))) else none) (((some (some ((⟨3, ([] : List api_Range), v114, 0, 0⟩ : api_Re), y116.2)))))))))
def F48_l0 (R48 : rex_reader → Option (Option (api_Re × rex_reader))) (k : Nat) : Nat → rex_reader → (List api_Re) → Option (Option (api_Re × rex_reader))
  | 0, _, _ => none
  | m_ + 1, v113, v114 => F48_b0 R48 k (F48_l0 R48 k m_) v113 v114
def F48_b (R48 : rex_reader → Option (Option (api_Re × rex_reader))) (k : Nat) (v0 : rex_reader) : Option (Option (api_Re × rex_reader)) :=
  (orP (F70 R48 k v0) fun y101 => (F48_l0 R48 k k y101.2 ([y101.1] : List api_Re)))
theorem F48_b_ok (R48 : rex_reader → Option (Option (api_Re × rex_reader))) (IH48 : ∀ (v0 : rex_reader) (r : Option (api_Re × rex_reader)), R48 v0 = some r → SimP Tryz.prog GL0 badV 48 [.val false [.ptr 0 1 0 0]] [.box (pvL (e_rex_reader v0))] (r.map fun r => (.val true (pvL (e_api_Re r.1)), [.box (pvL (e_rex_reader r.2))]))) (k : Nat) (v0 : rex_reader) (r : Option (api_Re × rex_reader)) (hF : F48_b R48 k v0 = some r) : SimP Tryz.prog GL0 badV 48 [.val false [.ptr 0 1 0 0]] [.box (pvL (e_rex_reader v0))] (r.map fun r => (.val true (pvL (e_api_Re r.1)), [.box (pvL (e_rex_reader r.2))])) := by
  refine simP_of [0] Tryz.func48 rfl (by kernel_rfl) (by kernel_rfl) ?_
  show WA _ _ 22 _ _ _
  refine WA.seq ?_
  refine WA.reg [0, 2] [0, 102] [(0, .obj 102)] (env' := [(0, .val false [.ptr 0 1 0 0]), (2, .val false [.ptr 102 1 0 0])]) (os' := [(0, .box (pvL (e_rex_reader v0))), (102, .box (pvL (e_api_Re (⟨0, ([] : List api_Range), ([] : List api_Re), 0, 0⟩ : api_Re))))]) (O := []) (by kernel_rfl) (sound _ _) trivial ?_
  refine WA.seq ?_
  rcases orP_some hF with ⟨hz, hr⟩ | ⟨y101, hy101, hF⟩
  · subst hr
    refine WA.regP 1 [0] [] [] badV (f := 70) (args := [.val false [.ptr 0 1 0 0]]) (os := [.box (pvL (e_rex_reader v0))]) (env1 := []) (os1 := [(0, .box (pvL (e_rex_reader v0))), (102, .box (pvL (e_api_Re (⟨0, ([] : List api_Range), ([] : List api_Re), 0, 0⟩ : api_Re))))]) (O := []) (by kernel_rfl) (sound _ _) trivial (by decide) (F70_ok R48 IH48 k _ _ hz) (fun psl hpsl => ?_)
    obtain ⟨ps, rfl⟩ := one_of_len hpsl
    exact ⟨rfl, [ps], by kernel_rfl, rfl⟩
  · refine WA.regM (α := (List (List PV))) (raw := [(e_api_Re y101.1)]) (can := (es_api_Re ([y101.1] : List api_Re))) (fun m_ => ([(0, .val false [.ptr 0 1 0 0]), (2, .val false [.ptr 102 1 0 0]), (3, .val false [.arr 106 1])], [(0, .box (pvL (e_rex_reader y101.2))), (102, .box (pvL (e_api_Re (⟨0, ([] : List api_Range), ([] : List api_Re), 0, 0⟩ : api_Re)))), (106, .arr 5 m_)], [Sim Tryz.prog GL0 70 [.val false [.ptr 0 1 0 0]] [.box (pvL (e_rex_reader v0))] (.val true (pvL (e_api_Re y101.1))) [.box (pvL (e_rex_reader y101.2))], ([0] : List Nat).Nodup])) ((by first | (simp only [len_map, app_map, take_map, drop_map, set_map, rep_map, lens_api_Re, app_api_Re, take_api_Re, drop_api_Re, set_api_Re, es_api_Re, e0_eq_api_Re]; done) | (simp only [List.map_append, List.map_cons, List.map_nil, List.map_take, List.map_drop, List.map_set, List.map_replicate, List.length_map, es_map_api_Re, e0_eq_api_Re]; done))) [0, 2, 3] [0, 102, 106] [(1, .call [0] (.val true (pvL (e_api_Re y101.1))) [.box (pvL (e_rex_reader y101.2))] []), (2, .obj 106)] (env' := [(0, .val false [.ptr 0 1 0 0]), (2, .val false [.ptr 102 1 0 0]), (3, .val false [.arr 106 1])]) (os' := [(0, .box (pvL (e_rex_reader y101.2))), (102, .box (pvL (e_api_Re (⟨0, ([] : List api_Range), ([] : List api_Re), 0, 0⟩ : api_Re)))), (106, .arr 5 (es_api_Re ([y101.1] : List api_Re)))]) (O := [Sim Tryz.prog GL0 70 [.val false [.ptr 0 1 0 0]] [.box (pvL (e_rex_reader v0))] (.val true (pvL (e_api_Re y101.1))) [.box (pvL (e_rex_reader y101.2))], ([0] : List Nat).Nodup]) (by kernel_rfl) (by kernel_rfl) (sound _ _) ⟨(F70_ok R48 IH48 k _ _ hy101), (by decide), trivial⟩ ?_
    refine WA.seq ?_
    refine WA.block ?_
    refine WA.loop (fun m s_ => ∃ (v113 : rex_reader) (v114 : List api_Re) (v115 : Nat), pickE s_.env [0, 2, 3] = [(0, .val false [.ptr 0 1 0 0]), (2, .val false [.ptr 102 1 0 0]), (3, .val false [.arr 106 v115])] ∧ pickE s_.os [0, 102, 106] = [(0, .box (pvL (e_rex_reader v113))), (102, .box (pvL (e_api_Re (⟨0, ([] : List api_Range), ([] : List api_Re), 0, 0⟩ : api_Re)))), (106, .arr 5 (es_api_Re v114))] ∧ v115 = (v114 : List _).length ∧ F48_l0 R48 k m v113 v114 = some r) k ⟨y101.2, ([y101.1] : List api_Re), 1, by kernel_rfl, by kernel_rfl, (by first | omega | (simp only [zlm, zla, zlc, zln, zls, zlr, zlt, zld, lens_api_Re]; done) | (simp only [zlm, zla, zlc, zln, zls, zlr, zlt, zld, lens_api_Re]; omega) | (simp only [zlm, zla, zlc, zln, zls, zlr, zlt, zld, lens_api_Re] at *; omega)), hF⟩ ?_
    clear hF
    rintro m0 s_ ⟨v113, v114, v115, he, ho, hn_v115, hF⟩
    refine WA.keep _ _ he ho ?_
    clear he ho
    cases m0 with
    | zero => cases hF
    | succ m0 =>
      obtain ⟨self0, hself0⟩ : ∃ g, g = F48_l0 R48 k m0 := ⟨_, rfl⟩
      have hF : F48_b0 R48 k self0 v113 v114 = some r := by first | (rw [hself0]; exact hF) | exact hF
      refine WA.seq ?_
      refine WA.seq ?_
      obtain ⟨y116, hy116, hF⟩ := bind_some hF
      refine WA.reg [0, 2, 3, 8] [0, 102, 106] [(1, .call [0] (one (.bool y116.1)) [.box (pvL (e_rex_reader y116.2))] [])] (env' := [(0, .val false [.ptr 0 1 0 0]), (2, .val false [.ptr 102 1 0 0]), (3, .val false [.arr 106 v115]), (8, one (.bool y116.1))]) (os' := [(0, .box (pvL (e_rex_reader y116.2))), (102, .box (pvL (e_api_Re (⟨0, ([] : List api_Range), ([] : List api_Re), 0, 0⟩ : api_Re)))), (106, .arr 5 (es_api_Re v114))]) (O := [Sim Tryz.prog GL0 71 [.val false [.ptr 0 1 0 0], one (.str ([124] : List UInt8))] [.box (pvL (e_rex_reader v113))] (one (.bool y116.1)) [.box (pvL (e_rex_reader y116.2))], ([0] : List Nat).Nodup]) (by kernel_rfl) (sound _ _) ⟨(F71_ok k _ _ _ hy116), (by decide), trivial⟩ ?_
      refine WA.cond (b := y116.1) rfl (fun hb117 => ?_) (fun hb117 => ?_)
      · have hF := cond_t hF hb117
        refine WA.skip ?_
        refine WA.block ?_
        rcases orP_some hF with ⟨hz, hr⟩ | ⟨y118, hy118, hF⟩
        · subst hr
          refine WA.regP 2 [0] [] [] badV (f := 70) (args := [.val false [.ptr 0 1 0 0]]) (os := [.box (pvL (e_rex_reader y116.2))]) (env1 := []) (os1 := [(0, .box (pvL (e_rex_reader y116.2))), (102, .box (pvL (e_api_Re (⟨0, ([] : List api_Range), ([] : List api_Re), 0, 0⟩ : api_Re)))), (106, .arr 5 (es_api_Re v114))]) (O := []) (by kernel_rfl) (sound _ _) trivial (by decide) (F70_ok R48 IH48 k _ _ hz) (fun psl hpsl => ?_)
          obtain ⟨ps, rfl⟩ := one_of_len hpsl
          exact ⟨rfl, [ps], by kernel_rfl, rfl⟩
        · obtain ⟨hc119, hF⟩ := if_some hF
          refine WA.regM (α := (List (List PV)) × (List (List PV))) (raw := (((es_api_Re v114) ++ ([(e_api_Re y118.1)])), [(e_api_Re y118.1)])) (can := ((es_api_Re (v114 ++ ([y118.1] : List api_Re))), (es_api_Re ([y118.1] : List api_Re)))) (fun m_ => ([(0, .val false [.ptr 0 1 0 0]), (2, .val false [.ptr 102 1 0 0]), (3, .val false [.arr 106 (v115 + 1)])], [(0, .box (pvL (e_rex_reader y118.2))), (102, .box (pvL (e_api_Re (⟨0, ([] : List api_Range), ([] : List api_Re), 0, 0⟩ : api_Re)))), (106, .arr 5 m_.1)], [Sim Tryz.prog GL0 70 [.val false [.ptr 0 1 0 0]] [.box (pvL (e_rex_reader y116.2))] (.val true (pvL (e_api_Re y118.1))) [.box (pvL (e_rex_reader y118.2))], ([0] : List Nat).Nodup, v115 = (es_api_Re v114).length, (es_api_Re v114).length + m_.2.length ≤ 1073741824, ∀ es, es ∈ m_.2 → es.length = 5])) (pair_eq (by first | (simp only [len_map, app_map, take_map, drop_map, set_map, rep_map, lens_api_Re, app_api_Re, take_api_Re, drop_api_Re, set_api_Re, es_api_Re, e0_eq_api_Re]; done) | (simp only [List.map_append, List.map_cons, List.map_nil, List.map_take, List.map_drop, List.map_set, List.map_replicate, List.length_map, es_map_api_Re, e0_eq_api_Re]; done)) (by first | (simp only [len_map, app_map, take_map, drop_map, set_map, rep_map, lens_api_Re, app_api_Re, take_api_Re, drop_api_Re, set_api_Re, es_api_Re, e0_eq_api_Re]; done) | (simp only [List.map_append, List.map_cons, List.map_nil, List.map_take, List.map_drop, List.map_set, List.map_replicate, List.length_map, es_map_api_Re, e0_eq_api_Re]; done))) [0, 2, 3] [0, 102, 106] [(2, .call [0] (.val true (pvL (e_api_Re y118.1))) [.box (pvL (e_rex_reader y118.2))] [])] (env' := [(0, .val false [.ptr 0 1 0 0]), (2, .val false [.ptr 102 1 0 0]), (3, .val false [.arr 106 (v115 + 1)])]) (os' := [(0, .box (pvL (e_rex_reader y118.2))), (102, .box (pvL (e_api_Re (⟨0, ([] : List api_Range), ([] : List api_Re), 0, 0⟩ : api_Re)))), (106, .arr 5 (es_api_Re (v114 ++ ([y118.1] : List api_Re))))]) (O := [Sim Tryz.prog GL0 70 [.val false [.ptr 0 1 0 0]] [.box (pvL (e_rex_reader y116.2))] (.val true (pvL (e_api_Re y118.1))) [.box (pvL (e_rex_reader y118.2))], ([0] : List Nat).Nodup, v115 = (es_api_Re v114).length, (es_api_Re v114).length + (es_api_Re ([y118.1] : List api_Re)).length ≤ 1073741824, ∀ es, es ∈ (es_api_Re ([y118.1] : List api_Re)) → es.length = 5]) (by kernel_rfl) (by kernel_rfl) (sound _ _) ⟨(F70_ok R48 IH48 k _ _ hy118), (by decide), (by first | omega | (simp only [zlm, zla, zlc, zln, zls, zlr, zlt, zld, lens_api_Re]; done) | (simp only [zlm, zla, zlc, zln, zls, zlr, zlt, zld, lens_api_Re]; omega) | (simp only [zlm, zla, zlc, zln, zls, zlr, zlt, zld, lens_api_Re] at *; omega)), (by first | exact hc119 | (simp only [List.length_map, lens_api_Re] ; exact hc119)), (len_api_Re ([y118.1] : List api_Re)), trivial⟩ ?_
          exact ⟨m0, Nat.lt_succ_self _, y118.2, (v114 ++ ([y118.1] : List api_Re)), (v115 + 1), by kernel_rfl, by kernel_rfl, (by first | omega | (simp only [zlm, zla, zlc, zln, zls, zlr, zlt, zld, lens_api_Re]; done) | (simp only [zlm, zla, zlc, zln, zls, zlr, zlt, zld, lens_api_Re]; omega) | (simp only [zlm, zla, zlc, zln, zls, zlr, zlt, zld, lens_api_Re] at *; omega)), by rw [hself0] at hF; exact hF⟩
      · have hF := cond_f hF hb117
        refine WA.exit ?_
        refine WA.seq ?_
        refine WA.seq ?_
        refine WA.regM (α := Int) (raw := ((v115 : Nat) : Int)) (can := (v114.length : Int)) (fun m_ => ([(2, .val false [.ptr 102 1 0 0]), (3, .val false [.arr 106 v115]), (16, one (.bool (m_ == 1)))], [(0, .box (pvL (e_rex_reader y116.2))), (102, .box (pvL (e_api_Re (⟨0, ([] : List api_Range), ([] : List api_Re), 0, 0⟩ : api_Re)))), (106, .arr 5 (es_api_Re v114))], [])) ((by first | (simp only [zlm, zla, zlc, zln, zls, zlr, zlt, zld, lens_api_Re]; done) | (simp only [zlm, zla, zlc, zln, zls, zlr, zlt, zld, lens_api_Re]; omega) | omega)) [2, 3, 16] [0, 102, 106] [] (env' := [(2, .val false [.ptr 102 1 0 0]), (3, .val false [.arr 106 v115]), (16, one (.bool ((v114.length : Int) == 1)))]) (os' := [(0, .box (pvL (e_rex_reader y116.2))), (102, .box (pvL (e_api_Re (⟨0, ([] : List api_Range), ([] : List api_Re), 0, 0⟩ : api_Re)))), (106, .arr 5 (es_api_Re v114))]) (O := []) (by kernel_rfl) (by kernel_rfl) (sound _ _) trivial ?_
        refine WA.cond (b := ((v114.length : Int) == 1)) rfl (fun hb120 => ?_) (fun hb120 => ?_)
        · have hF := cond_t hF hb120
          refine WA.seq ?_
          obtain ⟨hc121, hF⟩ := if_some hF
          obtain ⟨y122, hy122, hF⟩ := bind_some hF
          refine WA.reg [2] [0, 102] [(2, .cells (e_api_Re y122))] (env' := [(2, .val false [.ptr 102 1 0 0])]) (os' := [(0, .box (pvL (e_rex_reader y116.2))), (102, .box (pvL (e_api_Re y122)))]) (O := [v115 = (es_api_Re v114).length, (0 : Int) ≤ 0, 0 < ((v115 : Nat) : Int), v115 = (es_api_Re v114).length, (es_api_Re v114)[Int.toNat 0]? = some (e_api_Re y122)]) (by kernel_rfl) (sound _ _) ⟨(by first | omega | (simp only [zlm, zla, zlc, zln, zls, zlr, zlt, zld, lens_api_Re]; done) | (simp only [zlm, zla, zlc, zln, zls, zlr, zlt, zld, lens_api_Re]; omega) | (simp only [zlm, zla, zlc, zln, zls, zlr, zlt, zld, lens_api_Re] at *; omega)), hc121.1, (by have h_ := hc121.2; (try simp only [zlm, zla, zlc, zln, zls, zlr, zlt, zld, lens_api_Re] at h_ ⊢); omega), (by first | omega | (simp only [zlm, zla, zlc, zln, zls, zlr, zlt, zld, lens_api_Re]; done) | (simp only [zlm, zla, zlc, zln, zls, zlr, zlt, zld, lens_api_Re]; omega) | (simp only [zlm, zla, zlc, zln, zls, zlr, zlt, zld, lens_api_Re] at *; omega)), (get_of_idx (idx_api_Re hy122)), trivial⟩ ?_
          refine WA.ret ?_
          obtain rfl := Option.some.inj hF
          exact out_ret (.val true (pvL (e_api_Re y122))) [.box (pvL (e_rex_reader y116.2))] (by kernel_rfl) (by kernel_rfl) (by kernel_rfl) (by kernel_rfl) (by decide) rfl rfl
        · have hF := cond_f hF hb120
          refine WA.skip ?_
          refine WA.seq ?_
          refine WA.freeze 106 3 (s := 5) (n := v115) (els := (es_api_Re v114)) rfl rfl (by first | omega | (simp only [zlm, zla, zlc, zln, zls, zlr, zlt, zld, lens_api_Re]; done) | (simp only [zlm, zla, zlc, zln, zls, zlr, zlt, zld, lens_api_Re]; omega) | (simp only [zlm, zla, zlc, zln, zls, zlr, zlt, zld, lens_api_Re] at *; omega)) ?_
          refine WA.keep [2, 3] [0, 102] (env' := [(2, .val false [.ptr 102 1 0 0]), (3, one (.sl (es_api_Re v114)))]) (os' := [(0, .box (pvL (e_rex_reader y116.2))), (102, .box (pvL (e_api_Re (⟨0, ([] : List api_Range), ([] : List api_Re), 0, 0⟩ : api_Re))))]) (by kernel_rfl) (by kernel_rfl) ?_
          refine WA.reg [2] [0, 102] [] (env' := [(2, .val false [.ptr 102 1 0 0])]) (os' := [(0, .box (pvL (e_rex_reader y116.2))), (102, .box (pvL (e_api_Re (⟨3, ([] : List api_Range), v114, 0, 0⟩ : api_Re))))]) (O := []) (by kernel_rfl) (sound _ _) trivial ?_
          refine WA.ret ?_
          obtain rfl := Option.some.inj hF
          exact out_ret (.val true (pvL (e_api_Re (⟨3, ([] : List api_Range), v114, 0, 0⟩ : api_Re)))) [.box (pvL (e_rex_reader y116.2))] (by kernel_rfl) (by kernel_rfl) (by kernel_rfl) (by kernel_rfl) (by decide) rfl rfl
def F48 : Nat → rex_reader → Option (Option (api_Re × rex_reader))
  | 0, _ => none
  | k + 1, v0 => F48_b (F48 k) k v0
theorem F48_ok : ∀ (k : Nat), ∀ (v0 : rex_reader) (r : Option (api_Re × rex_reader)), F48 k v0 = some r → SimP Tryz.prog GL0 badV 48 [.val false [.ptr 0 1 0 0]] [.box (pvL (e_rex_reader v0))] (r.map fun r => (.val true (pvL (e_api_Re r.1)), [.box (pvL (e_rex_reader r.2))]))
  | 0 => fun _ _ hF => by cases hF
  | k + 1 => fun v0 r hF => F48_b_ok (F48 k) (F48_ok k) k v0 r hF
end Go.Proofs.YthilboheomikjaaGreatDoor
end

section
namespace Go.Proofs.YthilboheomikjaaGreatDoor
open Go.AL Go.RowKit
set_option linter.unusedVariables false
set_option maxRecDepth 100000

theorem assert_nil (w : World) : (Instr.typeAssert .nilIface 20 70 true).run Tryz.prog w = .ok (.tuple #[.agg #[], .bool false]) w := by kernel_rfl
theorem assert_bad (w : World) : (Instr.typeAssert badV 20 70 true).run Tryz.prog w = .ok (.tuple #[.agg #[], .bool true]) w := by kernel_rfl

theorem catch_idle (p q : Addr) (w : World) :
    CallsD Tryz.prog 47 #[.pointer (some p), .pointer (some q)] .returning w fun e u' w' => e = .returned (.tuple #[]) ∧ u' = .returning ∧ w' = w.alloc (.cells #[] 70) := by
  refine callsD_of_wpS Tryz.func47 rfl fun c₀ cs hu => ?_
  apply wpS_seq
  apply wpS_region
  simp [wpOpsS, go_sem, recoverD, hu, Tryz.ntmps47, Exit.thenS, assert_nil, Oper.upon, Act.put]
  apply wpS_seq
  apply wpS_region
  simp [wpOpsS, go_sem, Exit.thenS, Oper.upon, Act.put]
  refine wpS_cond (t := false) (by simp [Act.eval, Array.replicate]) ?_
  simp only [Bool.false_eq_true, if_false]
  refine wpS_of_wp (wp_skip ?_)
  cases c₀
  simp_all [bodyPostS, results, Tryz.results47, Exit.thenS]

theorem catch_bad (p q : Addr) (w : World) (w1 w2 : World) (h1 : (Instr.storeAt 35 (.pointer (some p)) (.agg #[.int .i64 0, .slice none 0 0, .slice none 0 0, .int .i64 0, .int .i64 0])).run Tryz.prog (w.alloc (.cells #[] 70)) = .ok () w1)
    (h2 : (Instr.storeAt 3 (.pointer (some q)) (.int .i64 3)).run Tryz.prog w1 = .ok () w2) :
    CallsD Tryz.prog 47 #[.pointer (some p), .pointer (some q)] (.panicking (thrown badV)) w fun e u' w' => e = .returned (.tuple #[]) ∧ u' = .panicking [{ v := badV, recovered := true }] ∧ w' = w2 := by
  refine callsD_of_wpS Tryz.func47 rfl fun c₀ cs hu => ?_
  apply wpS_seq
  apply wpS_region
  have hb : badV = .iface 70 (.agg #[]) := rfl
  simp [wpOpsS, go_sem, recoverD, hu, Tryz.ntmps47, Exit.thenS, assert_bad, Oper.upon, Act.put, thrown]
  apply wpS_seq
  apply wpS_region
  simp [wpOpsS, go_sem, Exit.thenS, Oper.upon, Act.put]
  refine wpS_cond (t := true) (by simp [Act.eval, Array.replicate]) ?_
  simp only [if_true]
  have hbld : ∀ W : World, (Instr.build 35 #[]).run Tryz.prog W = .ok (.agg #[.int .i64 0, .slice none 0 0, .slice none 0 0, .int .i64 0, .int .i64 0]) W := fun W => by kernel_rfl
  apply wpS_region
  simp [wpOpsS, execOp, Exit.thenS, Oper.upon, Act.put, hbld, Act.eval, h1, h2, Region.wanted, Array.replicate, show List.range 3 = [0, 1, 2] from rfl]
  exact ⟨rfl, _, rfl, .tuple #[], by simp [results, Tryz.results47], rfl, rfl, rfl⟩
end Go.Proofs.YthilboheomikjaaGreatDoor
end

section
namespace Go.Proofs.YthilboheomikjaaGreatDoor
open Go.AL Go.RowKit
set_option linter.unusedVariables false
set_option maxRecDepth 100000

def zRe : api_Re := ⟨0, [], [], 0, 0⟩

def F27_e (k : Nat) (s : List UInt8) (p : api_Re) (r : rex_reader) : Option (api_Re × Int) :=
  cond r.f_over (some (zRe, 8)) ((F32 k p).bind fun n => cond (decide (n > 200)) (some (zRe, 8)) ((F50 k p).bind fun d => cond (decide (d > 14)) (some (zRe, 8)) (some (p, 0))))
def F27_t (k : Nat) (s : List UInt8) (p : api_Re) (r : rex_reader) : Option (api_Re × Int) :=
  cond (decide (r.f_at < (s.length : Int))) (some (zRe, 3)) ((F49 k s).bind fun b => cond b (F27_e k s p r) (some (zRe, 3)))
def F27_r (k : Nat) (s : List UInt8) : Option (api_Re × Int) := (F48 k ⟨s, 0, false⟩).bind fun y => match y with
  | none => some (zRe, 3)
  | some (p, r) => F27_t k s p r
def F27 (k : Nat) (s : List UInt8) : Option (api_Re × Int) := cond (decide ((s.length : Int) > 400)) (some (zRe, 8)) (F27_r k s)

def ptrs : List (Nat × AT) := [(2, .val false [.ptr 0 1 0 0]), (3, .val false [.ptr 1 1 0 0])]

/-- how the code behind the defer ends -/
def FR (res : api_Re × Int) : Exit → S → Prop
  | .ret, s => pickE s.env [2, 3] = ptrs ∧ pickE s.os [0, 1] = [(0, .box (pvL (e_api_Re res.1))), (1, .box (pvL [.int .i64 res.2]))]
  | .panic ch, s => ch = thrown badV ∧ res = (zRe, 3) ∧ pickE s.env [2, 3] = ptrs ∧ ∃ (p : api_Re) (n : Int), pickE s.os [0, 1] = [(0, .box (pvL (e_api_Re p))), (1, .box (pvL [.int .i64 n]))]
  | _, _ => False

/-- the code behind the defer -/
def tail27 : Option Code → Option Code
  | some (.seq _ (.seq _ (.seq _ c))) => some c
  | _ => none

/-- the region that throws, in it -/
def bad27 : Option Code → Code
  | some (.seq _ (.seq _ (.seq (.seq _ (.cond _ c _)) _))) => c
  | _ => .skip

def end27 : Option Code → Code
  | some (.seq _ (.seq _ (.seq _ c))) => c
  | _ => .skip

def lim27 : Option Code → Code
  | some (.seq _ (.seq _ (.seq _ (.seq (.seq _ (.cond _ c _)) _)))) => c
  | _ => .skip
def cond27 : Option Code → Code
  | some (.seq _ (.seq _ (.seq _ (.seq (.seq _ c) _)))) => c
  | _ => .skip
def fin27 : Option Code → Code
  | some (.seq _ (.seq _ (.seq _ (.seq _ c)))) => c
  | _ => .skip

theorem rest_ok (k : Nat) (s : List UInt8) (res : api_Re × Int) (hF : F27_r k s = some res) (c : Code) (hc : tail27 Tryz.f27.body = some c) :
    WA Tryz.prog GL0 45 c ⟨(0, one (.str s)) :: ptrs, [(0, .box (pvL (e_api_Re zRe))), (1, .box (pvL [.int .i64 0]))]⟩ (FR res) := by
  cases hc
  refine WA.seq ?_
  refine WA.reg [0, 2, 3, 4] [0, 1, 112] [(2, .obj 112)] (env' := (0, one (.str s)) :: ptrs ++ [(4, .val false [.ptr 112 1 0 0])]) (os' := [(0, .box (pvL (e_api_Re zRe))), (1, .box (pvL [.int .i64 0])), (112, .box (pvL (e_rex_reader ⟨s, 0, false⟩)))]) (O := []) (by kernel_rfl) (sound _ _) trivial ?_
  refine WA.seq ?_
  obtain ⟨y, hy, hF⟩ := bind_some hF
  cases y with
  | none =>
    obtain rfl := Option.some.inj hF
    refine WA.regP 1 [112] [2, 3] [] badV (f := 48) (args := [.val false [.ptr 0 1 0 0]]) (os := [.box (pvL (e_rex_reader ⟨s, 0, false⟩))]) (env1 := ptrs) (os1 := [(0, .box (pvL (e_api_Re zRe))), (1, .box (pvL [.int .i64 0])), (112, .box (pvL (e_rex_reader ⟨s, 0, false⟩)))]) (O := []) (by kernel_rfl) (sound _ _) trivial (by decide) (F48_ok k _ _ hy) (fun psl hpsl => ?_)
    obtain ⟨ps, rfl⟩ := one_of_len hpsl
    exact ⟨rfl, rfl, by kernel_rfl, zRe, 0, by kernel_rfl⟩
  | some y =>
    obtain ⟨p, r⟩ := y
    have hF : F27_t k s p r = some res := hF
    refine WA.reg [0, 2, 3, 4] [0, 1, 112] [(1, .call [112] (.val true (pvL (e_api_Re p))) [.box (pvL (e_rex_reader r))] [])] (env' := (0, one (.str s)) :: ptrs ++ [(4, .val false [.ptr 112 1 0 0])]) (os' := [(0, .box (pvL (e_api_Re p))), (1, .box (pvL [.int .i64 0])), (112, .box (pvL (e_rex_reader r)))]) (O := [Sim Tryz.prog GL0 48 [.val false [.ptr 0 1 0 0]] [.box (pvL (e_rex_reader ⟨s, 0, false⟩))] (.val true (pvL (e_api_Re p))) [.box (pvL (e_rex_reader r))], ([112] : List Nat).Nodup]) (by kernel_rfl) (sound _ _) ⟨F48_ok k _ _ hy, by decide, trivial⟩ ?_
    refine WA.seq ?_
    refine WA.seq ?_
    have hbad : some (zRe, 3) = some res → WA Tryz.prog GL0 45 (bad27 (tail27 Tryz.f27.body)) ⟨ptrs ++ [(4, .val false [.ptr 112 1 0 0])], [(0, .box (pvL (e_api_Re p))), (1, .box (pvL [.int .i64 0])), (112, .box (pvL (e_rex_reader r)))]⟩ (FR res) := fun hF => by
      obtain rfl := Option.some.inj hF
      show WA Tryz.prog GL0 45 (.region 7 _ _) _ _
      refine WA.bad [2, 3] (t := 70) (env1 := ptrs) (os1 := [(0, .box (pvL (e_api_Re p))), (1, .box (pvL [.int .i64 0])), (112, .box (pvL (e_rex_reader r)))]) (O := []) (by kernel_rfl) (sound _ _) trivial ?_
      exact ⟨rfl, rfl, by kernel_rfl, p, 0, by kernel_rfl⟩
    have hrest : F27_e k s p r = some res → WA Tryz.prog GL0 45 (end27 (tail27 Tryz.f27.body)) ⟨ptrs ++ [(4, .val false [.ptr 112 1 0 0])], [(0, .box (pvL (e_api_Re p))), (1, .box (pvL [.int .i64 0])), (112, .box (pvL (e_rex_reader r)))]⟩ (FR res) := fun hF => by
      have hlim : some (zRe, 8) = some res → WA Tryz.prog GL0 45 (lim27 (tail27 Tryz.f27.body)) ⟨ptrs, [(0, .box (pvL (e_api_Re p))), (1, .box (pvL [.int .i64 0]))]⟩ (FR res) := fun hF => by
        obtain rfl := Option.some.inj hF
        show WA Tryz.prog GL0 45 (.seq (.region 9 _ _) .ret) _ _
        refine WA.seq ?_
        refine WA.reg [2, 3] [0, 1] [] (env' := ptrs) (os' := [(0, .box (pvL (e_api_Re zRe))), (1, .box (pvL [.int .i64 8]))]) (O := []) (by kernel_rfl) (sound _ _) trivial ?_
        refine WA.ret ?_
        exact ⟨by kernel_rfl, by kernel_rfl⟩
      have hend : some (p, 0) = some res → WA Tryz.prog GL0 45 (fin27 (tail27 Tryz.f27.body)) ⟨ptrs, [(0, .box (pvL (e_api_Re p))), (1, .box (pvL [.int .i64 0]))]⟩ (FR res) := fun hF => by
        obtain rfl := Option.some.inj hF
        show WA Tryz.prog GL0 45 (.seq (.region 10 _ _) .ret) _ _
        refine WA.seq ?_
        refine WA.reg [2, 3] [0, 1] [] (env' := ptrs) (os' := [(0, .box (pvL (e_api_Re p))), (1, .box (pvL [.int .i64 0]))]) (O := []) (by kernel_rfl) (sound _ _) trivial ?_
        refine WA.ret ?_
        exact ⟨by kernel_rfl, by kernel_rfl⟩
      have hB : ∀ b : Bool, (b = true → some (zRe, 8) = some res) → (b = false → some (p, 0) = some res) → WA Tryz.prog GL0 45 (cond27 (tail27 Tryz.f27.body)) ⟨ptrs ++ [(42, one (.bool b))], [(0, .box (pvL (e_api_Re p))), (1, .box (pvL [.int .i64 0]))]⟩ (Then Tryz.prog GL0 45 (fin27 (tail27 Tryz.f27.body)) (FR res)) := fun b h1 h2 => by
        show WA Tryz.prog GL0 45 (.cond (.tmp 42) _ _) _ _
        refine WA.cond (b := b) rfl (fun hb => ?_) (fun hb => ?_)
        · refine WA.keep [2, 3] [0, 1] (env' := ptrs) (os' := [(0, .box (pvL (e_api_Re p))), (1, .box (pvL [.int .i64 0]))]) (by kernel_rfl) (by kernel_rfl) ?_
          exact (hlim (h1 hb)).mono fun e s h => by cases e <;> first | exact h | exact h.elim
        · refine WA.skip ?_
          refine WA.keep [2, 3] [0, 1] (env' := ptrs) (os' := [(0, .box (pvL (e_api_Re p))), (1, .box (pvL [.int .i64 0]))]) (by kernel_rfl) (by kernel_rfl) ?_
          exact hend (h2 hb)
      show WA Tryz.prog GL0 45 (.seq (.seq (.region 8 _ _) _) _) _ _
      refine WA.seq (WA.seq ?_)
      unfold F27_e at hF
      rcases Bool.eq_false_or_eq_true r.f_over with hb | hb
      · have hF := cond_t hF hb
        refine WA.reg [2, 3, 42] [0, 1] [(4, .bool true)] (env' := ptrs ++ [(42, one (.bool true))]) (os' := [(0, .box (pvL (e_api_Re p))), (1, .box (pvL [.int .i64 0]))]) (O := [r.f_over = true]) (by kernel_rfl) (sound _ _) ⟨hb, trivial⟩ ?_
        exact hB true (fun _ => hF) (fun h => by cases h)
      · have hF := cond_f hF hb
        obtain ⟨n, hn, hF⟩ := bind_some hF
        rcases Bool.eq_false_or_eq_true (decide (n > 200)) with hb2 | hb2
        · have hF := cond_t hF hb2
          refine WA.reg [2, 3, 42] [0, 1] [(4, .bool false), (6, .callR [] (one (.int .i64 n))), (9, .bool true)] (env' := ptrs ++ [(42, one (.bool true))]) (os' := [(0, .box (pvL (e_api_Re p))), (1, .box (pvL [.int .i64 0]))]) (O := [r.f_over = false, Sim Tryz.prog GL0 32 [.val true (pvL (e_api_Re p))] [] (one (.int .i64 n)) [], ([] : List Nat).Nodup, decide (n > 200) = true]) (by kernel_rfl) (sound _ _) ⟨hb, F32_ok k _ _ hn, by decide, hb2, trivial⟩ ?_
          exact hB true (fun _ => hF) (fun h => by cases h)
        · have hF := cond_f hF hb2
          obtain ⟨d, hd, hF⟩ := bind_some hF
          refine WA.reg [2, 3, 42] [0, 1] [(4, .bool false), (6, .callR [] (one (.int .i64 n))), (9, .bool false), (11, .callR [] (one (.int .i64 d)))] (env' := ptrs ++ [(42, one (.bool (decide (d > 14))))]) (os' := [(0, .box (pvL (e_api_Re p))), (1, .box (pvL [.int .i64 0]))]) (O := [r.f_over = false, Sim Tryz.prog GL0 32 [.val true (pvL (e_api_Re p))] [] (one (.int .i64 n)) [], ([] : List Nat).Nodup, decide (n > 200) = false, Sim Tryz.prog GL0 50 [.val true (pvL (e_api_Re p))] [] (one (.int .i64 d)) [], ([] : List Nat).Nodup]) (by kernel_rfl) (sound _ _) ⟨hb, F32_ok k _ _ hn, by decide, hb2, F50_ok k _ _ hd, by decide, trivial⟩ ?_
          exact hB (decide (d > 14)) (fun h => cond_t hF h) (fun h => cond_f hF h)
    unfold F27_t at hF
    rcases Bool.eq_false_or_eq_true (decide (r.f_at < (s.length : Int))) with hb | hb
    · have hF := cond_t hF hb
      refine WA.reg [2, 3, 4, 26] [0, 1, 112] [(7, .bool true)] (env' := ptrs ++ [(4, .val false [.ptr 112 1 0 0]), (26, one (.bool true))]) (os' := [(0, .box (pvL (e_api_Re p))), (1, .box (pvL [.int .i64 0])), (112, .box (pvL (e_rex_reader r)))]) (O := [decide (r.f_at < (s.length : Int)) = true]) (by kernel_rfl) (sound _ _) ⟨hb, trivial⟩ ?_
      refine WA.cond (b := true) rfl (fun _ => ?_) (fun h => by cases h)
      refine WA.keep [2, 3, 4] [0, 1, 112] (env' := ptrs ++ [(4, .val false [.ptr 112 1 0 0])]) (os' := [(0, .box (pvL (e_api_Re p))), (1, .box (pvL [.int .i64 0])), (112, .box (pvL (e_rex_reader r)))]) (by kernel_rfl) (by kernel_rfl) ?_
      exact (hbad hF).mono fun e s h => by cases e <;> first | exact h | exact h.elim
    · have hF := cond_f hF hb
      obtain ⟨y, hy, hF⟩ := bind_some hF
      refine WA.reg [2, 3, 4, 26] [0, 1, 112] [(7, .bool false), (9, .callR [] (one (.bool y)))] (env' := ptrs ++ [(4, .val false [.ptr 112 1 0 0]), (26, one (.bool (!y)))]) (os' := [(0, .box (pvL (e_api_Re p))), (1, .box (pvL [.int .i64 0])), (112, .box (pvL (e_rex_reader r)))]) (O := [decide (r.f_at < (s.length : Int)) = false, Sim Tryz.prog GL0 49 [one (.str s)] [] (one (.bool y)) [], ([] : List Nat).Nodup]) (by kernel_rfl) (sound _ _) ⟨hb, F49_ok k _ _ hy, by decide, trivial⟩ ?_
      refine WA.cond (b := !y) rfl (fun hy' => ?_) (fun hy' => ?_)
      · have hF := cond_f hF (by simpa using hy')
        refine WA.keep [2, 3, 4] [0, 1, 112] (env' := ptrs ++ [(4, .val false [.ptr 112 1 0 0])]) (os' := [(0, .box (pvL (e_api_Re p))), (1, .box (pvL [.int .i64 0])), (112, .box (pvL (e_rex_reader r)))]) (by kernel_rfl) (by kernel_rfl) ?_
        exact (hbad hF).mono fun e s h => by cases e <;> first | exact h | exact h.elim
      · have hF := cond_t hF (by simpa using hy')
        refine WA.skip ?_
        refine WA.keep [2, 3, 4] [0, 1, 112] (env' := ptrs ++ [(4, .val false [.ptr 112 1 0 0])]) (os' := [(0, .box (pvL (e_api_Re p))), (1, .box (pvL [.int .i64 0])), (112, .box (pvL (e_rex_reader r)))]) (by kernel_rfl) (by kernel_rfl) ?_
        exact hrest hF
end Go.Proofs.YthilboheomikjaaGreatDoor
end

section
namespace Go.Proofs.YthilboheomikjaaGreatDoor
open Go.AL
set_option linter.unusedVariables false
set_option maxRecDepth 100000

abbrev os27 (p : api_Re) (n : Int) : Objs := [(0, .box (pvL (e_api_Re p))), (1, .box (pvL [.int .i64 n]))]
abbrev hos27 (p : api_Re) (n : Int) : Objs := [(102, .box (pvL (e_api_Re p))), (103, .box (pvL [.int .i64 n]))]
def hptrs : List (Nat × AT) := [(2, .val false [.ptr 102 1 0 0]), (3, .val false [.ptr 103 1 0 0])]
def G01 (G : Nat → Option Nat) : Nat → Option Nat := fun k => ([102, 103][k]?).bind G

/-- behind the deferred closure: what the results' variables hold -/
theorem leave27 {w0 w : World} {I0 I : Nat → Prop} {G0 G : Nat → Option Nat} {os0 : Objs} {D : List Deferred} {a : Act} {p : api_Re} {n : Int} (h1 : Ext w0 w I0 I (Mine G0 os0) (Mine G (os27 p n))) (hh : ∀ k, I0 k → w.heap[k]? = w0.heap[k]?)
    (h3 : Sr GL0 w I G (os27 p n)) (h4 : Fr D w I G (Go.AL.shape (os27 p n)) 45 a ptrs) :
    ∃ v, (results Tryz.f27 a.tmps).run Tryz.prog w = .ok v w ∧ ∃ v' I' G', Ending.returned v = .returned v' ∧ Ext w0 w I0 I' (Mine G0 os0) (Mine G' (number [])) ∧ Sr GL0 w I' G' (number []) ∧
      ATr w I' G' (Go.AL.shape (number [])) (.tup [(true, pvL (e_api_Re p)), (false, [.pv (.int .i64 n)])]) v' ∧ Keeps (· < 0) w0 w I0 I' G0 G' (Go.AL.shape os0) (Go.AL.shape (number [])) := by
  obtain ⟨v, hv, hr⟩ := resA_run (fn := Tryz.f27) (st := ⟨ptrs, os27 p n⟩) (x := .tup [(true, pvL (e_api_Re p)), (false, [.pv (.int .i64 n)])]) h3 h4 (by kernel_rfl)
  obtain ⟨s1, k1⟩ := h3.sub (os' := number []) fun k o h => by rw [look_number] at h; simp at h
  refine ⟨v, hv, v, I, G, rfl, ⟨h1.size, h1.os, h1.tape, h1.output, h1.keep, h1.imm, h1.inew, fun k ⟨id, o, q1, q2⟩ => by rw [look_number] at q1; simp at q1⟩, s1, ?_, ⟨hh, h1.imm, fun id s m h => absurd h (Nat.not_lt_zero _)⟩⟩
  exact hr.mono (R := NoRef) (keeps_noref (fun _ _ => rfl) fun _ h => h) ⟨⟨trivial, trivial, trivial, trivial, trivial, trivial⟩, ⟨trivial, trivial⟩, trivial⟩

/-- the results' variables under the names 0 and 1 -/
theorem to01 {D : List Deferred} {w : World} {I : Nat → Prop} {G : Nat → Option Nat} {a : Act} {p : api_Re} {n : Int} (h3 : Sr GL0 w I G (hos27 p n)) (h4 : Fr D w I G (Go.AL.shape (hos27 p n)) 45 a hptrs) :
    Sr GL0 w I (G01 G) (os27 p n) ∧ Fr D w I (G01 G) (Go.AL.shape (os27 p n)) 45 a ptrs ∧ ∀ k, Mine (G01 G) (os27 p n) k ↔ Mine G (hos27 p n) k := by
  have hr := h3.ren (st := ⟨[], hos27 p n⟩) (ids := [102, 103]) (os := [.box (pvL (e_api_Re p)), .box (pvL [.int .i64 n])]) ⟨_, rfl, rfl⟩ (by decide) rfl
  refine ⟨hr, ⟨h4.size, h4.defers, fun t x hx => ?_⟩, fun k => ⟨fun ⟨id, o, q1, q2⟩ => ?_, fun ⟨id, o, q1, q2⟩ => ?_⟩⟩
  · simp only [ptrs, look_cons] at hx
    split at hx
    · rename_i e; subst e; cases hx
      obtain ⟨q1, q2⟩ := h4.slot 2 _ rfl
      obtain ⟨r1, r2⟩ := atr_one q2
      exact ⟨q1, _, rfl, r1, fun s m h => r2 s m h⟩
    · split at hx
      · rename_i e; subst e; cases hx
        obtain ⟨q1, q2⟩ := h4.slot 3 _ rfl
        obtain ⟨r1, r2⟩ := atr_one q2
        exact ⟨q1, _, rfl, r1, fun s m h => r2 s m h⟩
      · cases hx
  · simp only [os27, look_cons] at q1
    split at q1
    · rename_i e; subst e; exact ⟨102, _, rfl, q2⟩
    · split at q1
      · rename_i e; subst e; exact ⟨103, _, rfl, q2⟩
      · cases q1
  · simp only [hos27, look_cons] at q1
    split at q1
    · rename_i e; subst e; exact ⟨0, _, rfl, q2⟩
    · split at q1
      · rename_i e; subst e; exact ⟨1, _, rfl, q2⟩
      · cases q1

theorem look_ptrs {l : List (Nat × AT)} (hl : l = ptrs ∨ l = hptrs) {s : List UInt8} {t : Nat} {x : AT} (h : Go.AL.look l t = some x) : Go.AL.look ((0, one (.str s)) :: l) t = some x := by
  rw [look_cons]
  split
  · rename_i e; subst e; rcases hl with rfl | rfl <;> cases h
  · exact h

theorem to01s {D : List Deferred} {w : World} {I : Nat → Prop} {G : Nat → Option Nat} {a : Act} {p : api_Re} {n : Int} {s : List UInt8} (h3 : Sr GL0 w I G (hos27 p n)) (h4 : Fr D w I G (Go.AL.shape (hos27 p n)) 45 a ((0, one (.str s)) :: hptrs)) :
    Sr GL0 w I (G01 G) (os27 p n) ∧ Fr D w I (G01 G) (Go.AL.shape (os27 p n)) 45 a ((0, one (.str s)) :: ptrs) ∧ ∀ k, Mine (G01 G) (os27 p n) k ↔ Mine G (hos27 p n) k := by
  obtain ⟨q1, q2, q3⟩ := to01 h3 ⟨h4.size, h4.defers, fun t x hx => h4.slot t x (look_ptrs (.inr rfl) hx)⟩
  refine ⟨q1, ⟨q2.size, q2.defers, fun t x hx => ?_⟩, q3⟩
  rw [look_cons] at hx
  split at hx
  · rename_i e; subst e; cases hx
    obtain ⟨r1, r2⟩ := h4.slot 0 _ rfl
    exact ⟨r1, r2.mono (keeps_noref (fun _ _ => rfl) fun _ h => h) ⟨trivial, trivial⟩⟩
  · exact q2.slot t x hx

/-- the closure's two addresses -/
theorem ptr27 {D : List Deferred} {w : World} {I : Nat → Prop} {G : Nat → Option Nat} {a : Act} {p : api_Re} {n : Int} (h3 : Sr GL0 w I G (os27 p n)) (h4 : Fr D w I G (Go.AL.shape (os27 p n)) 45 a ptrs) :
    ∃ b c, G 0 = some b ∧ G 1 = some c ∧ a.tmps.getD 2 undef = .pointer (some ⟨b, 0, none⟩) ∧ a.tmps.getD 3 undef = .pointer (some ⟨c, 0, none⟩) := by
  obtain ⟨_, q2⟩ := h4.slot 2 _ rfl
  obtain ⟨_, q3⟩ := h4.slot 3 _ rfl
  have r2 := ((atr_one q2).2 _ _ rfl).2 rfl
  have r3 := ((atr_one q3).2 _ _ rfl).2 rfl
  cases hb : G 0 with
  | none => have := h3.none_ 0 _ rfl hb; simp [Obj.els] at this
  | some b =>
    cases hc : G 1 with
    | none => have := h3.none_ 1 _ rfl hc; simp [Obj.els] at this
    | some c => exact ⟨b, c, rfl, rfl, r2 b hb, r3 c hc⟩

def regA27 : Option Code → Code
  | some (.seq a _) => a
  | _ => .skip
def lenB27 : Option Code → Code
  | some (.seq _ (.seq b _)) => b
  | _ => .skip
def defer27 : Option Code → Code
  | some (.seq _ (.seq _ (.seq c _))) => c
  | _ => .skip

def FA (s : List UInt8) : Exit → S → Prop
  | .normal, st => st = ⟨(0, one (.str s)) :: hptrs, hos27 zRe 0⟩
  | _, _ => False
def FB (k : Nat) (s : List UInt8) (res : api_Re × Int) : Exit → S → Prop
  | .normal, st => st = ⟨(0, one (.str s)) :: hptrs, hos27 zRe 0⟩ ∧ F27_r k s = some res
  | .ret, st => st = ⟨hptrs, hos27 res.1 res.2⟩
  | _, _ => False

theorem regA_ok (s : List UInt8) : WA Tryz.prog GL0 45 (regA27 Tryz.f27.body) ⟨[(0, one (.str s))], []⟩ (FA s) := by
  show WA Tryz.prog GL0 45 (.region 0 _ _) _ _
  exact WA.reg [0, 2, 3] [102, 103] [(0, .obj 102), (1, .obj 103)] (env' := (0, one (.str s)) :: hptrs) (os' := hos27 zRe 0) (O := []) (by kernel_rfl) (sound _ _) trivial rfl

theorem lenB_ok (k : Nat) (s : List UInt8) (res : api_Re × Int) (hF : F27 k s = some res) :
    WA Tryz.prog GL0 45 (lenB27 Tryz.f27.body) ⟨(0, one (.str s)) :: hptrs, hos27 zRe 0⟩ (FB k s res) := by
  show WA Tryz.prog GL0 45 (.seq _ (.cond (.tmp 7) _ _)) _ _
  refine WA.seq ?_
  refine WA.reg [0, 2, 3, 7] [102, 103] [] (env' := (0, one (.str s)) :: hptrs ++ [(7, one (.bool (decide ((s.length : Int) > 400))))]) (os' := hos27 zRe 0) (O := []) (by kernel_rfl) (sound _ _) trivial ?_
  refine WA.cond (b := decide ((s.length : Int) > 400)) rfl (fun hb => ?_) (fun hb => ?_)
  · have hF := cond_t hF hb
    obtain rfl := Option.some.inj hF
    refine WA.seq ?_
    refine WA.reg [2, 3] [102, 103] [] (env' := hptrs) (os' := hos27 zRe 8) (O := []) (by kernel_rfl) (sound _ _) trivial ?_
    refine WA.ret ?_
    rfl
  · have hF := cond_f hF hb
    refine WA.keep [0, 2, 3] [102, 103] (env' := (0, one (.str s)) :: hptrs) (os' := hos27 zRe 0) (by kernel_rfl) (by kernel_rfl) ?_
    refine WA.skip ?_
    exact ⟨rfl, hF⟩

/-- the deferred closure, with what it captures -/
def defd (x y : Value) : Deferred := ⟨.fn (.func 47) #[x, y], #[]⟩

theorem defer_ok {a : Act} {w : World} {Q : Exit → Act → World → Prop} (ha : a.defers = []) (h : Q .normal { tmps := (a.tmps.setIfInBounds 9 (.func (.func 47) #[] #[a.tmps.getD 2 undef, a.tmps.getD 3 undef])), defers := [defd (a.tmps.getD 2 undef) (a.tmps.getD 3 undef)] } w) (hs : a.tmps.size = 45) :
    (defer27 Tryz.f27.body).wp Tryz.prog Q a w := by
  show (Code.region 3 _ _).wp _ _ _ _
  refine wp_region_list ?_
  obtain ⟨tm, df⟩ := a
  simp only at ha hs h; subst ha
  simp only [wpList, Region.wanted]
  refine .inl ?_
  simp only [Oper.wp, execOp]
  have e1 : Sem.run Tryz.prog (do
        let x ← Instr.makeFunc (Fn.func 47) (Array.map (Act.eval { tmps := tm, defers := [] }) #[]) (Array.map (Act.eval { tmps := tm, defers := [] }) #[Operand.tmp 2, Operand.tmp 3])
        pure (Next.value x)) w = .ok (.value (.func (.func 47) #[] #[tm.getD 2 undef, tm.getD 3 undef])) w := by simp [Instr.makeFunc, Act.eval]
  rw [e1, Oper.upon_value, if_pos trivial]
  refine .inl ?_
  have h9 : (tm.setIfInBounds 9 (Value.func (Fn.func 47) #[] #[tm.getD 2 undef, tm.getD 3 undef])).getD 9 undef = Value.func (Fn.func 47) #[] #[tm.getD 2 undef, tm.getD 3 undef] := by
    rw [Array.getD_eq_getD_getElem?, Array.getElem?_setIfInBounds]; simp [hs]
  have e2 : Sem.run Tryz.prog (do
        let x ← resolve (Act.eval { tmps := tm.setIfInBounds 9 (Value.func (Fn.func 47) #[] #[tm.getD 2 undef, tm.getD 3 undef]), defers := [] }) { callee := Callee.value (Operand.tmp 9), args := #[], argTypes := #[] } 0
        pure (Next.defer x)) w = .ok (.defer (defd (tm.getD 2 undef) (tm.getD 3 undef))) w := by
    simp only [resolve, Act.eval, h9, Deferred.ofValue]
    simp [defd]
  simp only [Act.put]
  rw [e2, Oper.upon_defer]
  exact h

theorem F27_ok (k : Nat) (s : List UInt8) (res : api_Re × Int) (hF : F27 k s = some res) :
    Sim Tryz.prog GL0 27 [one (.str s)] [] (.tup [(true, pvL (e_api_Re res.1)), (false, [.pv (.int .i64 res.2)])]) [] := by
  intro w I G vs hs ha
  obtain ⟨v, _, rfl, hv, rfl⟩ := ha
  refine calls_of_wp_defers Tryz.func27 rfl ?_
  refine wp_seq (wp_mono (regA_ok s [] w I G (number []) w I G _ (.refl _ _ _) (.refl _ _ _ _ _) hs ?_) ?_)
  · refine ⟨by simp [Tryz.ntmps27], rfl, fun t x hx => ?_⟩
    simp only [look_cons] at hx
    split at hx
    · rename_i e; subst e; cases hx
      refine ⟨by omega, ?_⟩
      rw [Array.getD_eq_getD_getElem?, Array.getElem?_append_left (by simp)]
      exact hv
    · cases hx
  rintro e a1 w1 ⟨I1, G1, s1, e1, k1, r1, f1, q1⟩
  cases e with
  | normal =>
    cases q1
    refine wp_seq (wp_mono (lenB_ok k s res hF [] w I G (number []) w1 I1 G1 a1 e1 k1 r1 f1) ?_)
    rintro e a2 w2 ⟨I2, G2, s2, e2, k2, r2, f2, q2⟩
    cases e with
    | normal =>
      obtain ⟨rfl, hF2⟩ := q2
      obtain ⟨r3, f3, m3⟩ := to01s r2 f2
      obtain ⟨b, c, gb, gc, vb, vc⟩ := ptr27 r3 ⟨f3.size, f3.defers, fun t x hx => f3.slot t x (look_ptrs (.inl rfl) hx)⟩
      refine wp_seq (defer_ok f2.defers ?_ f2.size)
      rw [vb, vc]
      refine wp_mono (rest_ok k s res hF2 _ rfl [defd (.pointer (some ⟨b, 0, none⟩)) (.pointer (some ⟨c, 0, none⟩))] w2 I2 (G01 G2) (os27 zRe 0) w2 I2 (G01 G2) _ (.refl _ _ _) (.refl _ _ _ _ _) r3 ⟨by simp [f3.size], rfl, fun t x hx => ?_⟩) ?_
      · obtain ⟨x1, x2⟩ := f3.slot t x hx
        have ht : t ≠ 9 := fun e => by subst e; cases hx
        refine ⟨x1, ?_⟩
        rw [Array.getD_eq_getD_getElem?] at x2 ⊢
        rw [Array.getElem?_setIfInBounds, if_neg (fun e => ht e.symm)]; exact x2
      have gl : ∀ {w4 I4 G4} {p : api_Re} {n : Int}, Ext w2 w4 I2 I4 (Mine (G01 G2) (os27 zRe 0)) (Mine G4 (os27 p n)) →
          Ext w w4 I I4 (Mine G (number [])) (Mine G4 (os27 p n)) := fun e4 =>
        ⟨Nat.le_trans e2.size e4.size, e4.os.trans e2.os, e4.tape.trans e2.tape, e4.output.trans e2.output, fun k h h' => by
            rw [e4.keep k (Nat.lt_of_lt_of_le h e2.size) (fun h2 => ((e2.mnew k ((m3 k).1 h2)).elim h' (fun h3 => by omega))), e2.keep k h h'],
          fun k h => e4.imm k (e2.imm k h), fun k h => by
            rcases e4.inew k h with h | h | h
            · exact e2.inew k h
            · exact (e2.mnew k ((m3 k).1 h)).elim (fun h => .inr (.inl h)) (fun h => .inr (.inr h))
            · exact .inr (.inr (Nat.le_trans e2.size h)),
          fun k h => (e4.mnew k h).elim (fun h => (e2.mnew k ((m3 k).1 h)).elim .inl .inr) (fun h => .inr (Nat.le_trans e2.size h))⟩
      rintro e a4 w4 ⟨I4, G4, ⟨env4, os4⟩, e4, k4, r4, f4, q4⟩
      -- what is left of the state
      have sub : ∀ {p : api_Re} {n : Int}, pickE env4 [2, 3] = ptrs → pickE os4 [0, 1] = os27 p n → Sr GL0 w4 I4 G4 (os27 p n) ∧ Fr [defd (.pointer (some ⟨b, 0, none⟩)) (.pointer (some ⟨c, 0, none⟩))] w4 I4 G4 (Go.AL.shape (os27 p n)) 45 a4 ptrs ∧
          Ext w2 w4 I2 I4 (Mine (G01 G2) (os27 zRe 0)) (Mine G4 (os27 p n)) ∧ G4 0 = some b ∧ G4 1 = some c := fun {p n} he ho => by
        have hl : ∀ k o, Go.AL.look (os27 p n) k = some o → Go.AL.look os4 k = some o := fun k o h => by rw [← ho] at h; exact look_pickE h
        obtain ⟨r5, k5⟩ := r4.sub (os' := os27 p n) hl
        refine ⟨r5, ⟨f4.size, f4.defers, fun t x hx => ?_⟩, ⟨e4.size, e4.os, e4.tape, e4.output, e4.keep, e4.imm, e4.inew, fun k ⟨id, o, q1, q2⟩ => e4.mnew k ⟨id, o, hl id o q1, q2⟩⟩, ?_, ?_⟩
        · rw [← he] at hx
          obtain ⟨x1, x2⟩ := f4.slot t x (look_pickE hx)
          exact ⟨x1, x2.mono k5 (AT.refs_any x)⟩
        · obtain ⟨m0, j1, j2, j3⟩ := (k4.trans (k5.weaken fun _ _ => trivial)).objs 0 _ _ (by omega) rfl
          cases j1
          rw [(j3 rfl).1]; exact gb
        · obtain ⟨m0, j1, j2, j3⟩ := (k4.trans (k5.weaken fun _ _ => trivial)).objs 1 _ _ (by omega) rfl
          cases j1
          rw [(j3 rfl).1]; exact gc
      have inv : ∀ w, (Go.invoke (defd (.pointer (some ⟨b, 0, none⟩)) (.pointer (some ⟨c, 0, none⟩))).target #[]).run Tryz.prog w = .ok (.enter 47 #[.pointer (some ⟨b, 0, none⟩), .pointer (some ⟨c, 0, none⟩)]) w := fun w => by kernel_rfl
      have hh : ∀ k, I k → w4.heap[k]? = w.heap[k]? := fun k hk => by rw [k4.heap k (k2.imm k hk), k2.heap k hk]
      cases e with
      | ret =>
        obtain ⟨he, ho⟩ := q4
        obtain ⟨r5, f5, e5, g0, g1⟩ := sub he ho
        show Leaves _ _ _ _ a4.defers _ _
        rw [f5.defers]
        refine ⟨by simp, _, _, 47, _, rfl, inv w4, fun c0 cs hm => ?_⟩
        obtain ⟨e', u', w', fr, ⟨rfl, rfl, rfl⟩, hc⟩ := catch_idle ⟨b, 0, none⟩ ⟨c, 0, none⟩ w4 c0 cs hm
        refine ⟨_, _, _, _, ?_, hc⟩
        obtain ⟨p1, p2, p3⟩ := r5.imm (.cells #[] 70)
        exact leave27 (gl (e5.trans p3)) (fun k hk => by rw [p2.heap k (e4.imm k (e2.imm k hk)), hh k hk]) p1 ⟨f5.size, f5.defers, fun t x hx => ⟨(f5.slot t x hx).1, (f5.slot t x hx).2.mono p2 (AT.refs_any x)⟩⟩
      | panic ch =>
        obtain ⟨rfl, rfl, he, p, n, ho⟩ := q4
        obtain ⟨r5, f5, e5, g0, g1⟩ := sub he ho
        show Leaves _ _ _ _ a4.defers _ _
        rw [f5.defers]
        refine ⟨by simp, _, _, 47, _, rfl, inv w4, fun c0 cs hm => ?_⟩
        obtain ⟨p1, p2, p3⟩ := r5.imm (.cells #[] 70)
        have f6 : Fr _ _ _ G4 (Go.AL.shape (os27 p n)) 45 a4 ptrs := ⟨f5.size, f5.defers, fun t x hx => ⟨(f5.slot t x hx).1, (f5.slot t x hx).2.mono p2 (AT.refs_any x)⟩⟩
        obtain ⟨b', c', gb', gc', vb', vc'⟩ := ptr27 p1 f6
        rw [g0] at gb'; cases gb'
        rw [g1] at gc'; cases gc'
        have hx0 := (f6.slot 2 _ rfl).2
        have hx1 := (f6.slot 3 _ rfl).2
        rw [vb'] at hx0; rw [vc'] at hx1
        obtain ⟨_, w6, G6, st6, x6, s6, mv6⟩ := ok_store (P := Tryz.prog) (st := ⟨[], os27 p n⟩) (t := 35) (x := .val false [.ptr 0 1 0 0]) (y := .val true (pvL (e_api_Re zRe))) (h := none) (z := .tup []) (os' := os27 zRe n) (O := []) (by kernel_rfl) trivial p1 hx0
          (v := .agg #[.int .i64 0, .slice none 0 0, .slice none 0 0, .int .i64 0, .int .i64 0]) ⟨_, rfl, _, _, rfl, PVr.int _ _, _, _, rfl, PVr.sl0 _ _, _, _, rfl, PVr.sl0 _ _, _, _, rfl, PVr.int _ _, _, _, rfl, PVr.int _ _, rfl⟩
        have hx1' := hx1.mono mv6.keeps ⟨show (1 : Nat) < 100 by omega, trivial⟩
        obtain ⟨_, w7, G7, st7, x7, s7, mv7⟩ := ok_store (P := Tryz.prog) (st := ⟨[], os27 zRe n⟩) (t := 3) (x := .val false [.ptr 1 1 0 0]) (y := one (.int .i64 3)) (h := none) (z := .tup []) (os' := os27 zRe 3) (O := []) (by kernel_rfl) trivial s6 hx1'
          (v := .int .i64 3) ⟨_, rfl, PVr.int _ _⟩
        obtain ⟨e', u', w', fr, ⟨rfl, rfl, rfl⟩, hc⟩ := catch_bad ⟨b, 0, none⟩ ⟨c, 0, none⟩ w4 w6 w7 st6 st7 c0 cs hm
        refine ⟨_, _, _, _, ?_, hc⟩
        have k7 := mv6.keeps.trans mv7.keeps
        refine leave27 (p := zRe) (n := 3) (gl (e5.trans (p3.trans (x6.trans x7)))) (fun k hk => ?_) s7 ⟨f6.size, f6.defers, fun t x hx => ⟨(f6.slot t x hx).1, ?_⟩⟩
        · have h4 := e4.imm k (e2.imm k hk)
          rw [k7.heap k (p2.imm k h4), p2.heap k h4, hh k hk]
        · refine (f6.slot t x hx).2.mono k7 ?_
          simp only [ptrs, look_cons] at hx
          split at hx
          · cases hx; exact ⟨show (0 : Nat) < 100 by omega, trivial⟩
          · split at hx
            · cases hx; exact ⟨show (1 : Nat) < 100 by omega, trivial⟩
            · cases hx
      | _ => exact q4.elim
    | ret =>
      cases q2
      obtain ⟨r3, f3, m3⟩ := to01 r2 f2
      show Leaves _ _ _ _ a2.defers _ _
      rw [f2.defers]
      refine leave27 ⟨e2.size, e2.os, e2.tape, e2.output, e2.keep, e2.imm, e2.inew, fun k h => e2.mnew k ((m3 k).1 h)⟩ k2.heap r3 f3
    | _ => exact q2.elim
  | _ => exact q1.elim
end Go.Proofs.YthilboheomikjaaGreatDoor
end
