/- The evaluator is right: indexes, cuts, lengths, conversions. -/
import Derived.Test.YthilboheomikjaaGreatDoorA4
import Derived.Laws.Strings2
import Derived.Laws.Strings3
namespace Go.AL
variable {D : List Deferred}
set_option linter.unusedVariables false
set_option linter.unusedSimpArgs false
variable {P : Program} {GL : List (Nat × List PV)} {st : S} {w : World} {I : Nat → Prop} {G : Nat → Option Nat} {N : Nat} {a : Act}

theorem elemT_eq {t e : TypeId} (h : elemT P t = some e) : P.underlying t = some (.slice e) := by
  unfold elemT at h; split at h
  · rename_i e' hu; cases h; exact hu
  · cases h

theorem idxL_some {α : Type} {l : List α} {i : Int} {x : α} (h : idxL l i = some x) : 0 ≤ i ∧ l[i.toNat]? = some x ∧ i.toNat < l.length := by
  unfold idxL at h
  split at h
  · rename_i h0; exact ⟨h0, h, (List.getElem?_eq_some_iff.1 h).1⟩
  · cases h

theorem ok_indexAddr {t : TypeId} {x y : AT} {h : Option Hint} {z : AT} {os' : Objs} {O : List Prop} {u v : Value} (he : evIndexAddr P st t x y h = some (z, os', O)) (hO : All O)
    (hs : Sr GL w I G st.os) (hx : ATr w I G (shape st.os) x u) (hy : ATr w I G (shape st.os) y v) :
    os' = st.os ∧ ∃ r, (Instr.indexAt t u v).run P w = .ok r w ∧ ATr w I G (shape st.os) z r := by
  unfold evIndexAddr at he
  split at he
  · rename_i e els k i hel
    have hu := elemT_eq hel
    split at he
    · rename_i ps s hsz
      split at he
      · rename_i hlen
        have hlen := Nat.eq_of_beq_eq_true hlen
        cases he
        obtain ⟨hi, _⟩ := hO
        obtain ⟨h0, hg, hlt⟩ := idxL_some hi
        have hx1 : PVr w I (.sl els) u := atr_one hx
        have hy1 : PVr w I (.int k i) v := atr_one hy
        cases hy1
        cases hx1 with
        | sl0 A c => simp at hlt
        | sl els b o c s' vals hI hc hss hm hr =>
          have hs' : s' = s := by rw [← hss _ _ hg, hlen]
          subst hs'
          refine ⟨rfl, .pointer (some ⟨b, o + i.toNat * s', none⟩), ?_, _, rfl, b, _, rfl, hI, fun j p hp => ⟨vals i.toNat j, ?_, hr _ _ _ _ hg hp⟩⟩
          · simp only [Instr.indexAt, asIntOf, Sem.run_bind, Sem.run_pure, Result.andThen_ok, run_underlying hu, run_sizeT hsz]
            rw [if_pos ⟨h0, by omega⟩]
            simp [run_sizeT hsz, addr_add]
          · rw [Nat.add_assoc]; exact hm _ _ _ _ hg hp
      · cases he
    · cases he
  · rename_i e id n k i hel
    have hu := elemT_eq hel
    split at he
    · rename_i s els s' hl hsz
      split at he
      · rename_i hss
        have hss := Nat.eq_of_beq_eq_true hss; subst hss
        cases he
        obtain ⟨hn, h0, hlt, _⟩ := hO
        have hy1 : PVr w I (.int k i) v := atr_one hy
        cases hy1
        obtain ⟨⟨A, c, rfl⟩, hv⟩ := atr_one hx
        have hsh := shape_look hl
        have hv2 := (hv _ _ hsh).2 (by simp [Obj.els, hn])
        cases hb : G id with
        | none => have := hs.none_ id _ hl hb; simp [Obj.els] at this; subst this; simp at hn; omega
        | some b =>
          rw [hb] at hv2
          obtain ⟨c', e2, _, _⟩ := hv2
          cases e2
          refine ⟨rfl, .pointer (some ⟨b, i.toNat * s, none⟩), ?_, _, rfl, ⟨_, rfl⟩, fun s2 m2 h2 => ?_⟩
          · simp only [Instr.indexAt, asIntOf, Sem.run_bind, Sem.run_pure, Result.andThen_ok, run_underlying hu, run_sizeT hsz]
            rw [if_pos ⟨h0, by omega⟩]
            simp [run_sizeT hsz, addr_add]
          · rw [hsh] at h2; cases h2
            refine ⟨by simp [Obj.els, hn], fun _ b' hb' => ?_⟩
            rw [hb] at hb'; cases hb'; simp [Obj.s]
      · cases he
    · cases he
  · cases he

theorem str_get {s : List UInt8} {i : Nat} : (⟨s.toArray⟩ : ByteArray)[i]? = s[i]? := by
  by_cases h : i < s.length
  · have h' : i < (⟨s.toArray⟩ : ByteArray).size := by rw [size_mk]; exact h
    rw [getElem?_pos _ i h', List.getElem?_eq_getElem h]; rfl
  · have h' : ¬ i < (⟨s.toArray⟩ : ByteArray).size := by rw [size_mk]; exact h
    rw [getElem?_neg _ i h', List.getElem?_eq_none (by omega)]

theorem ok_index {t : TypeId} {x y : AT} {h : Option Hint} {z : AT} {os' : Objs} {O : List Prop} {u v : Value} (he : evIndex st x y h = some (z, os', O)) (hO : All O)
    (hu : P.underlying t = some .string) (hx : ATr w I G (shape st.os) x u) (hy : ATr w I G (shape st.os) y v) :
    os' = st.os ∧ ∃ r, (Instr.index t u v).run P w = .ok r w ∧ ATr w I G (shape st.os) z r := by
  unfold evIndex at he
  split at he
  · rename_i s k i c
    cases he
    obtain ⟨hi, _⟩ := hO
    have hy1 : PVr w I (.int k i) v := atr_one hy
    cases hy1
    have hx1 : PVr w I (.str s) u := atr_one hx
    cases hx1
    cases hb : idxL s i with
    | none => simp [hb] at hi
    | some b =>
      simp [hb] at hi
      obtain ⟨h0, hg, _⟩ := idxL_some hb
      refine ⟨rfl, .int .u8 c, ?_, _, rfl, .int _ _⟩
      simp only [Instr.index, asIntOf, Sem.run_bind, Sem.run_pure, Result.andThen_ok, run_underlying hu]
      rw [if_pos h0, str_get, hg]
      simp [hi]
  · cases he

theorem bound_run {x : Option Operand} {d i : Int} (hs : Sr GL w I G st.os) (hf : Fr D w I G (shape st.os) N a st.env) (hb : bound GL st x d = some i) :
    (x = none ∧ i = d) ∨ ∃ o k, x = some o ∧ a.eval o = .int k i := by
  unfold bound at hb
  cases x with
  | none => cases hb; exact .inl ⟨rfl, rfl⟩
  | some o =>
    right
    simp only at hb
    split at hb
    · rename_i k i' ho
      cases hb
      have := opd_r hs hf ho
      have h1 : PVr w I (.int k i) (a.eval o) := atr_one this
      generalize hq : a.eval o = q at h1
      cases h1; exact ⟨o, k, rfl, hq⟩
    · cases hb

theorem bounds_run {s : Bool} {n c : Nat} {lo hi : Option Operand} {l r : Int} (hs : Sr GL w I G st.os) (hf : Fr D w I G (shape st.os) N a st.env)
    (hl : bound GL st lo 0 = some l) (hr : bound GL st hi n = some r) (h0 : 0 ≤ l) (h1 : l ≤ r) (h2 : r ≤ n) (hc : n ≤ c) :
    (Instr.sliceBounds s n c (lo.map a.eval) (hi.map a.eval) none).run P w = .ok (l.toNat, r.toNat, c) w := by
  have hb : ∀ (k : IntKind) (i : Int) (y : Nat) (code : BoundsCode), 0 ≤ i → i ≤ y → (Instr.sliceBound (.int k i) y code).run P w = .ok i.toNat w := by
    intro k i y code h0 h1
    simp only [Instr.sliceBound, asIntOf, Sem.run_bind, Sem.run_pure, Result.andThen_ok]
    rw [if_pos ⟨h0, h1⟩]; rfl
  rcases bound_run hs hf hr with ⟨rfl, rfl⟩ | ⟨o, k, rfl, ho⟩ <;> rcases bound_run hs hf hl with ⟨rfl, rfl⟩ | ⟨o', k', rfl, ho'⟩ <;>
    simp only [Instr.sliceBounds, Option.map_none, Option.map_some, Sem.run_bind, Sem.run_pure, Result.andThen_ok, *] <;>
    (try rw [hb _ _ _ _ (by omega) (by omega)]) <;> (try simp only [Result.andThen_ok, Sem.run_bind]) <;> (try rw [hb _ _ _ _ (by omega) (by omega)]) <;>
    simp

theorem ok_slice {t : TypeId} {x : AT} {lo hi mx : Option Operand} {z : AT} {os' : Objs} {O : List Prop} {u : Value} (he : evSlice P GL st t x lo hi mx = some (z, os', O)) (hO : All O)
    (hs : Sr GL w I G st.os) (hf : Fr D w I G (shape st.os) N a st.env) (hx : ATr w I G (shape st.os) x u) :
    os' = st.os ∧ ∃ r, (Instr.sliceAt t u (lo.map a.eval) (hi.map a.eval) (mx.map a.eval)).run P w = .ok r w ∧ ATr w I G (shape st.os) z r := by
  unfold evSlice at he
  split at he
  · cases he
  · split at he
    · rename_i s hu
      split at he
      · rename_i l r hl hr
        cases he
        obtain ⟨h0, h1, h2, _⟩ := hO
        have hx1 : PVr w I (.str s) u := atr_one hx
        cases hx1
        refine ⟨rfl, .string ⟨((s.take r.toNat).drop l.toNat).toArray⟩, ?_, _, rfl, .str _⟩
        have hb := bounds_run (P := P) (s := false) (n := s.length) (c := s.length) hs hf hl hr h0 h1 h2 (Nat.le_refl _)
        rw [← size_mk s] at hb
        simp only [Instr.sliceAt, Sem.run_bind, run_underlying hu, Result.andThen_ok, Instr.slice, Option.map_none, Option.isSome_none, Bool.false_eq_true, if_false, hb, Sem.run_pure]
        congr 2
        apply ByteArray.ext
        simp [List.extract_eq_take_drop, List.drop_take]
      · cases he
    · rename_i e els hu
      split at he
      · rename_i l r s hl hr hsz
        cases he
        obtain ⟨h0, h1, h2, h3, _⟩ := hO
        have hx1 : PVr w I (.sl els) u := atr_one hx
        cases hx1 with
        | sl0 A c =>
          have hb := bounds_run (P := P) (s := true) (n := 0) (c := c) hs hf hl (by simpa using hr) h0 h1 (by simpa using h2) (Nat.zero_le _)
          simp at h2
          have hr0 : r.toNat = 0 := by omega
          have hl0 : l.toNat = 0 := by omega
          rw [hr0, hl0] at hb
          refine ⟨rfl, .slice (if c = 0 then A else A.map (·.add (0 * s))) (0 - 0) (c - 0), ?_, _, rfl, ?_⟩
          · simp only [Instr.sliceAt, Sem.run_bind, run_underlying hu, Result.andThen_ok, Instr.slice, Option.map_none, hb, run_sizeT hsz, Sem.run_pure]
          · show PVr w I _ _
            simpa using PVr.sl0 _ _
        | sl els b o c s' vals hI hc hss hm hr' =>
          have hb := bounds_run (P := P) (s := true) (n := els.length) (c := c) hs hf hl hr h0 h1 h2 hc
          refine ⟨rfl, .slice (if c = l.toNat then some ⟨b, o, none⟩ else (some (⟨b, o, none⟩ : Addr)).map (·.add (l.toNat * s))) (r.toNat - l.toNat) (c - l.toNat), ?_, _, rfl, ?_⟩
          · simp only [Instr.sliceAt, Sem.run_bind, run_underlying hu, Result.andThen_ok, Instr.slice, Option.map_none, hb, run_sizeT hsz, Sem.run_pure]
          · show PVr w I _ _
            by_cases hlr : r.toNat = l.toNat
            · have : (els.take r.toNat).drop l.toNat = [] := by rw [hlr]; simp
              rw [this, hlr, Nat.sub_self]; exact .sl0 _ _
            · have hlen : ((els.take r.toNat).drop l.toNat).length = r.toNat - l.toNat := by simp; omega
              rw [if_neg (by omega), Option.map_some, addr_add, ← hlen]
              have hss0 : s' = s := by
                cases he0 : els[0]? with
                | none => have := List.getElem?_eq_none_iff.1 he0; omega
                | some es => rw [← hss 0 es he0, h3 es he0]
              subst hss0
              have hget : ∀ (i : Nat) (es : List PV), ((els.take r.toNat).drop l.toNat)[i]? = some es → els[l.toNat + i]? = some es := by
                intro i es h
                rw [List.getElem?_drop] at h
                have hlt := (List.getElem?_eq_some_iff.1 h).1
                rw [List.getElem?_take_of_lt (by simp at hlt; omega)] at h; exact h
              refine .sl _ b _ _ s' (fun i j => vals (l.toNat + i) j) hI (by omega) (fun i es h => hss _ _ (hget i es h)) (fun i es j p h hp => ?_) (fun i es j p h hp => hr' _ _ _ _ (hget i es h) hp)
              have := hm _ _ _ _ (hget i es h) hp
              rw [Nat.add_mul] at this
              rw [show o + l.toNat * s' + (i * s' + j) = o + (l.toNat * s' + i * s' + j) from by omega]; exact this
      · cases he
    · cases he

theorem ok_len {t : TypeId} {str : Bool} {x : AT} {z : AT} {os' : Objs} {O : List Prop} {u : Value} {tys : Array TypeId} (he : evLen st str x = some (z, os', O))
    (ht : tys[0]? = some t) (hm : match str with | true => P.underlying t = some .string | false => ∃ e, P.underlying t = some (.slice e))
    (hx : ATr w I G (shape st.os) x u) (ty : TypeId) :
    os' = st.os ∧ ∃ r, (Builtin.len_ tys ty #[u]).run P w = .ok r w ∧ ATr w I G (shape st.os) z r := by
  unfold evLen at he
  split at he
  · rename_i s
    cases he
    have hx1 : PVr w I (.str s) u := atr_one hx
    cases hx1
    refine ⟨rfl, .int .i64 s.length, ?_, _, rfl, .int _ _⟩
    simp only at hm
    simp [Builtin.len_, ht, run_underlying hm, goInt, size_mk]
  · rename_i els
    cases he
    have hx1 : PVr w I (.sl els) u := atr_one hx
    obtain ⟨e, hm⟩ := hm
    refine ⟨rfl, .int .i64 els.length, ?_, _, rfl, .int _ _⟩
    cases hx1 <;> simp [Builtin.len_, ht, run_underlying hm, goInt]
  · rename_i id n
    cases he
    obtain ⟨⟨A, c, rfl⟩, _⟩ := atr_one hx
    obtain ⟨e, hm⟩ := hm
    refine ⟨rfl, .int .i64 n, ?_, _, rfl, .int _ _⟩
    simp [Builtin.len_, ht, run_underlying hm, goInt]
  · cases he

theorem ok_minmax {mx : Bool} {x y z : AT} {u v : Value} (he : minmax mx x y = some z) (hx : ATr w I G (shape st.os) x u) (hy : ATr w I G (shape st.os) y v) :
    ∃ r, (match mx with | true => Builtin.max2 u v | false => Builtin.min2 u v).run P w = .ok r w ∧ ATr w I G (shape st.os) z r := by
  unfold minmax at he
  split at he
  · rename_i k a k' b
    split at he
    · rename_i hk; have hk := sameK_eq hk; subst hk
      have hx1 : PVr w I (.int k a) u := atr_one hx
      have hy1 : PVr w I (.int k b) v := atr_one hy
      cases hx1; cases hy1
      cases mx <;> cases he
      · exact ⟨_, rfl, _, rfl, .int _ _⟩
      · exact ⟨_, rfl, _, rfl, .int _ _⟩
    · cases he
  · cases he

theorem ok_conv {src dst : TypeId} {x z : AT} {os' : Objs} {O : List Prop} {u : Value} (he : evConv P st src dst x = some (z, os', O)) (hx : ATr w I G (shape st.os) x u) :
    os' = st.os ∧ ∃ r, (convert src dst u).run P w = .ok r w ∧ ATr w I G (shape st.os) z r := by
  unfold evConv at he
  split at he
  · rename_i k k' n h1 h2 
    cases he
    have hx1 : PVr w I (.int _ n) u := atr_one hx
    cases hx1
    refine ⟨rfl, .int _ _, ?_, _, rfl, .int _ _⟩
    simp [convert, run_underlying h1, run_underlying h2, Conv.intToInt]
  · rename_i s h1 h2
    cases he
    have hx1 : PVr w I (.str s) u := atr_one hx
    cases hx1
    refine ⟨rfl, .string _, ?_, _, rfl, .str _⟩
    simp [convert, run_underlying h1, run_underlying h2]
  · rename_i k n h1 h2
    cases he
    have hx1 : PVr w I (.int _ n) u := atr_one hx
    cases hx1
    refine ⟨rfl, .string ⟨(Utf8.encode n).data.toList.toArray⟩, ?_, _, rfl, .str _⟩
    simp [convert, run_underlying h1, run_underlying h2, Conv.intToString]
  · cases he
end Go.AL
