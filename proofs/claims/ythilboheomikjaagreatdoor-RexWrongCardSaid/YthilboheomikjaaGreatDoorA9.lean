/- The evaluator is right: literals, new variables, new arrays. -/
import Derived.Test.YthilboheomikjaaGreatDoorA8
import Derived.Laws.BytesString
namespace Go.AL
variable {D : List Deferred}
set_option linter.unusedVariables false
set_option linter.unusedSimpArgs false
variable {P : Program} {GL : List (Nat × List PV)} {st : S} {w : World} {I : Nat → Prop} {G : Nat → Option Nat} {N : Nat} {a : Act}

theorem foldl_set (off : Nat) : ∀ (vs : List Value) (k : Nat) (cs : Array Value), off + k + vs.length ≤ cs.size →
    (((vs.zipIdx k).foldl (fun cs (c, j) => cs.setIfInBounds (off + j) c) cs)).toList = cs.toList.take (off + k) ++ vs ++ cs.toList.drop (off + k + vs.length)
  | [], k, cs, h => by simp
  | v :: vs, k, cs, h => by
    simp only [List.length_cons] at h
    simp only [List.zipIdx_cons, List.foldl_cons]
    rw [foldl_set off vs (k + 1) _ (by simp; omega)]
    simp only [Array.toList_setIfInBounds, List.length_cons]
    have e1 : (cs.toList.set (off + k) v).take (off + (k + 1)) = cs.toList.take (off + k) ++ [v] := by
      have hlt : off + k < cs.toList.length := by simp; omega
      apply List.ext_getElem?
      intro i
      by_cases h1 : i < off + k
      · rw [List.getElem?_take_of_lt (by omega), List.getElem?_append_left (by simp; omega), List.getElem?_take_of_lt h1, List.getElem?_set_ne (by omega)]
      · by_cases h2 : i = off + k
        · subst h2
          rw [List.getElem?_take_of_lt (by omega), List.getElem?_set_self hlt, List.getElem?_append_right (by simp; omega)]
          simp [Nat.min_eq_left (show off + k ≤ cs.size by omega)]
        · rw [List.getElem?_eq_none (by simp; omega), List.getElem?_eq_none (by simp; omega)]
    have e2 : (cs.toList.set (off + k) v).drop (off + (k + 1) + vs.length) = cs.toList.drop (off + k + (vs.length + 1)) := by
      apply List.ext_getElem?
      intro i
      rw [List.getElem?_drop, List.getElem?_drop, List.getElem?_set_ne (by omega)]
      congr 1; omega
    rw [e1, e2]; simp

theorem splice_r {cs xs : List AC} {vs us : List Value} {off : Nat} {sh : Sh} (h : CSr w I G sh cs vs) (h' : CSr w I G sh xs us) (hl : off + xs.length ≤ cs.length) :
    CSr w I G sh (splice cs off xs) (vs.take off ++ us ++ vs.drop (off + us.length)) := by
  have e1 := h.length
  have e2 := h'.length
  refine CSr.of (by rw [splice_length _ _ _ hl]; simp; omega) (fun i c v hc hv => ?_)
  rw [patch_get _ _ _ _ (by omega)] at hv
  rcases splice_get cs xs off i hl c hc with ⟨hk, hc'⟩ | ⟨q, rfl, hq⟩
  · rw [if_neg (by omega)] at hv
    obtain ⟨v', hv', hr⟩ := h.get i c hc'
    rw [hv] at hv'; cases hv'; exact hr
  · have hq' := (List.getElem?_eq_some_iff.1 hq).1
    rw [if_pos (by omega)] at hv
    obtain ⟨v', hv', hr⟩ := h'.get q c hq
    rw [show off + q - off = q from by omega, hv'] at hv; cases hv; exact hr

theorem vcells {g : Bool} {cs : List AC} {v : Value} {sh : Sh} (h : ATr w I G sh (.val g cs) v) : CSr w I G sh cs v.cells.toList := Vr.cells h

theorem fill_r (hs : Sr GL w I G st.os) (hf : Fr D w I G (shape st.os) N a st.env) {place : Nat → Option (Nat × Nat)} : ∀ (parts : List (Nat × Operand)) (cs r : List AC) (cur : Array Value),
    fillA GL st place cs parts = some r → CSr w I G (shape st.os) cs cur.toList →
    ∃ out, Instr.fill place cur (parts.map fun (i, x) => (i, a.eval x)) = some out ∧ CSr w I G (shape st.os) r out.toList
  | [], cs, r, cur, h, hc => by cases h; exact ⟨cur, rfl, hc⟩
  | (i, x) :: l, cs, r, cur, h, hc => by
    simp only [fillA] at h
    split at h
    · rename_i off n g xs hp hx
      split at h
      · rename_i h1 h2
        have h1 := Nat.eq_of_beq_eq_true h1; have h2 := Nat.le_of_ble_eq_true h2
        have hxr := vcells (opd_r hs hf hx)
        have hxl : (a.eval x).cells.toList.length = n := by rw [hxr.length, h1]
        have hcl : cur.size = cs.length := by rw [← Array.length_toList, hc.length]
        have hxs : (a.eval x).cells.size = n := by rw [← Array.length_toList]; exact hxl
        have hfold : ((a.eval x).cells.zipIdx.foldl (fun cs (c, j) => cs.setIfInBounds (off + j) c) cur).toList = cur.toList.take off ++ (a.eval x).cells.toList ++ cur.toList.drop (off + (a.eval x).cells.toList.length) := by
          have := foldl_set off (a.eval x).cells.toList 0 cur (by omega)
          simp only [Nat.add_zero] at this
          rw [← this]
          congr 1
          rw [← Array.foldl_toList]; simp
        obtain ⟨out, ho, hr⟩ := fill_r hs hf l (splice cs off xs) r _ h (by rw [hfold]; exact splice_r hc hxr (by omega))
        refine ⟨out, ?_, hr⟩
        simp only [List.map_cons, Instr.fill, hp]
        rw [if_neg (by simp [hxs]; omega)]
        exact ho
      · cases h
    · cases h

theorem ok_build {t : TypeId} {parts : Array (Nat × Operand)} {pl : Nat → Option (Nat × Nat)} {cs r : List AC} (hp : placesT P t = some pl) (hz : zeroT P t = some cs)
    (he : fillA GL st pl cs parts.toList = some r) (hs : Sr GL w I G st.os) (hf : Fr D w I G (shape st.os) N a st.env) :
    ∃ v, (Instr.build t (parts.map fun (i, x) => (i, a.eval x))).run P w = .ok v w ∧ ATr w I G (shape st.os) (.val true r) v := by
  obtain ⟨zv, hzv, hzc⟩ := zeroT_run (I := I) (G := G) (st := st) hz w
  obtain ⟨out, ho, hr⟩ := fill_r hs hf parts.toList cs r zv.cells he hzc
  refine ⟨.agg out, run_build w t _ out ?_, out.toList, rfl, hr⟩
  unfold zeroT at hz
  cases hi : P.info? t with
  | none => simp [hi] at hz
  | some it =>
    simp [hi] at hz
    cases hiz : it.zero with
    | none => simp [hiz] at hz
    | some z =>
      have hzz : zv = z := by
        simp [zeroValue, typeInfo, hi, hiz] at hzv; exact hzv.symm
      subst hzz
      unfold placesT at hp
      unfold Program.built
      rw [hi]
      split at hp
      · rename_i n e hu
        rw [hu]
        cases hie : P.info? e with
        | none => simp [hie] at hp
        | some ie =>
          simp only [hie, Option.map_some, Option.some.injEq] at hp
          subst hp
          simpa [hiz, hie] using ho
      · rename_i fs hu
        rw [hu]
        cases hm : fs.toList.mapM (fun f => (P.info? f.type).map fun i => (f.offset, i.size)) with
        | none => simp [hm] at hp
        | some l =>
          simp only [hm, Option.map_some, Option.some.injEq] at hp
          subst hp
          simpa [hiz, hm] using ho
      · cases hp

theorem ok_alloc {t : TypeId} {id : Nat} {cs : List AC} (hz : zeroT P t = some cs) (hfr : fresh id st = true) (hs : Sr GL w I G st.os) :
    ∃ v w' G', (Instr.alloc t true (.tuple #[])).run P w = .ok v w' ∧ Ext w w' I I (Mine G st.os) (Mine G' ((id, .box cs) :: st.os)) ∧ Sr GL w' I G' ((id, .box cs) :: st.os) ∧
      ATr w' I G' (shape ((id, .box cs) :: st.os)) (.val false [.ptr id 1 0 0]) v ∧ Moves [id] st ((id, .box cs) :: st.os) w w' I I G G' := by
  obtain ⟨zv, hzv, hzc⟩ := zeroT_run (I := I) (G := G) (st := st) hz w
  have hno : refsL (· ≠ id) cs := by
    unfold zeroT at hz
    split at hz
    · rename_i v _
      clear hzc hzv
      generalize v.cells.toList = l at hz
      induction l generalizing cs with
      | nil => cases hz; trivial
      | cons x l ih =>
        simp only [constCS] at hz
        split at hz
        · rename_i p ps h1 h2; cases hz; exact ⟨trivial, ih h2⟩
        · cases hz
    · cases hz
  obtain ⟨p1, p2, p3⟩ := hs.new_ hfr (.box cs) zv.cells t (by simp [Obj.els, Obj.s]; rw [← Array.length_toList, hzc.length]; omega)
    (fun i es h => by cases i <;> simp [Obj.els] at h; subst h; rfl) (fun i es h => by cases i <;> simp [Obj.els] at h; subst h; exact hno)
    (fun i es j c h hc => by
      cases i <;> simp [Obj.els] at h; subst h
      obtain ⟨v, hv, hr⟩ := hzc.get j c hc
      exact ⟨v, by simpa using hv, hr⟩)
  refine ⟨.pointer (some ⟨w.heap.size, 0, none⟩), _, _, ?_, p2, p1, ⟨_, rfl, ⟨_, rfl⟩, fun s m h => ?_⟩, p3⟩
  · simp only [Instr.alloc, Sem.run_bind, hzv, Result.andThen_ok, newVar, newRow, run_newObj, Sem.run_pure]; rfl
  · simp only [shape, look_cons, if_true, Option.map_some] at h; cases h
    exact ⟨Nat.le_refl _, fun _ b hb => by simp [upd] at hb; subst hb; simp⟩

theorem ok_box {t : TypeId} {id : Nat} {g : Bool} {cs : List AC} {u : Value} (hfr : fresh id st = true) (hs : Sr GL w I G st.os) (hx : ATr w I G (shape st.os) (.val g cs) u) (hno : refsL (· ≠ id) cs) :
    ∃ v w' G', (Instr.box t u).run P w = .ok v w' ∧ Ext w w' I I (Mine G st.os) (Mine G' ((id, .box cs) :: st.os)) ∧ Sr GL w' I G' ((id, .box cs) :: st.os) ∧
      ATr w' I G' (shape ((id, .box cs) :: st.os)) (.val false [.ptr id 1 0 0]) v ∧ Moves [id] st ((id, .box cs) :: st.os) w w' I I G G' := by
  have hzc := vcells hx
  obtain ⟨p1, p2, p3⟩ := hs.new_ hfr (.box cs) u.cells t (by simp [Obj.els, Obj.s]; rw [← Array.length_toList, hzc.length]; omega)
    (fun i es h => by cases i <;> simp [Obj.els] at h; subst h; rfl) (fun i es h => by cases i <;> simp [Obj.els] at h; subst h; exact hno)
    (fun i es j c h hc => by
      cases i <;> simp [Obj.els] at h; subst h
      obtain ⟨v, hv, hr⟩ := hzc.get j c hc
      exact ⟨v, by simpa using hv, hr⟩)
  refine ⟨.pointer (some ⟨w.heap.size, 0, none⟩), _, _, ?_, p2, p1, ⟨_, rfl, ⟨_, rfl⟩, fun s m h => ?_⟩, p3⟩
  · simp only [Instr.box, Sem.run_bind, Result.andThen_ok, newVar, newRow, run_newObj, Sem.run_pure]; rfl
  · simp only [shape, look_cons, if_true, Option.map_some] at h; cases h
    exact ⟨Nat.le_refl _, fun _ b hb => by simp [upd] at hb; subst hb; simp⟩

theorem parts_r (hs : Sr GL w I G st.os) (hf : Fr D w I G (shape st.os) N a st.env) {s : Nat} : ∀ (parts : List (Nat × Operand)) (k : Nat) (els : List (List AC)) (cur : Array Value),
    partsEls GL st s k parts = some els → (k + parts.length) * s ≤ cur.size →
    els.length = parts.length ∧ (∀ (i : Nat) (es : List AC), els[i]? = some es → es.length = s) ∧
    ∃ out, Instr.fill (fun i => some (i * s, s)) cur (parts.map fun (i, x) => (i, a.eval x)) = some out ∧ out.size = cur.size ∧ (∀ q, q < k * s → out[q]? = cur[q]?) ∧
      ∀ (i : Nat) (es : List AC) (j : Nat) (c : AC), els[i]? = some es → es[j]? = some c → ∃ v, out[(k + i) * s + j]? = some v ∧ ACr w I G (shape st.os) c v
  | [], k, els, cur, h, hc => by
    cases h
    exact ⟨rfl, fun i es h => by simp at h, cur, rfl, rfl, fun q _ => rfl, fun i es j c h => by simp at h⟩
  | (i0, x) :: l, k, els, cur, h, hc => by
    simp only [partsEls] at h
    split at h
    · rename_i g cs hk hx
      split at h
      · rename_i els' h1 h2
        cases h
        have hk := Nat.eq_of_beq_eq_true hk; subst hk
        have h1 := Nat.eq_of_beq_eq_true h1
        simp only [List.length_cons] at hc
        have hxr := vcells (opd_r hs hf hx)
        have hxl : (a.eval x).cells.toList.length = s := by rw [hxr.length, h1]
        have hxs : (a.eval x).cells.size = s := by rw [← Array.length_toList]; exact hxl
        have hroom : i0 * s + s ≤ cur.size := by
          have : (i0 + 1) * s ≤ (i0 + (l.length + 1)) * s := Nat.mul_le_mul_right _ (by omega)
          rw [Nat.add_mul, Nat.one_mul] at this; omega
        have hfold := foldl_set (i0 * s) (a.eval x).cells.toList 0 cur (by omega)
        have hfold2 : ((a.eval x).cells.zipIdx.foldl (fun cs (c, j) => cs.setIfInBounds (i0 * s + j) c) cur).toList = cur.toList.take (i0 * s) ++ (a.eval x).cells.toList ++ cur.toList.drop (i0 * s + (a.eval x).cells.toList.length) := by
          have h0 := hfold
          simp only [Nat.add_zero] at h0
          rw [← h0]
          congr 1
          rw [← Array.foldl_toList]; simp
        generalize hcur : (a.eval x).cells.zipIdx.foldl (fun cs (c, j) => cs.setIfInBounds (i0 * s + j) c) cur = cur2 at hfold2
        have hsz2 : cur2.size = cur.size := by
          rw [← Array.length_toList, hfold2]
          have e : cur.toList.length = cur.size := by simp
          simp only [List.length_append, List.length_take, List.length_drop]; omega
        obtain ⟨q1, q2, out, q3, q4, q5, q6⟩ := parts_r hs hf l (i0 + 1) els' cur2 h2 (by rw [hsz2, show i0 + 1 + l.length = i0 + (l.length + 1) from by omega]; exact hc)
        have hget : ∀ q, cur2[q]? = if i0 * s ≤ q ∧ q < i0 * s + s then (a.eval x).cells.toList[q - i0 * s]? else cur[q]? := fun q => by
          rw [← Array.getElem?_toList, hfold2, patch_get _ _ _ _ (by simp; omega), hxl]; simp only [Array.getElem?_toList]
        refine ⟨by simp [q1], fun i es hes => ?_, out, ?_, by omega, fun q hq => ?_, fun i es j c hes hc2 => ?_⟩
        · cases i with
          | zero => simp at hes; subst hes; exact h1
          | succ i => exact q2 i es (by simpa using hes)
        · simp only [List.map_cons, Instr.fill]
          rw [if_neg (by simp [hxs]; omega), hcur]; exact q3
        · rw [q5 q (by rw [Nat.add_mul]; omega), hget, if_neg (by omega)]
        · cases i with
          | zero =>
            simp at hes; subst hes
            obtain ⟨v, hv, hr⟩ := hxr.get j c hc2
            have hj := (List.getElem?_eq_some_iff.1 hv).1
            refine ⟨v, ?_, hr⟩
            rw [Nat.add_zero, q5 _ (by rw [Nat.add_mul]; omega), hget, if_pos (by omega), ← hv]
            congr 1; omega
          | succ i =>
            obtain ⟨v, hv, hr⟩ := q6 i es j c (by simpa using hes) hc2
            exact ⟨v, by rw [← hv, show i0 + (i + 1) = i0 + 1 + i from by omega], hr⟩
      · cases h
    · cases h

/-- the cells that a literal slice lies on ahead of its parts -/
theorem lit_base (n s : Nat) (z : Array Value) : ((Array.range (n * s)).map (fun k => z[k % z.size]!)).size = n * s := by simp

theorem ok_lit {t : TypeId} {e : TypeId} {n s : Nat} {parts : Array (Nat × Operand)} {els : List (List AC)} (hu : P.underlying t = some (.slice e)) (hsz : sizeT P e = some s)
    (hp : partsEls GL st s 0 parts.toList = some els) (hn : n * s ≤ 16777216) (hl : parts.size = n) (hz : ∃ z, zeroT P e = some z) (hs : Sr GL w I G st.os) (hf : Fr D w I G (shape st.os) N a st.env) :
    ∃ out, (Instr.buildSlice t n (parts.map fun (i, x) => (i, a.eval x))).run P w = .ok (.slice (some ⟨w.heap.size, 0, none⟩) n n) (w.alloc (.cells out e)) ∧ out.size = n * s ∧ els.length = n ∧
      (∀ (i : Nat) (es : List AC), els[i]? = some es → es.length = s) ∧
      ∀ (i : Nat) (es : List AC) (j : Nat) (c : AC), els[i]? = some es → es[j]? = some c → ∃ v, out[i * s + j]? = some v ∧ ACr w I G (shape st.os) c v := by
  obtain ⟨z, hz⟩ := hz
  obtain ⟨zv, hzv, hzc⟩ := zeroT_run (I := I) (G := G) (st := st) hz w
  let zc : Array Value := if n * s = 0 then #[] else zv.cells
  have hlp : parts.toList.length = n := by simpa using hl
  obtain ⟨q1, q2, out, q3, q4, _, q6⟩ := parts_r (w := w) hs hf parts.toList 0 els ((Array.range (n * s)).map (fun k => zc[k % zc.size]!)) hp (by rw [hlp, lit_base, Nat.zero_add]; exact Nat.le_refl _)
  refine ⟨out, ?_, by rw [q4, lit_base], by rw [q1, hlp], q2, fun i es j c h1 h2 => by simpa using q6 i es j c h1 h2⟩
  simp only [Instr.buildSlice, Sem.run_bind, run_underlying hu, Result.andThen_ok, run_sizeT hsz]
  rw [if_neg (by omega)]
  have q3' : Instr.fill (fun i => some (i * s, s)) ((Array.range (n * s)).map (fun k => zc[k % zc.size]!)) (parts.map fun (i, x) => (i, a.eval x)).toList = some out := by simpa using q3
  by_cases h0 : n * s = 0
  · have e : zc = #[] := if_pos h0
    rw [e] at q3'
    rw [if_pos h0]
    simp only [Sem.run_bind, Sem.run_pure, Result.andThen_ok, q3', newRow, run_newObj]; rfl
  · have e : zc = zv.cells := if_neg h0
    rw [e] at q3'
    rw [if_neg h0]
    simp only [Sem.run_bind, hzv, Sem.run_pure, Result.andThen_ok, q3', newRow, run_newObj]; rfl

theorem pvEls_eq : ∀ {els : List (List AC)} {ps : List (List PV)}, pvEls els = some ps → els = ps.map pvL
  | [], ps, h => by cases h; rfl
  | c :: cs, ps, h => by
    simp only [pvEls] at h
    split at h
    · rename_i p r h1 h2; cases h; rw [pvs_eq h1, pvEls_eq h2]; rfl
    · cases h

theorem ok_litslc {t : TypeId} {e : TypeId} {n s : Nat} {parts : Array (Nat × Operand)} {els : List (List AC)} {ps : List (List PV)} (hu : P.underlying t = some (.slice e)) (hsz : sizeT P e = some s)
    (hp : partsEls GL st s 0 parts.toList = some els) (hn : n * s ≤ 16777216) (hl : parts.size = n) (hz : ∃ z, zeroT P e = some z) (hpv : pvEls els = some ps) (hs : Sr GL w I G st.os) (hf : Fr D w I G (shape st.os) N a st.env) :
    ∃ v w' I', (Instr.buildSlice t n (parts.map fun (i, x) => (i, a.eval x))).run P w = .ok v w' ∧ Ext w w' I I' (Mine G st.os) (Mine G st.os) ∧ Sr GL w' I' G st.os ∧ ATr w' I' G (shape st.os) (one (.slc ps)) v ∧ Moves [] st st.os w w' I I' G G := by
  obtain ⟨out, hrun, ho, hel, hun, hce⟩ := ok_lit (w := w) hu hsz hp hn hl hz hs hf
  obtain ⟨p1, p2, p3⟩ := hs.imm (.cells out e)
  refine ⟨_, _, _, hrun, p3, p1, ⟨_, rfl, ?_⟩, .any p2⟩
  have hels := pvEls_eq hpv
  subst hels
  show PVr _ _ _ _
  have hps : ps.length = n := by simpa using hel
  have hget : ∀ (i : Nat) (es : List PV), ps[i]? = some es → (ps.map pvL)[i]? = some (pvL es) := fun i es h => by simp [h]
  let vals : Nat → Nat → Value := fun i j => (out[i * s + j]?).getD undef
  have hv : ∀ (i : Nat) (es : List PV) (j : Nat) (p : PV), ps[i]? = some es → es[j]? = some p → out[i * s + j]? = some (vals i j) ∧ PVr w I p (vals i j) := by
    intro i es j p h1 h2
    obtain ⟨v, hv, hr⟩ := hce i _ j (.pv p) (hget i es h1) (by simp [pvL, h2])
    refine ⟨by simp [vals, hv], ?_⟩
    have : vals i j = v := by simp [vals, hv]
    rw [this]; exact hr
  rw [← hps]
  refine .slc ps w.heap.size 0 s vals (.inr rfl) (fun i es h => ?_) (fun i es j p h1 h2 => ?_) (fun i es j p h1 h2 => (hv i es j p h1 h2).2.mono p2.heap p2.imm)
  · have := hun i _ (hget i es h); rwa [pvL_length] at this
  · have := (hv i es j p h1 h2).1
    have hh : (w.alloc (.cells out e)).heap[w.heap.size]? = some (.cells out e (0, 0)) := by show (w.heap.push _)[w.heap.size]? = _; simp
    simp only [World.cell?]; rw [hh]; simpa using this

theorem ok_litpv {t : TypeId} {e : TypeId} {n s : Nat} {parts : Array (Nat × Operand)} {els : List (List AC)} {ps : List (List PV)} (hu : P.underlying t = some (.slice e)) (hsz : sizeT P e = some s)
    (hp : partsEls GL st s 0 parts.toList = some els) (hn : n * s ≤ 16777216) (hl : parts.size = n) (hz : ∃ z, zeroT P e = some z) (hpv : pvEls els = some ps) (hs : Sr GL w I G st.os) (hf : Fr D w I G (shape st.os) N a st.env) :
    ∃ v w' I', (Instr.buildSlice t n (parts.map fun (i, x) => (i, a.eval x))).run P w = .ok v w' ∧ Ext w w' I I' (Mine G st.os) (Mine G st.os) ∧ Sr GL w' I' G st.os ∧ ATr w' I' G (shape st.os) (one (.sl ps)) v ∧ Moves [] st st.os w w' I I' G G := by
  obtain ⟨v, w', I', h1, h2, h3, ⟨c, hc, h4⟩, h5⟩ := ok_litslc (w := w) hu hsz hp hn hl hz hpv hs hf
  cases hc
  exact ⟨v, w', I', h1, h2, h3, ⟨_, rfl, (PVr.sl_of h4).1⟩, h5⟩

theorem evConvX_or {src dst : TypeId} {x : AT} {r : AT × Objs × List Prop} (h : evConvX P st src dst x = some r) :
    (∃ els, x = .val false [.pv (.sl els)] ∧ evConvB P st src dst els = some r) ∨ evConv P st src dst x = some r := by
  unfold evConvX at h
  split at h
  · exact .inl ⟨_, rfl, h⟩
  · exact .inr h

theorem evConvX_os {s1 : S} {src dst : TypeId} {x z : AT} {os' : Objs} {O : List Prop} (s2 : S) (h : evConvX P s1 src dst x = some (z, os', O)) : os' = s1.os ∧ evConvX P s2 src dst x = some (z, s2.os, O) := by
  unfold evConvX at h ⊢
  split at h
  · unfold evConvB at h ⊢
    split at h
    · split at h
      · cases h; exact ⟨rfl, rfl⟩
      · cases h
    · cases h
  · unfold evConv at h ⊢
    split at h <;> cases h <;> exact ⟨rfl, rfl⟩

theorem bytesPV_len : ∀ {els : List (List PV)} {bs : List UInt8}, bytesPV els = some bs → ∃ ns : List Int, els = ns.map (fun n => [PV.int .u8 n]) ∧ bs = ns.map fun n => UInt8.ofNat n.toNat
  | [], bs, h => by cases h; exact ⟨[], rfl, rfl⟩
  | x :: l, bs, h => by
    unfold bytesPV at h
    split at h
    · rename_i e; cases e
    · rename_i n l' e
      cases e
      cases hb : bytesPV l with
      | none => rw [hb] at h; cases h
      | some b =>
        rw [hb] at h; cases h
        obtain ⟨ns, e1, e2⟩ := bytesPV_len hb
        exact ⟨n :: ns, by rw [e1]; rfl, by rw [e2]; rfl⟩
    · cases h

theorem foldl_push : ∀ (ns : List Int) (r : ByteArray), ns.foldl (fun r n => r.push (UInt8.ofNat n.toNat)) r = ⟨(r.data.toList ++ ns.map fun n => UInt8.ofNat n.toNat).toArray⟩
  | [], r => by cases r; simp
  | n :: ns, r => by
    rw [List.foldl_cons, foldl_push ns]
    cases r
    simp [ByteArray.push]

theorem ok_convB {src dst : TypeId} {els : List (List PV)} {z : AT} {os' : Objs} {O : List Prop} {u : Value} (he : evConvB P st src dst els = some (z, os', O)) (hx : PVr w I (.sl els) u) :
    os' = st.os ∧ ∃ r, (convert src dst u).run P w = .ok r w ∧ ATr w I G (shape st.os) z r := by
  unfold evConvB at he
  split at he
  · rename_i e hs hd
    split at he
    · rename_i bs he8 hb
      cases he
      obtain ⟨ns, e1, e2⟩ := bytesPV_len hb
      subst e2
      obtain ⟨A, c, vs, rfl, hvl, hfirst, hones, hvs⟩ := first_cells (P := P) (s := 1) hx (by rw [e1]; intro es h; obtain ⟨n, _, rfl⟩ := List.mem_map.1 h; rfl)
      have hv : vs = ns.map (Value.int .u8) := by
        refine List.ext_getElem? fun i => ?_
        rw [List.getElem?_map]
        cases hn : ns[i]? with
        | none =>
          have := List.getElem?_eq_none_iff.1 hn
          rw [List.getElem?_eq_none_iff.2 (by rw [hvl, e1]; simp; omega)]; rfl
        | some n =>
          obtain ⟨x, hx1, hx2⟩ := hvs i [.int .u8 n] 0 (.int .u8 n) (by rw [e1]; simp [hn]) rfl
          rw [Nat.mul_one, Nat.add_zero] at hx1
          rw [hx1]; cases hx2; rfl
      refine ⟨rfl, .string ⟨(ns.map fun (n : Int) => UInt8.ofNat n.toNat).toArray⟩, ?_, _, rfl, PVr.str (ns.map fun (n : Int) => UInt8.ofNat n.toNat)⟩
      rw [run_convert_bytes_string w src dst e A els.length c hs he8 hd]
      have hf := hfirst w (fun _ _ => rfl)
      cases A with
      | none =>
        have h0 : els.length = 0 := by
          cases hx with
          | sl0 => rfl
        have hn0 : ns = [] := by rw [e1] at h0; simpa using h0
        subst hn0
        simp only [Conv.bytesToString, Sem.run_pure]; rfl
      | some a =>
        simp only [Builtin.firstCells, Nat.mul_one] at hf
        rw [run_bytesToString w a els.length c ns (by rw [← hv]; exact hf), foldl_push]
        simp
    · cases he
  · cases he

theorem evAppendX_or {t : TypeId} {x y : AT} {r : AT × Objs × List Prop} (h : evAppendX P st t x y = some r) :
    (∃ els new, x = .val false [.pv (.slc els)] ∧ y = .val false [.pv (.sl new)] ∧ evAppendC P st t els new = some r) ∨ evAppend P st t x y = some r := by
  unfold evAppendX at h
  split at h
  · exact .inl ⟨_, _, rfl, rfl, h⟩
  · exact .inr h

/-- an append to a slice whose capacity is its length -/
theorem ok_appendC {t t' : TypeId} {els new : List (List PV)} {z : AT} {os' : Objs} {O : List Prop} {u v : Value} {d : TypeId} (he : evAppendC P st t els new = some (z, os', O)) (hO : All O)
    (ht' : P.underlying t' = some (.slice d)) (hs : Sr GL w I G st.os) (hx : PVr w I (.slc els) u) (hy : PVr w I (.sl new) v) (ty : TypeId) :
    ∃ r w' I', (Builtin.append_ #[t, t'] ty #[u, v]).run P w = .ok r w' ∧ Ext w w' I I' (Mine G st.os) (Mine G os') ∧ Sr GL w' I' G os' ∧ ATr w' I' G (shape os') z r ∧ Moves [] st os' w w' I I' G G := by
  unfold evAppendC at he
  split at he
  · rename_i e hel
    have hu := elemT_eq hel
    split at he
    · rename_i s by_ zz hsz hby hz
      split at he
      · rename_i hb2
        simp only [Bool.and_eq_true] at hb2
        have hbb := Nat.le_of_ble_eq_true hb2.1
        have hzl := Nat.eq_of_beq_eq_true hb2.2
        cases he
        obtain ⟨hbound, huo, hun, _⟩ := hO
        obtain ⟨hxs, A, rfl⟩ := PVr.sl_of hx
        obtain ⟨A1, c1, vs1, e1, hvl1, hfirst1, hones1, hvs1⟩ := first_cells (P := P) hxs huo
        cases e1
        obtain ⟨A2, c2, vs, rfl, hvl, hfirst, hones, hvs⟩ := first_cells (P := P) hy hun
        by_cases hk : new.length = 0
        · have hnew : new = [] := List.length_eq_zero_iff.1 hk
          subst hnew
          have hv1 := hfirst w (fun _ _ => rfl)
          have hvs0 : vs = [] := List.length_eq_zero_iff.1 (by rw [hvl]; simp)
          subst hvs0
          simp only [List.length_nil] at hv1
          refine ⟨.slice (some A) els.length els.length, w, I, ?_, Ext.refl _ _ _, hs, ⟨_, rfl, by rw [List.append_nil]; exact hxs⟩, .refl _ _ _ _ _⟩
          simp only [Builtin.append_, List.getElem?_toArray, List.getElem?_cons_zero, List.getElem?_cons_succ, Sem.run_bind, run_underlying hu, Result.andThen_ok, run_sizeT hsz, run_underlying ht', Sem.run_pure, Bool.false_eq_true, if_false,
            Builtin.lenOf, List.length_nil, Nat.add_zero, Nat.le_refl, if_true, hv1, Bool.not_false, storeCells, List.forM_nil]
        · obtain ⟨inf, hinf, hinfb⟩ := bytesT_run hby w
          have hv1 := hfirst w.drew (fun _ _ => rfl)
          have ho1 := hfirst1 w.drew (fun _ _ => rfl)
          obtain ⟨zv, hzv, hzc⟩ := zeroT_run (I := I) (G := G) (st := st) hz w.drew
          have hzl' : zv.cells.size = s := by rw [← Array.length_toList, hzc.length, hzl]
          let q : Question := .appendCap (els.length + new.length) els.length e
          let nc : Nat := q.cut (w.tape w.drawn q)
          have hnc : els.length + new.length ≤ nc := by simp only [nc, q, Question.cut]; omega
          let rest := Builtin.zeroCells zv.cells (nc - (els.length + new.length))
          have hrun : (Builtin.append_ #[t, t'] ty #[.slice (some A) els.length els.length, .slice A2 new.length c2]).run P w =
              .ok (.slice (some ⟨w.heap.size, 0, none⟩) (els.length + new.length) nc) ((w.drew).alloc (.cells (vs1.toArray ++ vs.toArray ++ rest) e)) := by
            have hz2 : (underlying t').run P w = .ok (.slice d) w := run_underlying ht' w
            have hi1 : ¬ ((els.length + new.length : Nat) : Int) > IntKind.i64.max := by
              rw [show IntKind.i64.max = 9223372036854775807 from by kernel_rfl]; omega
            have hcb := cap_bound (need := els.length + new.length) (cap := els.length) (by omega) hbound
            have hcb2 : ¬ Builtin.nextslicecap (els.length + new.length) els.length * inf.bytes > 2 ^ 48 := by
              rw [hinfb]
              have : Builtin.nextslicecap (els.length + new.length) els.length * by_ ≤ 4294967296 * 4096 := Nat.mul_le_mul hcb hbb
              omega
            have hinf2 : (typeInfo e).run P w.drew = .ok inf w.drew := by
              cases hi : P.info? e with
              | none => simp [typeInfo, hi] at hinf
              | some i => simp [typeInfo, hi] at hinf ⊢; exact hinf
            have hq : q.forced = false := rfl
            have hch : (choose q).run P w = .ok nc w.drew := by rw [run_choose, hq]; rfl
            simp only [Builtin.append_, List.getElem?_toArray, List.getElem?_cons_zero, List.getElem?_cons_succ, Sem.run_bind, run_underlying hu, Result.andThen_ok, run_sizeT hsz, hz2, Sem.run_pure, Bool.false_eq_true, if_false,
              Builtin.lenOf]
            rw [if_neg (by omega), Sem.run_bind, hinf, Result.andThen_ok]
            simp only [Sem.run_ite, Sem.run_bind, hinf, Result.andThen_ok, hi1, false_and, if_false, hcb2]
            rw [show (choose (Question.appendCap (els.length + new.length) els.length e)).run P w = .ok nc w.drew from hch]
            simp only [Result.andThen_ok, Sem.run_bind, hinf2, run_askRoom, ho1, hv1, hzv, Bool.not_false, if_true, Sem.run_pure, newRow, run_newObj]
            rfl
          obtain ⟨s0, k0⟩ := hs.move (w' := w.drew) (I' := I) (fun _ h => h) (fun _ _ => rfl) (Nat.le_refl _) (fun _ h => .inl h) hs.lt
          obtain ⟨p1, p2, p3⟩ := s0.imm (.cells (vs1.toArray ++ vs.toArray ++ rest) e)
          have p3' : Ext w (w.drew.alloc (.cells (vs1.toArray ++ vs.toArray ++ rest) e)) I (fun k => I k ∨ k = w.heap.size) (Mine G st.os) (Mine G st.os) :=
            Ext.trans (w' := w.drew) (I' := I) (M' := Mine G st.os) ⟨Nat.le_refl _, rfl, rfl, rfl, fun _ _ _ => rfl, fun _ h => h, fun _ h => .inl h, fun _ h => .inl h⟩ p3
          have k2 := k0.trans p2
          refine ⟨_, _, _, hrun, p3', p1, ⟨_, rfl, ?_⟩, .any k2⟩
          have hheap : ((w.drew).alloc (.cells (vs1.toArray ++ vs.toArray ++ rest) e)).heap[w.heap.size]? = some (.cells (vs1 ++ vs ++ rest.toList).toArray e (0, 0)) := by
            show (w.heap.push _)[w.heap.size]? = _
            simp
          have hlen : (els ++ new).length = els.length + new.length := List.length_append
          have hcell : ∀ (i : Nat) (es : List PV) (j : Nat) (p : PV), (els ++ new)[i]? = some es → es[j]? = some p → ∃ x, (vs1 ++ vs ++ rest.toList)[i * s + j]? = some x ∧ PVr w I p x := by
            intro i es j p h1 h2
            rw [List.getElem?_append] at h1
            by_cases hi : i < els.length
            · rw [if_pos hi] at h1
              obtain ⟨x, hx1, hx2⟩ := hvs1 i es j p h1 h2
              refine ⟨x, ?_, hx2⟩
              have := (List.getElem?_eq_some_iff.1 hx1).1
              rw [List.append_assoc, List.getElem?_append_left this]; exact hx1
            · rw [if_neg hi] at h1
              obtain ⟨x, hx1, hx2⟩ := hvs _ es j p h1 h2
              refine ⟨x, ?_, hx2⟩
              have h3 := (List.getElem?_eq_some_iff.1 hx1).1
              have hge : els.length * s ≤ i * s := Nat.mul_le_mul_right _ (by omega)
              rw [Nat.sub_mul] at hx1 h3
              rw [List.append_assoc, List.getElem?_append_right (by omega), List.getElem?_append_left (by omega), hvl1, ← hx1]
              congr 1; omega
          let vals : Nat → Nat → Value := fun i j => ((vs1 ++ vs ++ rest.toList)[i * s + j]?).getD undef
          rw [← hlen]
          refine .sl (els ++ new) w.heap.size 0 nc s vals (.inr rfl) (by rw [hlen]; exact hnc) (fun i es h => ?_) (fun i es j p h1 h2 => ?_) (fun i es j p h1 h2 => ?_)
          · rcases List.mem_append.1 (List.mem_of_getElem? h) with h | h
            · exact huo es h
            · exact hun es h
          · obtain ⟨x, hx1, hx2⟩ := hcell i es j p h1 h2
            have hvx : vals i j = x := by simp only [vals, hx1, Option.getD_some]
            simp only [World.cell?, hheap, Nat.zero_add, List.getElem?_toArray]
            rw [hx1, hvx]; simp
          · obtain ⟨x, hx1, hx2⟩ := hcell i es j p h1 h2
            have hvx : vals i j = x := by simp only [vals, hx1, Option.getD_some]
            rw [hvx]; exact hx2.mono k2.heap k2.imm
      · cases he
    · cases he
  · cases he

theorem ok_litobj {t : TypeId} {e : TypeId} {n s id : Nat} {parts : Array (Nat × Operand)} {els : List (List AC)} {ps : List (List PV)} (hu : P.underlying t = some (.slice e)) (hsz : sizeT P e = some s)
    (hp : partsEls GL st s 0 parts.toList = some els) (hn : n * s ≤ 16777216) (hl : parts.size = n) (hz : ∃ z, zeroT P e = some z) (hpv : pvEls els = some ps) (hfr : fresh id st = true) (hs : Sr GL w I G st.os)
    (hf : Fr D w I G (shape st.os) N a st.env) :
    ∃ v w' G', (Instr.buildSlice t n (parts.map fun (i, x) => (i, a.eval x))).run P w = .ok v w' ∧ Ext w w' I I (Mine G st.os) (Mine G' ((id, .arr s ps) :: st.os)) ∧ Sr GL w' I G' ((id, .arr s ps) :: st.os) ∧
      ATr w' I G' (shape ((id, .arr s ps) :: st.os)) (.val false [.arr id n]) v ∧ Moves [id] st ((id, .arr s ps) :: st.os) w w' I I G G' := by
  obtain ⟨out, hrun, ho, hel, hun, hce⟩ := ok_lit (w := w) hu hsz hp hn hl hz hs hf
  have hels := pvEls_eq hpv
  subst hels
  obtain ⟨p1, p2, p3⟩ := hs.new_ hfr (.arr s ps) out e (by simp only [Obj.els, Obj.s]; rw [ho, hel]; exact Nat.le_refl _) hun
    (fun i es h => by
      simp only [Obj.els, List.getElem?_map] at h
      cases hq : ps[i]? with
      | none => rw [hq] at h; cases h
      | some q => rw [hq] at h; cases h; exact refsL_pvL q) hce
  have hps : ps.length = n := by simpa using hel
  refine ⟨_, _, _, hrun, p2, p1, ⟨_, rfl, ⟨_, _, rfl⟩, fun s' m h => ?_⟩, p3⟩
  simp only [shape, look_cons, if_true, Option.map_some, Obj.s, Obj.els, List.length_map] at h; cases h
  refine ⟨by omega, fun _ => ?_⟩
  simp only [upd, if_true]
  refine ⟨n, rfl, Nat.le_refl _, ?_⟩
  have hh : (w.alloc (.cells out e)).heap[w.heap.size]? = some (.cells out e (0, 0)) := by show (w.heap.push _)[w.heap.size]? = _; simp
  simp only [bsize, hh, ho]; exact Nat.le_refl _

theorem ok_make {t e : TypeId} {id s by_ : Nat} {n : Int} {z : List PV} (hu : P.underlying t = some (.slice e)) (hsz : sizeT P e = some s) (hby : bytesT P e = some by_) (hzt : zeroT P e = some (pvL z))
    (hzl : z.length = s) (hb : by_ ≤ 4096) (h0 : 0 ≤ n) (h1 : n ≤ 1073741824) (hpos : 1 ≤ s) (hfr : fresh id st = true) (hs : Sr GL w I G st.os) :
    ∃ v w' G', (Instr.makeSlice t (.int .i64 n) (.int .i64 n)).run P w = .ok v w' ∧ Ext w w' I I (Mine G st.os) (Mine G' ((id, .arr s (List.replicate n.toNat z)) :: st.os)) ∧
      Sr GL w' I G' ((id, .arr s (List.replicate n.toNat z)) :: st.os) ∧
      ATr w' I G' (shape ((id, .arr s (List.replicate n.toNat z)) :: st.os)) (.val false [.arr id n.toNat]) v ∧ Moves [id] st ((id, .arr s (List.replicate n.toNat z)) :: st.os) w w' I I G G' := by
  obtain ⟨zv, hzv, hzc⟩ := zeroT_run (I := I) (G := G) (st := st) hzt w
  obtain ⟨inf, hinf, hinfb⟩ := bytesT_run hby w
  have hzs : zv.cells.size = s := by rw [← Array.length_toList, hzc.length, pvL_length, hzl]
  obtain ⟨m, rfl⟩ := Int.eq_ofNat_of_zero_le h0
  have hwrap : IntKind.i64.wrap (m : Int) = m := by
    simp only [IntKind.wrap_i64]; omega
  let zc : Array Value := if m * s = 0 then #[] else zv.cells
  let out : Array Value := (Array.range (m * s)).map (fun k => zc[k % zc.size]!)
  have hout : out.size = m * s := by simp [out]
  have hrun : (Instr.makeSlice t (.int .i64 m) (.int .i64 m)).run P w = .ok (.slice (some ⟨w.heap.size, 0, none⟩) m m) (w.alloc (.cells out e)) := by
    have hbm : ¬ (inf.bytes : Int) * (m : Int) > 2 ^ 48 := by
      rw [hinfb]
      have : by_ * m ≤ 4096 * 1073741824 := Nat.mul_le_mul hb (by omega)
      have h2 : ((by_ * m : Nat) : Int) ≤ ((4096 * 1073741824 : Nat) : Int) := by exact_mod_cast this
      rw [Int.natCast_mul] at h2; omega
    simp only [Instr.makeSlice, Sem.run_bind, run_underlying hu, Result.andThen_ok, asInt, asIntOf, Sem.run_pure, hinf, hwrap]
    rw [if_neg (by simp only [Bool.or_eq_true, decide_eq_true_eq]; omega)]
    simp only [Sem.run_bind, run_askRoom, Result.andThen_ok, run_sizeT hsz, Int.toNat_natCast, Sem.run_pure]
    by_cases hms : m * s = 0
    · have e : zc = #[] := if_pos hms
      rw [if_pos hms]
      simp only [Sem.run_bind, Sem.run_pure, Result.andThen_ok, newRow, run_newObj, out, e]; rfl
    · have e : zc = zv.cells := if_neg hms
      rw [if_neg hms]
      simp only [Sem.run_bind, hzv, Sem.run_pure, Result.andThen_ok, newRow, run_newObj, out, e]; rfl
  have hval : ∀ k, k < m * s → out[k]? = some ((zv.cells[k % s]?).getD undef) := by
    intro k hk
    have hne : ¬ m * s = 0 := by omega
    simp only [out, zc, if_neg hne, Array.getElem?_map, Array.getElem?_range, if_pos hk, Option.map_some, hzs]
    have : k % s < zv.cells.size := by rw [hzs]; exact Nat.mod_lt _ hpos
    rw [getElem!_pos zv.cells _ this, getElem?_pos zv.cells _ this]; rfl
  obtain ⟨p1, p2, p3⟩ := hs.new_ hfr (.arr s (List.replicate m z)) out e (by simp only [Obj.els, Obj.s, List.map_replicate, List.length_replicate]; rw [hout]; exact Nat.le_refl _)
    (fun i es h => by
      simp only [Obj.els, List.map_replicate, List.getElem?_replicate] at h
      split at h <;> cases h
      rw [pvL_length, hzl]; rfl)
    (fun i es h => by
      simp only [Obj.els, List.map_replicate, List.getElem?_replicate] at h
      split at h <;> cases h
      exact refsL_pvL z)
    (fun i es j c h hc => by
      simp only [Obj.els, List.map_replicate, List.getElem?_replicate] at h
      split at h <;> cases h
      rename_i him
      have hj : j < s := by have := (List.getElem?_eq_some_iff.1 hc).1; rw [pvL_length, hzl] at this; exact this
      obtain ⟨v, hv, hr⟩ := hzc.get j c hc
      refine ⟨v, ?_, hr⟩
      simp only [Obj.s]
      rw [hval _ (slot_lt him hj)]
      have e2 : (i * s + j) % s = j := by rw [Nat.mul_comm, Nat.mul_add_mod, Nat.mod_eq_of_lt hj]
      rw [e2, ← Array.getElem?_toList, hv]; rfl)
  refine ⟨_, _, _, hrun, p2, p1, ⟨_, rfl, ⟨_, _, rfl⟩, fun s' m' h => ?_⟩, p3⟩
  simp only [shape, look_cons, if_true, Option.map_some, Obj.s, Obj.els, List.map_replicate, List.length_replicate] at h; cases h
  refine ⟨by simp, fun _ => ?_⟩
  simp only [upd, if_true]
  refine ⟨m, rfl, Nat.le_refl _, ?_⟩
  have hh : (w.alloc (.cells out e)).heap[w.heap.size]? = some (.cells out e (0, 0)) := by show (w.heap.push _)[w.heap.size]? = _; simp
  simp only [bsize, hh, hout]; exact Nat.le_refl _
end Go.AL
