/- The evaluator is right: an object is written, or grows. -/
import Derived.Test.YthilboheomikjaaGreatDoorA6
namespace Go.AL
set_option linter.unusedVariables false
set_option linter.unusedSimpArgs false
variable {P : Program} {GL : List (Nat × List PV)} {st : S} {w : World} {I : Nat → Prop} {G : Nat → Option Nat} {N : Nat} {a : Act}

theorem shape_setO {os : Objs} {id : Nat} {o o' : Obj} (hl : look os id = some o) (hs : o'.s = o.s) (k : Nat) :
    shape (setO os id o') k = if id = k then some (o.s, o'.els.length) else shape os k := by
  simp only [shape, look_setO]
  by_cases h : id = k
  · simp [h, ← hs]; rw [← h, hl]; simp
  · simp [h]

/-- an object is written where it lies, or lies in a new block from now on -/
theorem Sr.put {os : Objs} {id : Nat} {o o' : Obj} {w' : World} {b' : Nat} {cs' : Array Value} {E : TypeId} (hs : Sr GL w I G os) (hl : look os id = some o) (hos : o'.s = o.s)
    (hlen : o.els.length ≤ o'.els.length) (hkeep : ∀ k, k < w.heap.size → G id ≠ some k → w'.heap[k]? = w.heap[k]?)
    (hblk : w'.heap[b']? = some (.cells cs' E (0, 0))) (hwhere : G id = some b' ∨ w.heap.size ≤ b') (hsame : o'.els.length = o.els.length → G id = some b' ∧ bsize w b' ≤ cs'.size)
    (hsz : w.heap.size ≤ w'.heap.size) (hOs : w'.os = w.os) (hT : w'.tape = w.tape) (hO : w'.output = w.output)
    (hsize : o'.els.length * o'.s ≤ cs'.size) (hu : ∀ (i : Nat) (es : List AC), o'.els[i]? = some es → es.length = o'.s)
    (hc : ∀ (i : Nat) (es : List AC) (j : Nat) (c : AC), o'.els[i]? = some es → es[j]? = some c → ∃ v, cs'[i * o'.s + j]? = some v ∧ ACr w I G (shape os) c v) :
    Sr GL w' I (upd G id (some b')) (setO os id o') ∧ Ext w w' I I (Mine G os) (Mine (upd G id (some b')) (setO os id o')) ∧
    Keeps Any w w' I I G (upd G id (some b')) (shape os) (shape (setO os id o')) := by
  have hmine : ∀ k, G id = some k → ¬ I k := fun k hk => (hs.blk id o k hl hk).1
  have hIkeep : ∀ k, I k → w'.heap[k]? = w.heap[k]? := fun k hk => hkeep k (hs.lt k hk) (fun h => hmine k h hk)
  have hbl : ∀ k o' b, look os k = some o' → G k = some b → b < w.heap.size := fun k o' b h1 h2 => by
    obtain ⟨_, cs', E', h3, _⟩ := hs.blk k o' b h1 h2
    exact (Array.getElem?_eq_some_iff.1 h3).1
  have hbs : bsize w' b' = cs'.size := by simp [bsize, hblk]
  have hk : Keeps Any w w' I I G (upd G id (some b')) (shape os) (shape (setO os id o')) := by
    refine ⟨hIkeep, fun k h => h, fun k s m _ hsh => ?_⟩
    rw [shape_setO hl hos] at hsh
    by_cases e : id = k
    · subst e
      rw [if_pos rfl] at hsh; cases hsh
      refine ⟨o.els.length, by simp [shape, hl], hlen, fun h => ?_⟩
      obtain ⟨h1, h2⟩ := hsame h
      refine ⟨by simp [upd, h1], fun b hb => ?_⟩
      rw [h1] at hb; cases hb; rw [hbs]; exact h2
    · rw [if_neg e] at hsh
      refine ⟨m, hsh, Nat.le_refl _, fun _ => ⟨by simp [upd, Ne.symm e], fun b hb => ?_⟩⟩
      by_cases hlt : b < w.heap.size
      · have hne : G id ≠ some b := by
          intro h
          cases ho : look os k with
          | none => simp [shape, ho] at hsh
          | some ok => exact e (hs.inj id k o ok b hl ho h hb)
        unfold bsize; rw [hkeep b hlt hne]; exact Nat.le_refl _
      · rw [bsize_lt hlt]; exact Nat.zero_le _
  have hnI : ¬ I b' := by
    rcases hwhere with h | h
    · exact hmine b' h
    · intro h'; have := hs.lt b' h'; omega
  refine ⟨⟨fun g ps h => ?_, fun k o1 ho hg => ?_, fun k o1 b ho hg => ?_, fun k k' o1 o2 b h1 h2 g1 g2 => ?_, fun k h => Nat.lt_of_lt_of_le (hs.lt k h) hsz⟩, ?_, hk⟩
  · obtain ⟨h1, h2⟩ := hs.gl g ps h
    refine ⟨h1, fun j p hp => ?_⟩
    obtain ⟨u, hu, hr⟩ := h2 j p hp
    refine ⟨u, ?_, hr.mono hk.heap hk.imm⟩
    unfold World.cell? at hu ⊢; rw [hIkeep g h1]; exact hu
  · rw [look_setO] at ho
    by_cases e : id = k
    · subst e; simp [upd] at hg
    · rw [if_neg e] at ho
      simp only [upd, if_neg (Ne.symm e)] at hg
      exact hs.none_ k o1 ho hg
  · rw [look_setO] at ho
    by_cases e : id = k
    · subst e
      rw [if_pos rfl, hl] at ho; cases ho
      simp only [upd, if_true] at hg; cases hg
      refine ⟨hnI, cs', E, hblk, hsize, hu, fun i es j c h1 h2 => ?_⟩
      obtain ⟨v, hv, hv'⟩ := hc i es j c h1 h2
      exact ⟨v, hv, hv'.mono hk (AC.refs_any c)⟩
    · rw [if_neg e] at ho
      simp only [upd, if_neg (Ne.symm e)] at hg
      obtain ⟨h1, cs1, E', h2, h3, h4, h5⟩ := hs.blk k o1 b ho hg
      have hne : G id ≠ some b := fun h => e (hs.inj id k o o1 b hl ho h hg)
      refine ⟨h1, cs1, E', by rw [hkeep b (hbl k o1 b ho hg) hne]; exact h2, h3, h4, fun i es j c e1 e2 => ?_⟩
      obtain ⟨v, hv, hv'⟩ := h5 i es j c e1 e2
      exact ⟨v, hv, hv'.mono hk (AC.refs_any c)⟩
  · rw [look_setO] at h1 h2
    simp only [upd] at g1 g2
    by_cases e1 : id = k <;> by_cases e2 : id = k'
    · rw [← e1, ← e2]
    · rw [if_pos e1.symm] at g1; rw [if_neg (Ne.symm e2)] at g2; rw [if_neg e2] at h2; cases g1
      rcases hwhere with h | h
      · exact absurd (hs.inj id k' o o2 b' hl h2 h g2) e2
      · have := hbl k' o2 _ h2 g2; omega
    · rw [if_pos e2.symm] at g2; rw [if_neg (Ne.symm e1)] at g1; rw [if_neg e1] at h1; cases g2
      rcases hwhere with h | h
      · exact absurd (hs.inj id k o o1 b' hl h1 h g1) e1
      · have := hbl k o1 _ h1 g1; omega
    · rw [if_neg (Ne.symm e1)] at g1; rw [if_neg (Ne.symm e2)] at g2; rw [if_neg e1] at h1; rw [if_neg e2] at h2
      exact hs.inj k k' o1 o2 b h1 h2 g1 g2
  · refine ⟨hsz, hOs, hT, hO, fun k h hm => hkeep k h (fun h' => hm ⟨id, o, hl, h'⟩), fun k h => h, fun k h => .inl h, fun k h => ?_⟩
    obtain ⟨k', o1, h1, h2⟩ := h
    rw [look_setO] at h1
    simp only [upd] at h2
    by_cases e : id = k'
    · rw [if_pos e.symm] at h2; cases h2
      exact hwhere.imp (fun h => ⟨id, o, hl, h⟩) (fun h => h)
    · rw [if_neg e] at h1; rw [if_neg (Ne.symm e)] at h2; exact .inl ⟨k', o1, h1, h2⟩

theorem one' {v : Value} (h : ∀ x, v ≠ .agg x ∧ v ≠ .tuple x) : v.oneCell' = true := by
  cases v <;> first | rfl | exact absurd rfl (h _).1 | exact absurd rfl (h _).2

theorem CSr.ones {sh : Sh} {cs : List AC} {vs : List Value} (h : CSr w I G sh cs vs) : ∀ v ∈ vs, v.oneCell' = true := by
  intro v hv
  obtain ⟨i, hi⟩ := List.mem_iff_getElem?.1 hv
  have hlt := (List.getElem?_eq_some_iff.1 hi).1
  rw [h.length] at hlt
  obtain ⟨u, hu, hr⟩ := h.get i cs[i] (List.getElem?_eq_getElem hlt)
  rw [hi] at hu; cases hu
  exact one' hr.one

theorem setRow_sz (w : World) (g : Nat) (cs : Array Value) : (w.setRow g cs).heap.size = w.heap.size := by unfold World.setRow; simp
theorem setRow_keep (w : World) (g k : Nat) (cs : Array Value) (h : k ≠ g) : (w.setRow g cs).heap[k]? = w.heap[k]? := by
  unfold World.setRow
  simp only [Array.getElem?_modify]
  rw [if_neg (Ne.symm h)]

theorem splice_length (cs xs : List AC) (j : Nat) (h : j + xs.length ≤ cs.length) : (splice cs j xs).length = cs.length := by
  simp [splice]; omega

theorem splice_get (cs xs : List AC) (j i : Nat) (h : j + xs.length ≤ cs.length) (c : AC) (hc : (splice cs j xs)[i]? = some c) :
    (i < j ∨ j + xs.length ≤ i) ∧ cs[i]? = some c ∨ ∃ k, i = j + k ∧ xs[k]? = some c := by
  unfold splice at hc
  have h1 : (cs.take j).length = j := by simp; omega
  rw [List.append_assoc] at hc
  by_cases hi : i < j
  · left
    rw [List.getElem?_append_left (by omega), List.getElem?_take_of_lt hi] at hc
    exact ⟨.inl hi, hc⟩
  · rw [List.getElem?_append_right (by omega), h1] at hc
    by_cases hx : i - j < xs.length
    · right
      rw [List.getElem?_append_left hx] at hc
      exact ⟨i - j, by omega, hc⟩
    · left
      rw [List.getElem?_append_right (by omega), List.getElem?_drop] at hc
      exact ⟨.inr (by omega), by rw [← hc]; congr 1; omega⟩

/-- cells of a value are laid over a part of the block of an object -/
theorem store_run {id : Nat} {o : Obj} {b i j : Nat} {t : TypeId} {m : Nat} {xs : List AC} {v : Value} (hs : Sr GL w I G st.os) (hl : look st.os id = some o) (hb : G id = some b)
    (hm : sizeT P t = some m) (hx : CSr w I G (shape st.os) xs v.cells.toList) (hxl : xs.length = m) (hi : i < o.els.length) (hj : j + m ≤ o.s) :
    ∃ cur E, w.heap[b]? = some (.cells cur E (0, 0)) ∧ (Instr.storeAt t (.pointer (some ⟨b, i * o.s + j, none⟩)) v).run P w =
      .ok () (w.setRow b (cur.toList.take (i * o.s + j) ++ v.cells.toList ++ cur.toList.drop (i * o.s + j + v.cells.toList.length)).toArray) ∧ i * o.s + j + v.cells.toList.length ≤ cur.size ∧ v.cells.toList.length = m := by
  obtain ⟨_, cur, E, hh, hsz, _, _⟩ := hs.blk id o b hl hb
  have hvl : v.cells.toList.length = m := by rw [hx.length, hxl]
  have hle : i * o.s + j + v.cells.toList.length ≤ cur.size := by
    have : (i + 1) * o.s ≤ o.els.length * o.s := Nat.mul_le_mul_right _ hi
    rw [Nat.add_mul, Nat.one_mul] at this; omega
  refine ⟨cur, E, hh, ?_, hle, hvl⟩
  have := run_storeCells_at (P := P) b (i * o.s + j) E v.cells.toList 0 cur w hh (by simpa using hle) hx.ones
  simp only [Instr.storeAt, Instr.sureAddr, Sem.run_bind, Sem.run_pure, Result.andThen_ok, storeVar, run_sizeT hm]
  rw [if_neg (by rw [← Array.length_toList]; omega)]
  simpa using this

theorem patch_get (cur vs : List Value) (p q : Nat) (h : p + vs.length ≤ cur.length) :
    (cur.take p ++ vs ++ cur.drop (p + vs.length))[q]? = if p ≤ q ∧ q < p + vs.length then vs[q - p]? else cur[q]? := by
  have hj : (cur.take p).length = p := by simp; omega
  rw [List.append_assoc]
  by_cases h1 : q < p
  · rw [List.getElem?_append_left (by omega), List.getElem?_take_of_lt h1, if_neg (by omega)]
  · rw [List.getElem?_append_right (by omega), hj]
    by_cases h2 : q - p < vs.length
    · rw [List.getElem?_append_left h2, if_pos (by omega)]
    · rw [List.getElem?_append_right (by omega), List.getElem?_drop, if_neg (by omega)]
      congr 1; omega

theorem store_obj {id : Nat} {o o' : Obj} {i j : Nat} {t : TypeId} {m : Nat} {es xs : List AC} {v : Value} (hs : Sr GL w I G st.os) (hl : look st.os id = some o)
    (hes : o.els[i]? = some es) (hm : sizeT P t = some m) (hx : CSr w I G (shape st.os) xs v.cells.toList) (hxl : xs.length = m) (hj : j + m ≤ o.s)
    (hos : o'.s = o.s) (hlen : o'.els.length = o.els.length) (hel : ∀ k, o'.els[k]? = if k = i then some (splice es j xs) else o.els[k]?) :
    ∃ b w' G', G id = some b ∧ (Instr.storeAt t (.pointer (some ⟨b, i * o.s + j, none⟩)) v).run P w = .ok () w' ∧ Ext w w' I I (Mine G st.os) (Mine G' (setO st.os id o')) ∧
      Sr GL w' I G' (setO st.os id o') ∧ Moves [] st (setO st.os id o') w w' I I G G' := by
  obtain ⟨b, hb⟩ := some_of_els hs hl hes
  have hilt : i < o.els.length := (List.getElem?_eq_some_iff.1 hes).1
  obtain ⟨cur, E, hh, hrun, hle, hvl⟩ := store_run (P := P) (i := i) (j := j) hs hl hb hm hx hxl hilt hj
  obtain ⟨_, cur', E', hh', hsz, hun, hce⟩ := hs.blk id _ b hl hb
  rw [hh] at hh'; cases hh'
  have hesl : es.length = o.s := hun i es hes
  have hle' : i * o.s + j + v.cells.toList.length ≤ cur.toList.length := by simpa using hle
  have hnew := setRow_heap w b cur (cur.toList.take (i * o.s + j) ++ v.cells.toList ++ cur.toList.drop (i * o.s + j + v.cells.toList.length)).toArray E (0, 0) hh
  have hnl : (cur.toList.take (i * o.s + j) ++ v.cells.toList ++ cur.toList.drop (i * o.s + j + v.cells.toList.length)).toArray.size = cur.size := by
    have e : cur.toList.length = cur.size := by simp
    simp only [List.size_toArray, List.length_append, List.length_take, List.length_drop]; omega
  have hsl : (splice es j xs).length = o.s := by rw [splice_length es xs j (by omega), hesl]
  obtain ⟨p1, p2, p3⟩ := hs.put (o' := o') (w' := w.setRow b (cur.toList.take (i * o.s + j) ++ v.cells.toList ++ cur.toList.drop (i * o.s + j + v.cells.toList.length)).toArray) (b' := b) hl hos (by omega)
    (fun k hk hne => setRow_keep w b k _ (fun e => hne (by rw [hb, e]))) hnew (.inl hb) (fun _ => ⟨hb, by rw [hnl]; simp [bsize, hh]⟩) (by rw [setRow_sz]; exact Nat.le_refl _) rfl rfl rfl
    (by rw [hnl, hlen, hos]; exact hsz)
    (fun k ek hek => by
      rw [hel] at hek; rw [hos]
      split at hek
      · cases hek; exact hsl
      · exact hun k ek hek)
    (fun k ek q c hek hc => by
      rw [hel] at hek; rw [hos, List.getElem?_toArray, patch_get _ _ _ _ hle']
      split at hek
      · rename_i hki; subst hki; cases hek
        rcases splice_get es xs j q (by omega) c hc with ⟨hk, hc'⟩ | ⟨r, rfl, hq⟩
        · obtain ⟨v', hv', hr⟩ := hce k es q c hes hc'
          refine ⟨v', ?_, hr⟩
          rw [if_neg (by omega), Array.getElem?_toList]; exact hv'
        · obtain ⟨v', hv', hr⟩ := hx.get r c hq
          have hq' := (List.getElem?_eq_some_iff.1 hv').1
          refine ⟨v', ?_, hr⟩
          rw [if_pos (by omega), ← hv']; congr 1; omega
      · rename_i hki
        obtain ⟨v', hv', hr⟩ := hce k ek q c hek hc
        have hq : q < o.s := by rw [← hun k ek hek]; exact (List.getElem?_eq_some_iff.1 hc).1
        refine ⟨v', ?_, hr⟩
        rw [if_neg, Array.getElem?_toList]; exact hv'
        intro hh2
        rcases Nat.lt_or_gt_of_ne hki with h | h
        · have : (k + 1) * o.s ≤ i * o.s := Nat.mul_le_mul_right _ h
          rw [Nat.add_mul, Nat.one_mul] at this; omega
        · have : (i + 1) * o.s ≤ k * o.s := Nat.mul_le_mul_right _ h
          rw [Nat.add_mul, Nat.one_mul] at this; omega)
  exact ⟨b, _, _, hb, hrun, p2, p1, .any p3⟩

theorem pvs_eq : ∀ {cs : List AC} {ps : List PV}, pvs cs = some ps → cs = pvL ps
  | [], ps, h => by cases h; rfl
  | c :: cs, ps, h => by
    cases c with
    | pv p =>
      simp only [pvs] at h
      cases hq : pvs cs with
      | none => simp [hq] at h
      | some qs => simp [hq] at h; subst h; rw [pvs_eq hq]; rfl
    | _ => simp [pvs] at h

theorem ok_store {t : TypeId} {x y : AT} {h : Option Hint} {z : AT} {os' : Objs} {O : List Prop} {u v : Value} (he : evStore P st t x y h = some (z, os', O)) (hO : All O)
    (hs : Sr GL w I G st.os) (hx : ATr w I G (shape st.os) x u) (hy : ATr w I G (shape st.os) y v) :
    z = .tup [] ∧ ∃ w' G', (Instr.storeAt t u v).run P w = .ok () w' ∧ Ext w w' I I (Mine G st.os) (Mine G' os') ∧ Sr GL w' I G' os' ∧ Moves [] st os' w w' I I G G' := by
  unfold evStore at he
  split at he
  · rename_i id n i j g xs m hm
    split at he
    · cases he
    · rename_i hxl
      have hxl := Nat.eq_of_beq_eq_true hxl
      have hyc : CSr w I G (shape st.os) xs v.cells.toList := Vr.cells hy
      split at he
      · rename_i cs hl
        split at he
        · rename_i h1 h2 h3
          have h1 := Nat.eq_of_beq_eq_true h1; have h2 := Nat.eq_of_beq_eq_true h2; have h3 := Nat.le_of_ble_eq_true h3
          subst h1; subst h2; cases he
          obtain ⟨b, w', G', hb, hrun, r⟩ := store_obj (P := P) (i := 0) (j := j) (es := cs) (o' := .box (splice cs j xs)) hs hl rfl hm hyc hxl (by simpa [Obj.s] using h3)
            (by simp [Obj.s, splice_length cs xs j (by omega)]) (by simp [Obj.els]) (fun k => by cases k <;> simp [Obj.els])
          rw [((atr_one hx).2 _ _ (shape_look hl)).2 rfl b hb]
          exact ⟨rfl, w', G', hrun, r⟩
        · cases he
      · rename_i s els ps hl
        split at he
        · rename_i qs h3 hq
          have h3 := Nat.le_of_ble_eq_true h3
          cases he
          obtain ⟨hn, hi, _⟩ := hO
          have hilt : i < els.length := (List.getElem?_eq_some_iff.1 hi).1
          obtain ⟨b, w', G', hb, hrun, r⟩ := store_obj (P := P) (i := i) (j := j) (es := pvL ps) (o' := .arr s (els.set i qs)) hs hl (by simp [Obj.els, hi]) hm hyc hxl (by simpa [Obj.s] using h3)
            rfl (by simp [Obj.els]) (fun k => by
              simp only [Obj.els, List.getElem?_map, List.getElem?_set]
              by_cases e : i = k
              · subst e; simp [hilt, pvs_eq hq]
              · simp [e, Ne.symm e])
          rw [((atr_one hx).2 _ _ (shape_look hl)).2 (by simp [Obj.els, hn]) b hb]
          exact ⟨rfl, w', G', hrun, r⟩
        · cases he
      · cases he
  · cases he
end Go.AL
