/- The evaluator is right: append. -/
import Derived.Test.YthilboheomikjaaGreatDoorA7
namespace Go.AL
set_option linter.unusedVariables false
set_option linter.unusedSimpArgs false
variable {P : Program} {GL : List (Nat × List PV)} {st : S} {w : World} {I : Nat → Prop} {G : Nat → Option Nat} {N : Nat} {a : Act}

theorem div_lt {k n s : Nat} (h : k < n * s) : k / s < n ∧ k % s < s ∧ k / s * s + k % s = k := by
  have hs : 0 < s := by
    rcases Nat.eq_zero_or_pos s with h0 | h0
    · subst h0; omega
    · exact h0
  refine ⟨(Nat.div_lt_iff_lt_mul hs).2 h, Nat.mod_lt _ hs, by rw [Nat.mul_comm]; exact Nat.div_add_mod k s⟩

/-- the cells of a slice that is read -/
theorem first_cells {els : List (List PV)} {v : Value} {s : Nat} (h : PVr w I (.sl els) v) (hu : ∀ es, es ∈ els → es.length = s) :
    ∃ (A : Option Addr) (c : Nat) (vs : List Value), v = .slice A els.length c ∧ vs.length = els.length * s ∧ (∀ w', (∀ k, I k → w'.heap[k]? = w.heap[k]?) → (Builtin.firstCells s els.length v).run P w' = .ok vs.toArray w') ∧ (∀ x ∈ vs, x.oneCell' = true) ∧
      ∀ (i : Nat) (es : List PV) (j : Nat) (p : PV), els[i]? = some es → es[j]? = some p → ∃ x, vs[i * s + j]? = some x ∧ PVr w I p x := by
  cases h with
  | sl0 A c =>
    refine ⟨A, c, [], rfl, by simp, fun w' _ => ?_, by simp, fun i es j p h => by simp at h⟩
    cases A with
    | none => simp [Builtin.firstCells]
    | some a => simp [Builtin.firstCells, loadCells, loadCellsFrom]
  | sl els b o c s' vals hI hc hs hm hr =>
    have hss : ∀ (i : Nat) (es : List PV), els[i]? = some es → es.length = s := fun i es he => hu es (List.mem_of_getElem? he)
    have hstr : els.length = 0 ∨ s' = s := by
      cases he : els[0]? with
      | none => left; have := List.getElem?_eq_none_iff.1 he; omega
      | some es => right; rw [← hs 0 es he, hss 0 es he]
    refine ⟨_, c, (List.range (els.length * s)).map (fun k => vals (k / s) (k % s)), rfl, by simp, fun w' hw => ?_, fun x hx => ?_, fun i es j p he hp => ?_⟩
    · have := run_loadCells (P := P) w' ⟨b, o, none⟩ (els.length * s) (fun k => vals (k / s) (k % s)) (fun k hk => by
        obtain ⟨h1, h2, h3⟩ := div_lt hk
        have hes := List.getElem?_eq_getElem h1
        have hlen := hss _ _ hes
        have hp := List.getElem?_eq_getElem (l := els[k / s]) (i := k % s) (by rw [hlen]; exact h2)
        have := hm _ _ _ _ hes hp
        rcases hstr with h0 | h0
        · exact absurd h1 (by rw [h0]; exact Nat.not_lt_zero _)
        · subst h0
          rw [h3] at this
          rw [addr_add]
          unfold World.cell? at this ⊢; rw [hw b hI]; exact this)
      exact this
    · obtain ⟨k, hk, rfl⟩ := List.mem_map.1 hx
      obtain ⟨h1, h2, h3⟩ := div_lt (List.mem_range.1 hk)
      have hes := List.getElem?_eq_getElem h1
      have hlen := hss _ _ hes
      have hp := List.getElem?_eq_getElem (l := els[k / s]) (i := k % s) (by rw [hlen]; exact h2)
      exact one' (hr _ _ _ _ hes hp).one
    · have hlt : i < els.length := (List.getElem?_eq_some_iff.1 he).1
      have hjs : j < s := by rw [← hss i es he]; exact (List.getElem?_eq_some_iff.1 hp).1
      have hb : i * s + j < els.length * s := by
        have : (i + 1) * s ≤ els.length * s := Nat.mul_le_mul_right _ hlt
        rw [Nat.add_mul, Nat.one_mul] at this; omega
      refine ⟨vals i j, ?_, hr i es j p he hp⟩
      rw [List.getElem?_map, List.getElem?_range hb]
      have hs0 : 0 < s := by omega
      have e1 : (i * s + j) / s = i := by rw [Nat.mul_comm, Nat.mul_add_div hs0, Nat.div_eq_of_lt hjs, Nat.add_zero]
      have e2 : (i * s + j) % s = j := by rw [Nat.mul_comm, Nat.mul_add_mod, Nat.mod_eq_of_lt hjs]
      simp [e1, e2]

theorem cap_bound {need cap : Nat} (h : cap < need) (hb : need ≤ 1073741824) : Builtin.nextslicecap need cap ≤ 4294967296 := by
  unfold Builtin.nextslicecap
  have g : ∀ (r c : Nat), c ≤ 1073741824 → Builtin.growBy need r c ≤ 4294967296 := by
    intro r
    induction r with
    | zero => intro c hc; simp [Builtin.growBy]; omega
    | succ r ih =>
      intro c hc
      simp only [Builtin.growBy]
      split
      · omega
      · by_cases h2 : c + (c + 768) / 4 ≤ 1073741824
        · exact ih _ h2
        · cases r with
          | zero => simp [Builtin.growBy]; omega
          | succ r => simp only [Builtin.growBy]; rw [if_pos (by omega)]; omega
  split
  · omega
  · split
    · omega
    · exact g 4 cap (by omega)

theorem zeroT_run {t : TypeId} {z : List AC} (h : zeroT P t = some z) (w : World) : ∃ v, (zeroValue t).run P w = .ok v w ∧ CSr w I G (shape st.os) z v.cells.toList := by
  unfold zeroT at h
  cases hi : P.info? t with
  | none => simp [hi] at h
  | some i =>
    simp [hi] at h
    cases hz : i.zero with
    | none => simp [hz] at h
    | some v =>
      simp [hz] at h
      exact ⟨v, by simp [zeroValue, typeInfo, hi, hz], constCS_r h⟩

theorem bytesT_run {t : TypeId} {n : Nat} (h : bytesT P t = some n) (w : World) : ∃ i, (typeInfo t).run P w = .ok i w ∧ i.bytes = n := by
  unfold bytesT at h
  cases hi : P.info? t with
  | none => simp [hi] at h
  | some i => simp [hi] at h; exact ⟨i, by simp [typeInfo, hi], h⟩

theorem pvL_get {ps : List PV} {j : Nat} {c : AC} (h : (pvL ps)[j]? = some c) : ∃ p, ps[j]? = some p ∧ c = .pv p := by
  unfold pvL at h
  rw [List.getElem?_map] at h
  cases hp : ps[j]? with
  | none => rw [hp] at h; cases h
  | some p => rw [hp] at h; cases h; exact ⟨p, rfl, rfl⟩

theorem pvL_length (ps : List PV) : (pvL ps).length = ps.length := by simp [pvL]

theorem slot_lt {i j n s : Nat} (hi : i < n) (hj : j < s) : i * s + j < n * s := by
  have : (i + 1) * s ≤ n * s := Nat.mul_le_mul_right _ hi
  rw [Nat.add_mul, Nat.one_mul] at this; omega

theorem Sr.congr {os os' : Objs} (hs : Sr GL w I G os) (h : ∀ k, look os' k = look os k) : Sr GL w I G os' := by
  have hsh : shape os' = shape os := by funext k; simp [shape, h]
  refine ⟨hs.gl, fun k o h1 h2 => hs.none_ k o (by rw [← h]; exact h1) h2, fun k o b h1 h2 => ?_, fun k k' o o' b h1 h2 => hs.inj k k' o o' b (by rw [← h]; exact h1) (by rw [← h]; exact h2), hs.lt⟩
  rw [hsh]; exact hs.blk k o b (by rw [← h]; exact h1) h2

theorem Ext.congr {os os' : Objs} (h : ∀ k, look os' k = look os k) : Ext w w I I (Mine G os) (Mine G os') :=
  ⟨Nat.le_refl _, rfl, rfl, rfl, fun _ _ _ => rfl, fun _ h => h, fun _ h => .inl h, fun k ⟨id, o, h1, h2⟩ => .inl ⟨id, o, by rw [← h]; exact h1, h2⟩⟩

theorem ok_append {t t' : TypeId} {x y : AT} {z : AT} {os' : Objs} {O : List Prop} {u v : Value} {d : TypeId} (he : evAppend P st t x y = some (z, os', O)) (hO : All O)
    (ht' : P.underlying t' = some (.slice d)) (hs : Sr GL w I G st.os) (hx : ATr w I G (shape st.os) x u) (hy : ATr w I G (shape st.os) y v) (ty : TypeId) :
    ∃ r w' G', (Builtin.append_ #[t, t'] ty #[u, v]).run P w = .ok r w' ∧ Ext w w' I I (Mine G st.os) (Mine G' os') ∧ Sr GL w' I G' os' ∧ ATr w' I G' (shape os') z r ∧ Moves [] st os' w w' I I G G' := by
  unfold evAppend at he
  split at he
  · rename_i e id n new hel
    have hu := elemT_eq hel
    split at he
    · rename_i s els s' by_ zz hl hsz hby hz
      split at he
      · rename_i hss hb2
        have hss := Nat.eq_of_beq_eq_true hss; subst hss
        simp only [Bool.and_eq_true] at hb2
        have hbb := Nat.le_of_ble_eq_true hb2.1
        have hzl := Nat.eq_of_beq_eq_true hb2.2
        cases he
        obtain ⟨hn, hbound, hun, _⟩ := hO
        subst hn
        have hy1 : PVr w I (.sl new) v := atr_one hy
        obtain ⟨A2, c2, vs, rfl, hvl, hfirst, hones, hvs⟩ := first_cells (P := P) hy1 hun
        obtain ⟨⟨A, c, rfl⟩, hv⟩ := atr_one hx
        have hsh := shape_look hl
        have hv2 := (hv _ _ hsh).2 (by simp [Obj.els])
        have hsetlen : ((Obj.arr s (els ++ new)).els).length = els.length + new.length := by simp [Obj.els]
        -- what a new or grown block holds
        have hcont : ∀ (old : List Value), old.length = els.length * s → (∀ (i : Nat) (es : List AC) (j : Nat) (c : AC), (Obj.arr s els).els[i]? = some es → es[j]? = some c → ∃ v, old[i * s + j]? = some v ∧ ACr w I G (shape st.os) c v) →
            ∀ (rest : List Value) (i : Nat) (es : List AC) (j : Nat) (c : AC), (Obj.arr s (els ++ new)).els[i]? = some es → es[j]? = some c → ∃ v, (old ++ vs ++ rest)[i * s + j]? = some v ∧ ACr w I G (shape st.os) c v := by
          intro old hol hold rest i es j c hes hc
          simp only [Obj.els, List.getElem?_map, List.getElem?_append] at hes
          by_cases hi : i < els.length
          · rw [if_pos hi] at hes
            obtain ⟨v, hv, hr⟩ := hold i es j c (by simp only [Obj.els, List.getElem?_map]; exact hes) hc
            refine ⟨v, ?_, hr⟩
            have := (List.getElem?_eq_some_iff.1 hv).1
            rw [List.append_assoc, List.getElem?_append_left this]; exact hv
          · rw [if_neg hi] at hes
            cases hp : new[i - els.length]? with
            | none => rw [hp] at hes; cases hes
            | some ps =>
              rw [hp] at hes; cases hes
              obtain ⟨p, hpj, rfl⟩ := pvL_get hc
              obtain ⟨v, hv, hr⟩ := hvs _ _ _ _ hp hpj
              refine ⟨v, ?_, hr⟩
              have h1 := (List.getElem?_eq_some_iff.1 hv).1
              have hge : els.length * s ≤ i * s := Nat.mul_le_mul_right _ (by omega)
              rw [Nat.sub_mul] at hv h1
              rw [List.append_assoc, List.getElem?_append_right (by omega), List.getElem?_append_left (by omega), hol, ← hv]
              congr 1; omega
        have hunif : (∀ (i : Nat) (es : List AC), (Obj.arr s els).els[i]? = some es → es.length = s) → ∀ (i : Nat) (es : List AC), (Obj.arr s (els ++ new)).els[i]? = some es → es.length = (Obj.arr s (els ++ new)).s := by
          intro hold i es hes
          simp only [Obj.els, List.getElem?_map, List.getElem?_append] at hes
          by_cases hi : i < els.length
          · rw [if_pos hi] at hes; exact hold i es (by simp only [Obj.els, List.getElem?_map]; exact hes)
          · rw [if_neg hi] at hes
            cases hp : new[i - els.length]? with
            | none => rw [hp] at hes; cases hes
            | some ps => rw [hp] at hes; cases hes; rw [pvL_length]; exact hun _ (List.mem_of_getElem? hp)
        have hzeros : ∀ w, (match (#[t, t'] : Array TypeId)[1]? with | some xType => (do pure ((← underlying xType) matches .int _) : Sem Bool) | none => pure false).run P w = .ok false w := by
          intro w; simp [run_underlying ht']
        obtain ⟨inf, hinf, hinfb⟩ := bytesT_run hby w
        -- the part that is the same whatever the capacity
        have hgrow : ∀ (base : Option Addr) (cap : Nat) (old : List Value), 0 < new.length → cap < els.length + new.length → (∀ w', (∀ k, k < w.heap.size → w'.heap[k]? = w.heap[k]?) → (Builtin.firstCells s els.length (.slice base els.length cap)).run P w' = .ok old.toArray w') →
            old.length = els.length * s → (∀ (i : Nat) (es : List AC) (j : Nat) (c : AC), (Obj.arr s els).els[i]? = some es → es[j]? = some c → ∃ v, old[i * s + j]? = some v ∧ ACr w I G (shape st.os) c v) →
            (∀ (i : Nat) (es : List AC), (Obj.arr s els).els[i]? = some es → es.length = s) →
            ∃ r w' G', (Builtin.append_ #[t, t'] ty #[.slice base els.length cap, .slice A2 new.length c2]).run P w = .ok r w' ∧ Ext w w' I I (Mine G st.os) (Mine G' (setO st.os id (.arr s (els ++ new)))) ∧
              Sr GL w' I G' (setO st.os id (.arr s (els ++ new))) ∧ ATr w' I G' (shape (setO st.os id (.arr s (els ++ new)))) (.val false [.arr id (els.length + new.length)]) r ∧ Moves [] st (setO st.os id (.arr s (els ++ new))) w w' I I G G' := by
          intro base cap old hpos hcap hfc hol hold huold
          have hw1 : ∀ k, k < w.heap.size → (w.drew).heap[k]? = w.heap[k]? := fun _ _ => rfl
          have hv1 := hfirst w.drew (fun _ _ => rfl)
          have ho1 := hfc w.drew hw1
          obtain ⟨zv, hzv, hzc⟩ := zeroT_run (I := I) (G := G) (st := st) hz w.drew
          have hzl' : zv.cells.size = s := by rw [← Array.length_toList, hzc.length, hzl]
          let q : Question := .appendCap (els.length + new.length) cap e
          let nc : Nat := q.cut (w.tape w.drawn q)
          have hnc : els.length + new.length ≤ nc := by simp only [nc, q, Question.cut]; omega
          let rest := Builtin.zeroCells zv.cells (nc - (els.length + new.length))
          have hrest : rest.size = (nc - (els.length + new.length)) * s := by simp [rest, Builtin.zeroCells, hzl']
          have hrun : (Builtin.append_ #[t, t'] ty #[.slice base els.length cap, .slice A2 new.length c2]).run P w =
              .ok (.slice (some ⟨w.heap.size, 0, none⟩) (els.length + new.length) nc) ((w.drew).alloc (.cells (old.toArray ++ vs.toArray ++ rest) e)) := by
            have hz2 : (underlying t').run P w = .ok (.slice d) w := run_underlying ht' w
            have hi1 : ¬ ((els.length + new.length : Nat) : Int) > IntKind.i64.max := by
              rw [show IntKind.i64.max = 9223372036854775807 from by kernel_rfl]; omega
            have hcb := cap_bound hcap hbound
            have hcb2 : ¬ Builtin.nextslicecap (els.length + new.length) cap * inf.bytes > 2 ^ 48 := by
              rw [hinfb]
              have : Builtin.nextslicecap (els.length + new.length) cap * by_ ≤ 4294967296 * 4096 := Nat.mul_le_mul hcb hbb
              omega
            have hinf2 : (typeInfo e).run P w.drew = .ok inf w.drew := by
              cases hi : P.info? e with
              | none => simp [typeInfo, hi] at hinf
              | some i => simp [typeInfo, hi] at hinf ⊢; exact hinf
            have hq : q.forced = false := rfl
            have hch : (choose q).run P w = .ok nc w.drew := by rw [run_choose, hq]; rfl
            simp only [Builtin.append_, List.getElem?_toArray, List.getElem?_cons_zero, List.getElem?_cons_succ, Sem.run_bind, run_underlying hu, Result.andThen_ok, run_sizeT hsz, hz2, Sem.run_pure, Bool.false_eq_true, if_false,
              Builtin.lenOf]
            rw [if_neg (by omega), Sem.run_bind, hinf, Result.andThen_ok]
            simp only [Sem.run_ite, Sem.run_bind, hinf, Result.andThen_ok, hi1, false_and, if_false, hcb2]
            rw [show (choose (Question.appendCap (els.length + new.length) cap e)).run P w = .ok nc w.drew from hch]
            simp only [Result.andThen_ok, Sem.run_bind, hinf2, run_askRoom, ho1, hv1, hzv, Bool.not_false, if_true, Sem.run_pure, newRow, run_newObj]
            rfl
          refine ⟨_, _, upd G id (some w.heap.size), hrun, ?_⟩
          have hheap : ((w.drew).alloc (.cells (old.toArray ++ vs.toArray ++ rest) e)).heap[w.heap.size]? = some (.cells (old ++ vs ++ rest.toList).toArray e (0, 0)) := by
            show (w.heap.push _)[w.heap.size]? = _
            simp
          have hszw : ((w.drew).alloc (.cells (old.toArray ++ vs.toArray ++ rest) e)).heap.size = w.heap.size + 1 := by show (w.heap.push _).size = _; simp
          have hcs : (old ++ vs ++ rest.toList).toArray.size = nc * s := by
            simp only [List.size_toArray, List.length_append, Array.length_toList, hol, hvl, hrest, ← Nat.add_mul]
            congr 1; omega
          obtain ⟨p1, p2, p3⟩ := hs.put (o := .arr s els) (o' := .arr s (els ++ new)) (w' := (w.drew).alloc (.cells (old.toArray ++ vs.toArray ++ rest) e)) (b' := w.heap.size) (E := e) hl rfl (by simp [Obj.els])
            (fun k hk _ => by show (w.heap.push _)[k]? = _; rw [Array.getElem?_push, if_neg (by omega)]) hheap (.inr (Nat.le_refl _))
            (fun h => by
              rw [hsetlen] at h; simp only [Obj.els, List.length_map] at h; omega)
            (by omega) rfl rfl rfl (by rw [hcs, hsetlen]; exact Nat.mul_le_mul_right _ hnc) (hunif huold)
            (fun i es j c h1 h2 => by rw [List.getElem?_toArray]; exact hcont old hol hold rest.toList i es j c h1 h2)
          refine ⟨p2, p1, ⟨_, rfl, ⟨_, _, rfl⟩, fun s' m' hs' => ?_⟩, .any p3⟩
          rw [shape_setO (o := .arr s els) (o' := .arr s (els ++ new)) hl rfl, if_pos rfl, hsetlen] at hs'; cases hs'
          refine ⟨Nat.le_refl _, fun _ => ?_⟩
          simp only [upd, if_true]
          refine ⟨nc, rfl, hnc, ?_⟩
          simp only [bsize, hheap]; rw [hcs]; exact Nat.le_refl _
        cases hb : G id with
        | none =>
          rw [hb] at hv2
          have hnil := hs.none_ id _ hl hb
          simp [Obj.els] at hnil; subst hnil
          simp only [List.length_nil, Value.slice.injEq, true_and] at hv2
          obtain ⟨rfl, rfl⟩ := hv2
          by_cases hk : new.length = 0
          · have hnew : new = [] := List.length_eq_zero_iff.1 hk
            subst hnew
            have hlk : ∀ k, look (setO st.os id (.arr s ([] ++ []))) k = look st.os k := fun k => by
              rw [look_setO]; split
              · rename_i e; subst e; rw [hl]; rfl
              · rfl
            have hv1 := hfirst w (fun _ _ => rfl)
            have hvs0 : vs = [] := List.length_eq_zero_iff.1 (by rw [hvl]; simp)
            subst hvs0
            have hsh2 : shape (setO st.os id (.arr s ([] ++ []))) = shape st.os := by funext k; simp only [shape, hlk]
            refine ⟨.slice none 0 0, w, G, ?_, .congr hlk, hs.congr hlk, ?_, .any (by rw [hsh2]; exact .refl _ _ _ _ _)⟩
            · simp only [List.length_nil] at hv1
              simp only [Builtin.append_, List.getElem?_toArray, List.getElem?_cons_zero, List.getElem?_cons_succ, Sem.run_bind, run_underlying hu, Result.andThen_ok, run_sizeT hsz, run_underlying ht', Sem.run_pure, Bool.false_eq_true, if_false,
                Builtin.lenOf, List.length_nil, Nat.add_zero, Nat.le_refl, if_true, hv1, Bool.not_false]
            · rw [hsh2]; exact hx
          · exact hgrow none 0 [] (by omega) (by simp; omega) (fun w' _ => by simp [Builtin.firstCells]) (by simp) (fun i es j c h => by simp [Obj.els] at h) (fun i es h => by simp [Obj.els] at h)
        | some b =>
          rw [hb] at hv2
          obtain ⟨c', e2, hcap, hcs⟩ := hv2
          cases e2
          obtain ⟨_, cur, E, hh, hsize, huold, hcold⟩ := hs.blk id _ b hl hb
          have hbsz : bsize w b = cur.size := by simp [bsize, hh]
          rw [hbsz] at hcs
          simp only [Obj.s] at hcs
          by_cases hroom : els.length + new.length ≤ c
          · have hle : els.length * s + vs.length ≤ cur.size := by
              rw [hvl, ← Nat.add_mul]; exact Nat.le_trans (Nat.mul_le_mul_right _ hroom) hcs
            have hle' : els.length * s + vs.length ≤ cur.toList.length := by simpa using hle
            have hst := run_storeCells_at (P := P) b (els.length * s) E vs 0 cur w hh (by simpa using hle) hones
            simp only [Nat.add_zero] at hst
            have hnew := setRow_heap w b cur (cur.toList.take (els.length * s) ++ vs ++ cur.toList.drop (els.length * s + vs.length)).toArray E (0, 0) hh
            have hnl : (cur.toList.take (els.length * s) ++ vs ++ cur.toList.drop (els.length * s + vs.length)).toArray.size = cur.size := by
              have e : cur.toList.length = cur.size := by simp
              simp only [List.size_toArray, List.length_append, List.length_take, List.length_drop]; omega
            have holdl : (cur.toList.take (els.length * s)).length = els.length * s := by simp; omega
            have hold : ∀ (i : Nat) (es : List AC) (j : Nat) (c : AC), (Obj.arr s els).els[i]? = some es → es[j]? = some c → ∃ v, (cur.toList.take (els.length * s))[i * s + j]? = some v ∧ ACr w I G (shape st.os) c v := by
              intro i es j c1 h1 h2
              obtain ⟨v, hv, hr⟩ := hcold i es j c1 h1 h2
              have hi : i < els.length := by have := (List.getElem?_eq_some_iff.1 h1).1; simpa [Obj.els] using this
              have hj : j < s := by have := (List.getElem?_eq_some_iff.1 h2).1; rw [huold i es h1] at this; exact this
              exact ⟨v, by rw [List.getElem?_take_of_lt (slot_lt hi hj), Array.getElem?_toList]; exact hv, hr⟩
            obtain ⟨p1, p2, p3⟩ := hs.put (o := .arr s els) (o' := .arr s (els ++ new)) (w' := w.setRow b (cur.toList.take (els.length * s) ++ vs ++ cur.toList.drop (els.length * s + vs.length)).toArray) (b' := b) (E := E) hl rfl (by simp [Obj.els])
              (fun k hk hne => setRow_keep w b k _ (fun e => hne (by rw [hb, e]))) hnew (.inl hb) (fun _ => ⟨hb, by rw [hnl, hbsz]; exact Nat.le_refl _⟩) (by rw [setRow_sz]; exact Nat.le_refl _) rfl rfl rfl
              (by rw [hnl, hsetlen]; exact Nat.le_trans (Nat.mul_le_mul_right _ hroom) hcs) (hunif huold)
              (fun i es j c1 h1 h2 => by rw [List.getElem?_toArray]; exact hcont _ holdl hold _ i es j c1 h1 h2)
            refine ⟨.slice (some ⟨b, 0, none⟩) (els.length + new.length) c, _, upd G id (some b), ?_, p2, p1, ⟨_, rfl, ⟨_, _, rfl⟩, fun s' m' hs' => ?_⟩, .any p3⟩
            · have hv1 := hfirst w (fun _ _ => rfl)
              simp only [Builtin.append_, List.getElem?_toArray, List.getElem?_cons_zero, List.getElem?_cons_succ, Sem.run_bind, run_underlying hu, Result.andThen_ok, run_sizeT hsz, run_underlying ht', Sem.run_pure, Bool.false_eq_true, if_false,
                Builtin.lenOf]
              rw [if_pos hroom]
              simp only [Sem.run_bind, hv1, Result.andThen_ok, Bool.not_false, if_true, addr_add, Nat.zero_add, hst, Sem.run_pure]
            · rw [shape_setO (o := .arr s els) (o' := .arr s (els ++ new)) hl rfl, if_pos rfl, hsetlen] at hs'; cases hs'
              refine ⟨Nat.le_refl _, fun _ => ?_⟩
              simp only [upd, if_true]
              refine ⟨c, rfl, hroom, ?_⟩
              simp only [bsize, hnew]; rw [hnl]; exact hcs
          · refine hgrow (some ⟨b, 0, none⟩) c (cur.toList.take (els.length * s)) (by omega) (by omega) (fun w' hw' => ?_) (by simp only [List.length_take, Array.length_toList]; exact Nat.min_eq_left (by simpa [Obj.els, Obj.s] using hsize)) (fun i es j c1 h1 h2 => ?_) huold
            · have hlb : b < w.heap.size := (Array.getElem?_eq_some_iff.1 hh).1
              have := run_loadCells_list (P := P) w' ⟨b, 0, none⟩ (cur.toList.take (els.length * s)) (fun j v hj => by
                have hj2 := (List.getElem?_eq_some_iff.1 hj).1
                simp only [List.length_take] at hj2
                rw [List.getElem?_take_of_lt (by omega), Array.getElem?_toList] at hj
                rw [addr_add, Nat.zero_add]
                simp [World.cell?, hw' b hlb, hh, hj])
              have hlen : (cur.toList.take (els.length * s)).length = els.length * s := by
                simp only [List.length_take, Array.length_toList]; exact Nat.min_eq_left (by simpa [Obj.els, Obj.s] using hsize)
              rw [hlen] at this
              exact this
            · obtain ⟨v, hv, hr⟩ := hcold i es j c1 h1 h2
              have hi : i < els.length := by have := (List.getElem?_eq_some_iff.1 h1).1; simpa [Obj.els] using this
              have hj : j < s := by have := (List.getElem?_eq_some_iff.1 h2).1; rw [huold i es h1] at this; exact this
              exact ⟨v, by rw [List.getElem?_take_of_lt (slot_lt hi hj), Array.getElem?_toList]; exact hv, hr⟩
      · cases he
    · cases he
  · cases he
end Go.AL
