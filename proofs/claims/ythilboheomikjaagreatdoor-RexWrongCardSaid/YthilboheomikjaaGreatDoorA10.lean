/- The evaluator is right: each operation but a call of a Go function. -/
import Derived.Test.YthilboheomikjaaGreatDoorA9
import Derived.Laws.StructEq
namespace Go.AL
variable {D : List Deferred}
set_option linter.unusedVariables false
set_option linter.unusedSimpArgs false
variable {P : Program} {GL : List (Nat × List PV)} {C : Spec} {st : S} {w : World} {I : Nat → Prop} {G : Nat → Option Nat} {N : Nat} {a : Act}

def makes : Option Hint → List Nat
  | some (.obj id) => [id]
  | some (.call _ _ _ new) => new
  | _ => []

theorem Moves.weak {st : S} {os' : Objs} {w' : World} {I' : Nat → Prop} {G' : Nat → Option Nat} {cr : List Nat} (h : Moves [] st os' w w' I I' G G') : Moves cr st os' w w' I I' G G' := ⟨h.keeps, h.env, h.any_.weaken fun _ _ => by simp⟩

theorem Good.of {cr : List Nat} {x : AT} {os' : Objs} {w' : World} {I' : Nat → Prop} {G' : Nat → Option Nat} {v : Value} {r : Result Next} (hr : r = .ok (.value v) w') (h1 : Ext w w' I I' (Mine G st.os) (Mine G' os')) (h2 : Sr GL w' I' G' os')
    (h3 : ATr w' I' G' (shape os') x v) (h4 : Moves cr st os' w w' I I' G G') : Good GL cr st x os' w I G r := ⟨_, v, w', I', G', hr, .inl rfl, h1, h2, h3, h4⟩

theorem newO_eq {id : Nat} {o : Obj} {x y : AT} {O O' : List Prop} {os' : Objs} (h : newO st id o x O = some (y, os', O')) : fresh id st = true ∧ y = x ∧ os' = (id, o) :: st.os ∧ O' = O := by
  unfold newO at h
  split at h
  · cases h; exact ⟨‹_›, rfl, rfl, rfl⟩
  · cases h

theorem constCS_refs {R : Nat → Prop} : ∀ {vs : List Value} {cs : List AC}, constCS vs = some cs → refsL R cs
  | [], cs, h => by cases h; trivial
  | v :: vs, cs, h => by
    simp only [constCS] at h
    split at h
    · rename_i p ps h1 h2; cases h; exact ⟨trivial, constCS_refs h2⟩
    · cases h

theorem opd_refs {id : Nat} {y : Operand} {x : AT} (hf : fresh id st = true) (h : opd GL st y = some x) : x.refs (· ≠ id) := by
  cases y with
  | tmp t => exact (fresh_ok hf).2.2.1 t x h
  | const v =>
    simp only [opd, constAT] at h
    split at h
    · rename_i cs
      cases h1 : constCS cs with
      | none => simp [h1] at h
      | some l => simp [h1] at h; subst h; exact constCS_refs h1
    · cases h1 : constPV v with
      | none => simp [h1] at h
      | some p => simp [h1] at h; subst h; exact ⟨trivial, trivial⟩
  | func f => cases h; exact ⟨trivial, trivial⟩
  | global g =>
    simp only [opd] at h
    cases hg : look GL g with
    | none => simp [hg] at h
    | some ps => simp [hg] at h; subst h; exact ⟨trivial, trivial⟩

theorem map_some {α β : Type} {f : α → β} {o : Option α} {y : β} (h : o.map f = some y) : ∃ x, o = some x ∧ f x = y := by
  cases o with
  | none => cases h
  | some x => exact ⟨x, rfl, by simpa using h⟩

theorem bool_of {b : Bool} {v : Value} {sh : Sh} (h : ATr w I G sh (.val false [.pv (.bool b)]) v) : v = .bool b := by
  have h1 : PVr w I (.bool b) v := atr_one h
  cases h1; rfl

theorem run_equalIn_bool {t : TypeId} (ht : P.underlying t = some .bool) (d : Nat) (b c : Bool) (w : World) : (Op.equalIn (d + 1) t (.bool b) (.bool c)).run P w = .ok (b == c) w := by
  simp [Op.equalIn, run_underlying ht]

theorem ok_equal {t : TypeId} {x y : Value} {b c : Bool} (ht : P.underlying t = some .bool) (hx : x = .bool b) (hy : y = .bool c) (X Y : Operand) (op : BinOp) (hop : op = .eql ∨ op = .neq) :
    (do eqGuard op t X Y x y; binOp op t x y : Sem Value).run P w = .ok (.bool (match op with | .neq => !(b == c) | _ => b == c)) w := by
  subst hx; subst hy
  have h1 : (Op.equal t (.bool b) (.bool c)).run P w = .ok (b == c) w := run_equalIn_bool ht 9999 b c w
  rcases hop with rfl | rfl
  · simp only [Sem.run_bind, eqGuard_bool, Result.andThen_ok, binOp, h1, Sem.run_pure]
  · simp only [Sem.run_bind, eqGuard_bool, Result.andThen_ok, binOp, h1, Sem.run_pure]

theorem eqPV_ok {p q : PV} {b : Bool} {t : TypeId} (h : eqPV p q = some b) (ht : fitsEq P t p = true) {x y : Value} (hx : PVr w I p x) (hy : PVr w I q y) (d : Nat) : (Op.equalIn (d + 1) t x y).run P w = .ok b w := by
  cases hx <;> cases hy <;> simp only [eqPV] at h <;> try cases h
  · rename_i a c
    simp only [fitsEq] at ht
    split at ht
    · rename_i hu; exact run_equalIn_bool' w d t _ _ hu
    · cases ht
  · rename_i k a k' c
    split at h
    · rename_i hk
      cases h
      have : k = k' := by cases k <;> cases k' <;> first | rfl | cases hk
      subst this
      simp only [fitsEq] at ht
      split at ht
      · rename_i k2 hu; exact run_equalIn_int w d t k k2 a c hu
      · cases ht
    · cases h
  · rename_i a c
    simp only [fitsEq] at ht
    split at ht
    · rename_i hu
      rw [run_equalIn_string w d t _ _ hu]
      simp only [ByteArray.toList_eq]
    · cases ht

theorem eqFs_ok {cs ds : List AC} {xs ys : List Value} (hx : CSr w I G (shape st.os) cs xs) (hy : CSr w I G (shape st.os) ds ys) (d : Nat) : ∀ {fs : List Field} {r : Bool}, eqFs P cs ds fs = some r → (Op.eqFields (d + 1) ⟨xs⟩ ⟨ys⟩ fs).run P w = .ok r w
  | [], r, h => by cases h; rfl
  | f :: l, r, h => by
    simp only [eqFs] at h
    split at h
    · rename_i p q hn h1 h2
      split at h
      · rename_i b r2 e1 e2 e3
        cases h
        obtain ⟨v1, hv1, hr1⟩ := partA_part (P := P) (w := w) h1 hx
        obtain ⟨v2, hv2, hr2⟩ := partA_part (P := P) (w := w) h2 hy
        have hne : f.name ≠ "_" := by intro e; rw [e] at hn; exact absurd hn (by decide)
        have he := eqPV_ok (P := P) (w := w) (I := I) e1 e2 (atr_one hr1) (atr_one hr2) d
        have hrest := eqFs_ok hx hy d e3
        simp only [Op.eqFields, if_pos hne, Sem.run_bind, hv1, Result.andThen_ok, hv2, he]
        cases b
        · simp
        · simp [hrest]
      · cases h
    · cases h

theorem ok_eqS {op : BinOp} {t : TypeId} {cs ds : List AC} {x : AT} {os' : Objs} {O : List Prop} (he : evEqS P st op t cs ds = some (x, os', O)) {u v : Value} (hx : ATr w I G (shape st.os) (.val true cs) u) (hy : ATr w I G (shape st.os) (.val true ds) v) (X Y : Operand) :
    os' = st.os ∧ ∃ b, (do eqGuard op t X Y u v; binOp op t u v : Sem Value).run P w = .ok b w ∧ ATr w I G (shape st.os) x b := by
  obtain ⟨xs, rfl, hxs⟩ := hx
  obtain ⟨ys, rfl, hys⟩ := hy
  unfold evEqS at he
  split at he
  · rename_i fs hu hg hsi
    have hf : P.fieldsOf t = fs := by simp [Program.fieldsOf, hu]
    have hu2 : P.underlying t = some (.struct (P.fieldsOf t)) := by rw [hf]; exact hu
    split at he
    · rename_i b hb
      cases he
      have h1 : (Op.equalIn 10000 t (.agg ⟨xs⟩) (.agg ⟨ys⟩)).run P w = .ok b w := by rw [run_equalIn_agg w 9999 t _ _ hu2 hsi, hf]; exact eqFs_ok hxs hys 9998 hb
      refine ⟨rfl, .bool b, ?_, ⟨_, rfl, .bool _⟩⟩
      rw [Sem.run_bind, run_eqGuard_agg w _ t X Y _ _ hg, Result.andThen_ok, run_eql_struct, h1]; rfl
    · rename_i b hb
      cases he
      have h1 : (Op.equalIn 10000 t (.agg ⟨xs⟩) (.agg ⟨ys⟩)).run P w = .ok b w := by rw [run_equalIn_agg w 9999 t _ _ hu2 hsi, hf]; exact eqFs_ok hxs hys 9998 hb
      refine ⟨rfl, .bool (!b), ?_, ⟨_, rfl, .bool _⟩⟩
      rw [Sem.run_bind, run_eqGuard_agg w _ t X Y _ _ hg, Result.andThen_ok, run_neq_struct, h1]; rfl
    · cases he
  · cases he

theorem look_dropO' (os : Objs) (id k : Nat) : look (dropO os id) k = if k = id then none else look os k := by
  induction os with
  | nil => simp [dropO, look]
  | cons p os ih =>
    obtain ⟨i, o⟩ := p
    simp only [dropO]
    by_cases e : i = id
    · subst e; rw [Nat.beq_refl]; simp only [ih, look_cons]
      by_cases h : k = i
      · simp [h]
      · simp [h, Ne.symm h]
    · have : Nat.beq i id = false := by rw [← Bool.not_eq_true]; intro h'; exact e (Nat.eq_of_beq_eq_true h')
      rw [this]; simp only [look_cons, ih]
      by_cases h : i = k
      · subst h; simp [e]
      · simp [h]

theorem ok_shrink {t : TypeId} {id n id2 : Nat} {lo hi mx : Option Operand} {z : AT} {os' : Objs} {O : List Prop} {u : Value} (he : evShrink P GL st t id n id2 lo hi mx = some (z, os', O)) (hO : All O)
    (hs : Sr GL w I G st.os) (hf : Fr D w I G (shape st.os) N a st.env) (hx : ATr w I G (shape st.os) (.val false [.arr id n]) u) :
    ∃ r G', (Instr.sliceAt t u (lo.map a.eval) (hi.map a.eval) (mx.map a.eval)).run P w = .ok r w ∧ Ext w w I I (Mine G st.os) (Mine G' os') ∧ Sr GL w I G' os' ∧ ATr w I G' (shape os') z r ∧ Moves [id2] st os' w w I I G G' := by
  unfold evShrink at he
  split at he
  · rename_i e s els r hel hl hb
    split at he
    · rename_i s' hsz hfr hid
      split at he
      · rename_i hss
        have hss := Nat.eq_of_beq_eq_true hss; subst hss
        have hid := Nat.le_of_ble_eq_true hid
        cases he
        obtain ⟨hn, h0, h1, _⟩ := hO
        subst hn
        have hu := elemT_eq hel
        obtain ⟨f0, f1, f2, f3⟩ := fresh_ok hfr
        obtain ⟨⟨A, c, rfl⟩, hv⟩ := atr_one hx
        have hv2 := (hv _ _ (shape_look hl)).2 (by simp [Obj.els])
        have hne : id2 ≠ id := fun e => by subst e; rw [hl] at f1; cases f1
        have hlk : ∀ k, look ((id2, Obj.arr s (els.take r.toNat)) :: dropO st.os id) k = if k = id2 then some (.arr s (els.take r.toNat)) else if k = id then none else look st.os k := fun k => by
          rw [look_cons]
          by_cases e1 : id2 = k
          · rw [if_pos e1, if_pos e1.symm]
          · rw [if_neg e1, if_neg (Ne.symm e1), look_dropO']
        have hk : Keeps (· ≠ id2) w w I I G (upd G id2 (G id)) (shape st.os) (shape ((id2, .arr s (els.take r.toNat)) :: dropO st.os id)) := by
          refine ⟨fun k h => rfl, fun k h => h, fun k s m hne' hsh => ⟨m, ?_, Nat.le_refl _, fun _ => ⟨by simp [upd, hne'], fun b _ => Nat.le_refl _⟩⟩⟩
          simp only [shape, hlk, if_neg (show ¬ k = id2 from hne')] at hsh ⊢
          split at hsh
          · cases hsh
          · exact hsh
        have hlen : r.toNat ≤ els.length := by omega
        have hmine : ∀ k o b, look ((id2, Obj.arr s (els.take r.toNat)) :: dropO st.os id) k = some o → upd G id2 (G id) k = some b → ∃ k' o', look st.os k' = some o' ∧ G k' = some b ∧ (k = id2 → k' = id) ∧ (k ≠ id2 → k' = k ∧ k ≠ id ∧ o' = o) := fun k o b h1 h2 => by
          rw [hlk] at h1
          by_cases e1 : k = id2
          · rw [if_pos e1] at h1; simp only [upd, if_pos e1] at h2
            exact ⟨id, _, hl, h2, fun _ => rfl, fun h => absurd e1 h⟩
          · rw [if_neg e1] at h1; simp only [upd, if_neg e1] at h2
            split at h1
            · cases h1
            · exact ⟨k, o, h1, h2, fun h => absurd h e1, fun _ => ⟨rfl, ‹_›, rfl⟩⟩
        have hS : Sr GL w I (upd G id2 (G id)) ((id2, .arr s (els.take r.toNat)) :: dropO st.os id) := by
          refine ⟨hs.gl, fun k o h1 h2 => ?_, fun k o b h1 h2 => ?_, fun k k' o o' b h1 h2 h3 h4 => ?_, hs.lt⟩
          · rw [hlk] at h1
            by_cases e1 : k = id2
            · rw [if_pos e1] at h1; simp only [upd, if_pos e1] at h2; cases h1
              have := hs.none_ id _ hl h2
              simp only [Obj.els, List.map_eq_nil_iff] at this ⊢
              rw [this]; simp
            · rw [if_neg e1] at h1; simp only [upd, if_neg e1] at h2
              split at h1
              · cases h1
              · exact hs.none_ k o h1 h2
          · by_cases e1 : k = id2
            · rw [hlk, if_pos e1] at h1; simp only [upd, if_pos e1] at h2; cases h1
              obtain ⟨q1, cs, E, q2, q3, q4, q5⟩ := hs.blk id _ b hl h2
              have hget : ∀ (i : Nat) (es : List AC), (Obj.arr s (els.take r.toNat)).els[i]? = some es → (Obj.arr s els).els[i]? = some es := fun i es h => by
                simp only [Obj.els, List.getElem?_map, List.getElem?_take] at h ⊢
                split at h
                · exact h
                · cases h
              refine ⟨q1, cs, E, q2, Nat.le_trans (Nat.mul_le_mul_right _ (by simp [Obj.els]; omega)) q3, fun i es h => q4 i es (hget i es h), fun i es j c e1 e2 => ?_⟩
              obtain ⟨v, hv, hr⟩ := q5 i es j c (hget i es e1) e2
              exact ⟨v, hv, hr.mono hk (refsL_get (f3 id _ hl i es (hget i es e1)) j c e2)⟩
            · obtain ⟨k', o', a1, a2, a3, a4⟩ := hmine k o b h1 h2
              obtain ⟨rfl, _, rfl⟩ := a4 e1
              obtain ⟨q1, cs, E, q2, q3, q4, q5⟩ := hs.blk k' _ b a1 a2
              refine ⟨q1, cs, E, q2, q3, q4, fun i es j c e1 e2 => ?_⟩
              obtain ⟨v, hv, hr⟩ := q5 i es j c e1 e2
              exact ⟨v, hv, hr.mono hk (refsL_get (f3 k' _ a1 i es e1) j c e2)⟩
          · obtain ⟨k1, o1, a1, a2, a3, a4⟩ := hmine k o b h1 h3
            obtain ⟨k2, o2, b1, b2, b3, b4⟩ := hmine k' o' b h2 h4
            have := hs.inj k1 k2 o1 o2 b a1 b1 a2 b2
            subst this
            by_cases e1 : k = id2
            · by_cases e2 : k' = id2
              · rw [e1, e2]
              · obtain ⟨x1, x2, _⟩ := b4 e2
                have := a3 e1; omega
            · obtain ⟨x1, x2, _⟩ := a4 e1
              by_cases e2 : k' = id2
              · have := b3 e2; omega
              · obtain ⟨y1, y2, _⟩ := b4 e2
                omega
        have hM : Moves [id2] st ((id2, .arr s (els.take r.toNat)) :: dropO st.os id) w w I I G (upd G id2 (G id)) :=
          ⟨hk.weaken (fun i h => by show i ≠ id2; omega), fun t x u hx hr => hr.mono hk (f2 t x hx), hk.weaken (fun i h => by simpa using h)⟩
        have hE : Ext w w I I (Mine G st.os) (Mine (upd G id2 (G id)) ((id2, .arr s (els.take r.toNat)) :: dropO st.os id)) :=
          ⟨Nat.le_refl _, rfl, rfl, rfl, fun _ _ _ => rfl, fun _ h => h, fun _ h => .inl h, fun b ⟨k, o, h1, h2⟩ => .inl (by
            obtain ⟨k', o', a1, a2, _⟩ := hmine k o b h1 h2
            exact ⟨k', o', a1, a2⟩)⟩
        cases hb' : G id with
        | none =>
          rw [hb'] at hv2
          have hnil := hs.none_ id _ hl hb'
          simp [Obj.els] at hnil; subst hnil
          simp only [List.length_nil, Value.slice.injEq, true_and] at hv2
          obtain ⟨rfl, rfl⟩ := hv2
          have hr0 : r.toNat = 0 := by simp at hlen; omega
          have hbr := bounds_run (P := P) (s := true) (n := 0) (c := 0) (lo := none) (l := 0) hs hf rfl (by simpa using hb) (by omega) h0 (by simpa using h1) (Nat.zero_le _)
          rw [hr0] at hbr
          rw [hb'] at hS hM hE
          refine ⟨.slice none (0 - 0) (0 - 0), _, ?_, hE, hS, ⟨_, rfl, ⟨_, _, by rw [hr0]⟩, fun s' m' hs' => ?_⟩, hM⟩
          · simp only [Instr.sliceAt, Sem.run_bind, run_underlying hu, Result.andThen_ok, Instr.slice, Option.map_none, List.length_nil] at hbr ⊢
            rw [hbr]
            simp only [Result.andThen_ok, Sem.run_bind, run_sizeT hsz, Sem.run_pure]
            rfl
          · simp only [shape, hlk, if_true, Option.map_some] at hs'; cases hs'
            refine ⟨by simp [Obj.els, hr0], fun _ => ?_⟩
            simp [upd, hr0]
        | some b =>
          rw [hb'] at hv2
          obtain ⟨c', e2, hcap, hcs⟩ := hv2
          cases e2
          have hbr := bounds_run (P := P) (s := true) (n := els.length) (c := c) (lo := none) (l := 0) hs hf rfl hb (by omega) h0 (by simpa using h1) hcap
          rw [hb'] at hS hM hE
          refine ⟨.slice (some ⟨b, 0, none⟩) (r.toNat - 0) (c - 0), _, ?_, hE, hS, ⟨_, rfl, ⟨_, _, rfl⟩, fun s' m' hs' => ?_⟩, hM⟩
          · simp only [Instr.sliceAt, Sem.run_bind, run_underlying hu, Result.andThen_ok, Instr.slice, Option.map_none] at hbr ⊢
            rw [hbr]
            simp only [Result.andThen_ok, Sem.run_bind, run_sizeT hsz, Sem.run_pure, Int.toNat_zero, Nat.zero_mul]
            by_cases hc0 : c = 0
            · simp [hc0]
            · simp [hc0, Addr.add]
          · simp only [shape, hlk, if_true, Option.map_some] at hs'; cases hs'
            refine ⟨by simp [Obj.els]; omega, fun _ => ?_⟩
            simp only [upd, if_true]
            exact ⟨c, rfl, by omega, hcs⟩
      · cases he
    · cases he
  · cases he

def isCallF (o : Oper) : Prop := ∃ f args tys, o.op = .call ⟨.value f, args, tys⟩

theorem ok_op {o : Oper} {h : Option Hint} {x : AT} {os' : Objs} {O : List Prop} (he : evalOp P GL C st o h = some (x, os', O)) (hO : All O) (hnc : ¬ isCallF o) (hs : Sr GL w I G st.os) (hf : Fr D w I G (shape st.os) N a st.env) :
    Good GL (makes h) st x os' w I G ((execOp a.eval o).run P w) := by
  have R := fun {y : Operand} {x : AT} (h : opd GL st y = some x) => opd_r hs hf h
  obtain ⟨dst, op, ty, pos, after, guard⟩ := o
  have hmove : ∀ (x0 : Operand) (X : AT) , (opd GL st x0).map (fun a => ((a, st.os, []) : AT × Objs × List Prop)) = some (x, os', O) → Good GL (makes h) st x os' w I G (.ok (.value (a.eval x0)) w) := by
    clear he hO hnc
    intro x0 X h
    obtain ⟨y, hy, e⟩ := map_some h
    cases e
    exact .same hs rfl (R hy)
  cases op with
  | move y =>
    simp only [evalOp] at he
    split at he
    · rename_i id
      split at he
      · rename_i s hsz
        obtain ⟨hfr, rfl, rfl, rfl⟩ := newO_eq he
        obtain ⟨p1, p2, p3⟩ := hs.newNil (s := s) hfr
        refine .of (w' := w) (v := .slice none 0 0) rfl p2 p1 ⟨_, rfl, ⟨_, _, rfl⟩, fun s' m hsm => ?_⟩ p3
        simp only [shape, look_cons, if_true, Option.map_some] at hsm; cases hsm
        exact ⟨Nat.le_refl _, fun _ => by simp [upd]⟩
      · cases he
    · exact hmove y x he
    · cases he
  | assign y =>
    simp only [evalOp] at he
    split at he
    · rename_i id
      split at he
      · rename_i s hsz
        obtain ⟨hfr, rfl, rfl, rfl⟩ := newO_eq he
        obtain ⟨p1, p2, p3⟩ := hs.newNil (s := s) hfr
        refine .of (w' := w) (v := .slice none 0 0) rfl p2 p1 ⟨_, rfl, ⟨_, _, rfl⟩, fun s' m hsm => ?_⟩ p3
        simp only [shape, look_cons, if_true, Option.map_some] at hsm; cases hsm
        exact ⟨Nat.le_refl _, fun _ => by simp [upd]⟩
      · cases he
    · exact hmove y x he
    · cases he
  | pick c y z =>
    simp only [evalOp] at he
    split at he
    · rename_i hc
      have := bool_of (R hc)
      have hm := hmove y x he
      simpa [execOp, this, asBool] using hm
    · rename_i hc
      have := bool_of (R hc)
      have hm := hmove z x he
      simpa [execOp, this, asBool] using hm
    · cases he
  | alloc t =>
    simp only [evalOp] at he
    split at he
    · rename_i id cs hz
      obtain ⟨hfr, rfl, rfl, rfl⟩ := newO_eq he
      obtain ⟨v, w', G', hr, r⟩ := ok_alloc hz hfr hs
      exact .of (v := v) (by simp [execOp, hr]) r.1 r.2.1 r.2.2.1 r.2.2.2
    · cases he
  | box t y =>
    simp only [evalOp] at he
    split at he
    · rename_i id g cs hy
      obtain ⟨hfr, rfl, rfl, rfl⟩ := newO_eq he
      obtain ⟨v, w', G', hr, r⟩ := ok_box (P := P) (t := t) hfr hs (R hy) (opd_refs hfr hy)
      exact .of (v := v) (by simp [execOp, hr]) r.1 r.2.1 r.2.2.1 r.2.2.2
    · cases he
  | build t parts =>
    simp only [evalOp] at he
    split at he
    · rename_i pl cs hp hz
      obtain ⟨r, hr, e⟩ := map_some he
      cases e
      obtain ⟨v, hv, hvr⟩ := ok_build hp hz hr hs hf
      exact .same hs (by simp only [execOp, Sem.run_bind, hv, Result.andThen_ok, Sem.run_pure]) hvr
    · cases he
  | buildSlice t n parts =>
    simp only [evalOp] at he
    split at he
    · rename_i s zz hs1 hz1
      cases hel : elemT P t with
      | none => simp [hel] at hs1
      | some e =>
        simp only [hel, Option.bind_some] at hs1 hz1
        split at he
        · rename_i els hp hn hl
          have hn := Nat.le_of_ble_eq_true hn; have hl := Nat.eq_of_beq_eq_true hl
          split at he
          · rename_i ps hps
            cases he
            obtain ⟨v, w', I', hr, r⟩ := ok_litpv (w := w) (elemT_eq hel) hs1 hp hn hl ⟨_, hz1⟩ hps hs hf
            exact .of (v := v) (by simp only [execOp, Sem.run_bind, hr, Result.andThen_ok, Sem.run_pure]) r.1 r.2.1 r.2.2.1 r.2.2.2.weak
          · rename_i ps nn hps
            cases he
            obtain ⟨v, w', I', hr, r⟩ := ok_litslc (w := w) (elemT_eq hel) hs1 hp hn hl ⟨_, hz1⟩ hps hs hf
            exact .of (v := v) (by simp only [execOp, Sem.run_bind, hr, Result.andThen_ok, Sem.run_pure]) r.1 r.2.1 r.2.2.1 r.2.2.2.weak
          · rename_i ps id hps
            obtain ⟨hfr, rfl, rfl, rfl⟩ := newO_eq he
            obtain ⟨v, w', G', hr, r⟩ := ok_litobj (w := w) (elemT_eq hel) hs1 hp hn hl ⟨_, hz1⟩ hps hfr hs hf
            exact .of (v := v) (by simp only [execOp, Sem.run_bind, hr, Result.andThen_ok, Sem.run_pure]) r.1 r.2.1 r.2.2.1 r.2.2.2
          · cases he
        · cases he
    · cases he
  | load t y =>
    simp only [evalOp] at he
    split at he
    · rename_i z hz
      obtain ⟨rfl, u, hu, hr⟩ := ok_load hs he hO (R hz)
      exact .same hs (by simp [execOp, hu]) hr
    · cases he
  | store t y z =>
    simp only [evalOp] at he
    split at he
    · rename_i u v hu hv
      obtain ⟨rfl, w', G', hr, p1, p2, p3⟩ := ok_store he hO hs (R hu) (R hv)
      exact ⟨.skip, undef, w', I, G', by simp [execOp, hr], .inr ⟨rfl, rfl⟩, p1, p2, ⟨[], rfl, rfl⟩, p3.weak⟩
    · cases he
  | nilCheck y =>
    simp only [evalOp] at he
    split at he
    · rename_i id n i j hy
      obtain ⟨O2, hal, e⟩ := map_some he
      cases e
      have hr := R hy
      obtain ⟨b, s, hv, hb, hsh⟩ := alive_ok hs hal hO (atr_one hr)
      exact .same hs (by simp [execOp, hv]) hr
    · rename_i ps hy
      cases he
      have hr := R hy
      obtain ⟨b, o, hv, _⟩ := atr_one hr
      exact .same hs (by simp [execOp, hv]) hr
    · cases he
  | binOp op t y z yt =>
    simp only [evalOp] at he
    split at he
    · rename_i p q hp hq
      split at he
      · rename_i b c
        split at he
        · rename_i ht
          cases he
          have := ok_equal (P := P) (w := w) ht (bool_of (R hp)) (bool_of (R hq)) y z .eql (.inl rfl)
          exact .same hs (by simp only [execOp, Sem.run_bind] at this ⊢; rw [this]; rfl) ⟨_, rfl, .bool _⟩
        · cases he
      · rename_i b c
        split at he
        · rename_i ht
          cases he
          have := ok_equal (P := P) (w := w) ht (bool_of (R hp)) (bool_of (R hq)) y z .neq (.inr rfl)
          exact .same hs (by simp only [execOp, Sem.run_bind] at this ⊢; rw [this]; rfl) ⟨_, rfl, .bool _⟩
        · cases he
      · obtain ⟨⟨r, O2⟩, hb, e⟩ := map_some he
        cases e
        obtain ⟨v, hv, hr⟩ := binPV_ok (P := P) (w := w) (I := I) (t := t) hb hO (atr_one (R hp)) (atr_one (R hq)) y z
        exact .same hs (by simp only [execOp, Sem.run_bind] at hv ⊢; rw [hv]; rfl) ⟨_, rfl, hr⟩
    · rename_i cs ds hp hq
      obtain ⟨rfl, b, hv, hr⟩ := ok_eqS (P := P) (w := w) he (R hp) (R hq) y z
      exact .same hs (by simp only [execOp, Sem.run_bind] at hv ⊢; rw [hv]; rfl) hr
    · cases he
  | unOp op t y =>
    simp only [evalOp] at he
    split at he
    · rename_i b hb
      cases he
      exact .same hs (by simp [execOp, bool_of (R hb), Op.unary]) ⟨_, rfl, .bool _⟩
    · rename_i k n hn
      cases he
      have h1 : PVr w I (.int k n) _ := atr_one (R hn)
      generalize hv : a.eval y = v at h1
      cases h1
      exact .same hs (by simp [execOp, hv, Op.unary, Op.intArith]) ⟨_, rfl, .int _ _⟩
    · cases he
  | convert src dst y =>
    simp only [evalOp] at he
    split at he
    · rename_i z hz
      rcases evConvX_or he with ⟨els, rfl, he⟩ | he
      · obtain ⟨rfl, r, hr, hx⟩ := ok_convB (w := w) he (atr_one (R hz))
        exact .same hs (by simp [execOp, hr]) hx
      · obtain ⟨rfl, r, hr, hx⟩ := ok_conv (w := w) he (R hz)
        exact .same hs (by simp [execOp, hr]) hx
    · cases he
  | slice t y lo hi mx =>
    simp only [evalOp] at he
    split at he
    · rename_i id n id2 hz
      obtain ⟨r, G', hr, h1, h2, h3, h4⟩ := ok_shrink (P := P) he hO hs hf (R hz)
      exact .of (w' := w) (by simp [execOp, hr]) h1 h2 h3 h4
    · rename_i z hz
      obtain ⟨rfl, r, hr, hx⟩ := ok_slice he hO hs hf (R hz)
      exact .same hs (by simp [execOp, hr]) hx
    · cases he
  | fieldAddr t y f =>
    simp only [evalOp] at he
    split at he
    · rename_i z hz
      obtain ⟨rfl, r, hr, hx⟩ := ok_fieldAddr he hO hs (R hz)
      exact .same hs (by simp [execOp, hr]) hx
    · cases he
  | field t y f =>
    simp only [evalOp] at he
    split at he
    · rename_i fs cs hu hy
      split at he
      · rename_i fd hfd
        obtain ⟨z, hz, e⟩ := map_some he
        cases e
        obtain ⟨vs, hv, hc⟩ := R hy
        obtain ⟨v, hv2, hr⟩ := partA_part (P := P) (w := w) hz hc
        exact .same hs (by simp [execOp, hv, Instr.field, run_underlying hu, hfd, asAgg, hv2]) hr
      · cases he
    · cases he
  | indexAddr t y i =>
    simp only [evalOp] at he
    split at he
    · rename_i u v hu hv
      obtain ⟨rfl, r, hr, hx⟩ := ok_indexAddr he hO hs (R hu) (R hv)
      exact .same hs (by simp [execOp, hr]) hx
    · cases he
  | index t y i =>
    simp only [evalOp] at he
    split at he
    · rename_i u v ht hu hv
      obtain ⟨rfl, r, hr, hx⟩ := ok_index he hO ht (R hu) (R hv)
      exact .same hs (by simp [execOp, hr]) hx
    · cases he
  | extract y i =>
    simp only [evalOp] at he
    split at he
    · rename_i l hl
      split at he
      · rename_i g cs hi
        cases he
        obtain ⟨vs, hv, ht⟩ := R hl
        obtain ⟨v, hv2, hr⟩ := ht.get i g cs hi
        exact .same hs (by simp [execOp, hv, Instr.extract, hv2]) hr
      · cases he
    · cases he
  | makeSlice t l c =>
    simp only [evalOp] at he
    split at he
    · rename_i id e n m hel hl hc
      split at he
      · rename_i s by_ z hsz hby hz
        split at he
        · rename_i h1 h2 h3
          have h1 := Nat.eq_of_beq_eq_true h1; have h2 := Nat.le_of_ble_eq_true h2; have h3 := Nat.le_of_ble_eq_true h3
          obtain ⟨hfr, rfl, rfl, rfl⟩ := newO_eq he
          obtain ⟨e1, g1, g2, _⟩ := hO
          subst e1
          have hzt : zeroT P e = some (pvL z) := by
            cases hzz : zeroT P e with
            | none => simp [hzz] at hz
            | some cs => simp [hzz] at hz; rw [pvs_eq hz]
          obtain ⟨v, w', G', hr, r⟩ := ok_make (w := w) (elemT_eq hel) hsz hby hzt h1 h2 g1 g2 h3 hfr hs
          have hl1 : PVr w I (.int .i64 n) _ := atr_one (R hl)
          have hc1 : PVr w I (.int .i64 n) _ := atr_one (R hc)
          generalize hvl : a.eval l = vl at hl1
          generalize hvc : a.eval c = vc at hc1
          cases hl1; cases hc1
          exact .of (v := v) (by simp only [execOp, hvl, hvc, Sem.run_bind, hr, Result.andThen_ok, Sem.run_pure]) r.1 r.2.1 r.2.2.1 r.2.2.2
        · cases he
      · cases he
    · cases he
  | call c =>
    obtain ⟨cal, ⟨args⟩, ⟨tys⟩⟩ := c
    cases cal with
    | value f => exact absurd ⟨f, _, _, rfl⟩ hnc
    | invoke r m => simp [evalOp] at he
    | builtin b =>
      simp only [evalOp] at he
      split at he
      · rename_i y t
        split at he
        · rename_i u hu ht
          obtain ⟨rfl, r, hr, hx⟩ := ok_len (P := P) (t := t) (tys := #[t]) he rfl ht (R hu) ty
          exact .same hs (by simp [execOp, resolve, invoke, builtin, hr]) hx
        · rename_i u e hu ht
          obtain ⟨rfl, r, hr, hx⟩ := ok_len (P := P) (t := t) (tys := #[t]) he rfl ⟨_, ht⟩ (R hu) ty
          exact .same hs (by simp [execOp, resolve, invoke, builtin, hr]) hx
        · cases he
      · rename_i y z t t'
        split at he
        · rename_i u v e hu hv ht
          rcases evAppendX_or he with ⟨els, new, rfl, rfl, he⟩ | he
          · obtain ⟨r, w', I', hr, q⟩ := ok_appendC he hO ht hs (atr_one (R hu)) (atr_one (R hv)) ty
            exact .of (v := r) (by simp [execOp, resolve, invoke, builtin, hr]) q.1 q.2.1 q.2.2.1 q.2.2.2.weak
          · obtain ⟨r, w', G', hr, q⟩ := ok_append he hO ht hs (R hu) (R hv) ty
            exact .of (v := r) (by simp [execOp, resolve, invoke, builtin, hr]) q.1 q.2.1 q.2.2.1 q.2.2.2.weak
        · cases he
      · rename_i y z
        split at he
        · rename_i u v hu hv
          obtain ⟨r0, hm, e⟩ := map_some he
          cases e
          obtain ⟨r, hr, hx⟩ := ok_minmax (P := P) (w := w) hm (R hu) (R hv)
          exact .same hs (by simp [execOp, resolve, invoke, builtin, Builtin.min_, hr]) hx
        · cases he
      · rename_i y z
        split at he
        · rename_i u v hu hv
          obtain ⟨r0, hm, e⟩ := map_some he
          cases e
          obtain ⟨r, hr, hx⟩ := ok_minmax (P := P) (w := w) hm (R hu) (R hv)
          exact .same hs (by simp [execOp, resolve, invoke, builtin, Builtin.max_, hr]) hx
        · cases he
      · cases he
  | _ => simp [evalOp] at he
end Go.AL
