/- Panics: the region that throws, and functions that may. -/
import Derived.Test.YthilboheomikjaaGreatDoorA21
namespace Go.AL
variable {D : List Deferred}
set_option linter.unusedVariables false
set_option linter.unusedSimpArgs false
variable {P : Program} {GL : List (Nat × List PV)} {C : Spec} {st : S} {N : Nat} {F : Exit → S → Prop}

/-- a value without parts, put into an interface, and thrown -/
def evalBad (P : Program) (GL : List (Nat × List PV)) (C : Spec) (N : Nat) (l : List Oper) (ts : List Nat) (st : S) : Option (TypeId × List (Nat × AT) × Objs × List Prop) :=
  match l with
  | [o0, o1, o2] => match evalOps P GL C N [o0, o1, o2] [] 0 [o0] st, o1.op, o1.dst, o1.guard, o2.op, o2.guard with
    | some (st1, O), .makeInterface t (.tmp d0), some d1, none, .panic (.tmp d2), none => match look st1.env d0, P.concrete t, Nat.beq d1 d2, Nat.blt d1 N with
      | some (.val true []), true, true, true => match ts.all fun t => !Nat.beq t d1 with
        | true => some (t, pickE st1.env ts, st1.os, O)
        | false => none
      | _, _, _, _ => none
    | _, _, _, _, _, _ => none
  | _ => none

theorem WA.bad {id : Nat} {l : List Oper} (ts : List Nat) {t : TypeId} {env1 : List (Nat × AT)} {os1 : Objs} {O : List Prop} (he : evalBad P GL C N l ts st = some (t, env1, os1, O)) (hC : Sound P GL C) (hO : All O)
    (h : F (.panic (thrown (.iface t (.agg #[])))) ⟨env1, os1⟩) : WA P GL N (.region id l.toArray false) st F := fun D w0 I0 G0 os0 w I G a h1 h2 h3 h4 => by
  unfold evalBad at he
  split at he
  · rename_i o0 o1 o2
    split at he
    · rename_i s1 O' t' d0 d1 d2 hev hop1 hd1 hg1 hop2 hg2
      split at he
      · rename_i hl hcc hdd hlt
        split at he
        case h_2 => cases he
        rename_i hts
        cases he
        have hdd := Nat.eq_of_beq_eq_true hdd
        subst hdd
        have hlt : d1 < N := Nat.le_of_ble_eq_true hlt
        refine wp_region_list ?_
        refine ops_wp_k (N := N) (hs_ := []) hC [o1, o2] [o0] 0 st s1 O w I G a (Post GL N D w0 I0 G0 os0 F) hev hO h3 h4 fun w' I' G' a' e k s fr => ?_
        obtain ⟨vs, hv, hvs⟩ := (fr.slot d0 _ hl).2
        have hvs0 : vs = [] := by
          have h' : CSr w' I' G' (shape s1.os) [] vs := hvs
          cases vs with
          | nil => rfl
          | cons v vs => exact absurd h' (by simp [CSr])
        subst hvs0
        obtain ⟨dst1, op1, ty1, pos1, af1, gd1⟩ := o1
        obtain ⟨dst2, op2, ty2, pos2, af2, gd2⟩ := o2
        simp only at hop1 hd1 hg1 hop2 hg2
        subst hop1; subst hd1; subst hg1; subst hop2; subst hg2
        unfold wpList
        rw [show ∀ y, Region.wanted ⟨some d1, .makeInterface t (.tmp d0), ty1, pos1, af1, none⟩ y = true from fun _ => rfl]
        simp only [if_true]
        refine .inl ?_
        unfold Oper.wp
        have hr1 : (execOp a'.eval ⟨some d1, .makeInterface t (.tmp d0), ty1, pos1, af1, none⟩).run P w' = .ok (.value (.iface t (.agg #[]))) w' := by
          have : a'.eval (.tmp d0) = .agg #[] := hv
          simp [execOp, this, run_makeInterface _ _ _ hcc]
        rw [hr1]
        show wpList P _ _ _ (a'.put (some d1) (.iface t (.agg #[]))) w'
        unfold wpList
        rw [show ∀ y, Region.wanted ⟨dst2, .panic (.tmp d1), ty2, pos2, af2, none⟩ y = true from fun _ => rfl]
        simp only [if_true]
        refine .inl ?_
        unfold Oper.wp
        have hr2 : (execOp (a'.put (some d1) (.iface t (.agg #[]))).eval ⟨dst2, .panic (.tmp d1), ty2, pos2, af2, none⟩).run P w' = .halt (.panic (.iface t (.agg #[]))) w' := by
          have : (a'.put (some d1) (.iface t (.agg #[]))).eval (.tmp d1) = .iface t (.agg #[]) := by
            show (a'.tmps.setIfInBounds d1 _).getD d1 undef = _
            rw [Array.getD_eq_getD_getElem?, Array.getElem?_setIfInBounds_self_of_lt (by rw [fr.size]; exact hlt)]; rfl
          simp [execOp, this, Instr.panic, goPanic]
        rw [hr2, Oper.upon_panic]
        refine ⟨I', G', ⟨pickE s1.env ts, s1.os⟩, h1.trans e, h2.trans k, s, ⟨?_, ?_, fun u x hx => ?_⟩, h⟩
        · simp [Act.put, fr.size]
        · simp [Act.put, fr.defers]
        · have hmem : ∀ {l : List Nat}, look (pickE s1.env l) u = some x → u ∈ l := by
            intro l
            induction l with
            | nil => intro h; cases h
            | cons q l ih =>
              intro h
              simp only [pickE] at h
              split at h
              · rw [look_cons] at h
                split at h
                · subst_vars; simp
                · exact List.mem_cons_of_mem _ (ih h)
              · exact List.mem_cons_of_mem _ (ih h)
          have hne : u ≠ d1 := fun e => by
            have := List.all_eq_true.1 hts u (hmem hx)
            rw [e, Nat.beq_refl] at this; cases this
          have hp : (a'.put (some d1) (.iface t (.agg #[]))).tmps.getD u undef = a'.tmps.getD u undef := by
            show (a'.tmps.setIfInBounds d1 _).getD u undef = _
            rw [Array.getD_eq_getD_getElem?, Array.getElem?_setIfInBounds_ne (Ne.symm hne), ← Array.getD_eq_getD_getElem?]
          rw [hp]
          exact fr.slot u x (look_pickE hx)
      · cases he
    · cases he
  · cases he

/-- what holds where a function ends that may panic -/
def OutP (P : Program) (pv : Value) (rv : List ResultVar) (outs : List Nat) (m : Nat) : Option (AT × List Obj) → Exit → S → Prop
  | some (res, os'), e, s => Out P rv outs m res os' e s
  | none, .panic ch, s => ch = thrown pv ∧ ∃ psl, lookAll s.os (List.range m) = some (boxes psl) ∧ psl.length = m
  | none, _, _ => False

theorem simP_of {f : FuncId} {fn : Func} {code : Code} {args : List AT} {os : List Obj} {pv : Value} {o : Option (AT × List Obj)} (outs : List Nat) (hf : P.funcs[f]? = some fn) (hb : fn.body = some code) (hn : Nat.ble args.length fn.ntmps = true)
    (hm : Nat.ble os.length 100 = true) (h : WA P GL fn.ntmps code ⟨numA 0 args, number os⟩ (OutP P pv fn.results.toList outs os.length o)) : SimP P GL pv f args os o := by
  cases o with
  | some r => exact sim_of outs hf hb hn hm h
  | none =>
    have hn := Nat.le_of_ble_eq_true hn
    have hm := Nat.le_of_ble_eq_true hm
    intro w I G vs hs ha
    obtain ⟨hal, hag⟩ := ha.get
    refine calls_of_wp hf hb (wp_mono (h [] w I G (number os) w I G _ (.refl _ _ _) (.refl _ _ _ _ _) hs ?_) ?_)
    · refine ⟨by simp [hal]; omega, rfl, fun t x hx => ?_⟩
      simp only [look_numA, Nat.zero_le, if_true, Nat.sub_zero] at hx
      obtain ⟨v, hv, hr⟩ := hag t x hx
      have hlt := (List.getElem?_eq_some_iff.1 hx).1
      refine ⟨by omega, ?_⟩
      rw [Array.getD_eq_getD_getElem?, Array.getElem?_append_left (by simp [hal]; omega)]
      simp only [List.getElem?_toArray, hv]; exact hr
    · rintro e a' w' ⟨I', G', s, q1, q2, q3, q4, q5⟩
      cases e with
      | panic ch =>
        obtain ⟨rfl, psl, r1, r2⟩ := q5
        have hEq : Eqs (renOs (List.range os.length) (boxes psl)) (lookAll s.os (List.range os.length)) := ⟨_, renOs_boxes _ _, r1⟩
        have hbl : (boxes psl).length = psl.length := by simp [boxes]
        obtain ⟨hin, hsh⟩ := ren_in hEq
        have hnd : (List.range os.length).Nodup := List.nodup_range
        have hG : ∀ (p k : Nat), (List.range os.length)[p]? = some k → (fun k => ((List.range os.length)[k]?).bind G') p = G' k := fun p k h => by simp [h]
        refine ⟨q4.defers, I', fun k => ((List.range os.length)[k]?).bind G', psl, rfl, r2, ?_, q3.ren hEq hnd (by simp [hbl, r2]), ?_⟩
        · refine ⟨q1.size, q1.os, q1.tape, q1.output, q1.keep, q1.imm, q1.inew, fun b hb => ?_⟩
          obtain ⟨p, o, h1, h2⟩ := hb
          rw [look_number] at h1
          cases hk : (List.range os.length)[p]? with
          | none => simp [hk] at h2
          | some k =>
            obtain ⟨_, o', _, _, h3⟩ := hin p k hk
            exact q1.mnew b ⟨k, o', h3, by simpa [hk] using h2⟩
        · refine ⟨q2.heap, q2.imm, fun p s' m hp hsp => ?_⟩
          have hp' : p < os.length := hp
          have hk : (List.range os.length)[p]? = some p := List.getElem?_range hp'
          rw [hsh p p hk] at hsp
          obtain ⟨m0, e1, e2, e3⟩ := q2.objs p s' m (by show p < 100; omega) hsp
          refine ⟨m0, e1, e2, fun e => ?_⟩
          have := e3 e
          simpa [hk] using this
      | normal => exact q5.elim
      | ret => exact q5.elim
      | exit _ => exact q5.elim
      | goto _ => exact q5.elim
      | outgrown => exact q5.elim

theorem out_retP {pv : Value} {rv : List ResultVar} {outs : List Nat} {m : Nat} {res : AT} {os' : List Obj} {s : S} (r : AT) (l : List Obj) (h1 : resA P s rv = some r) (h2 : renA outs res = some r) (h3 : renOs outs os' = some l) (h4 : lookAll s.os outs = some l)
    (h5 : outs.Nodup) (h6 : outs.length = os'.length) (h7 : outs.take m = List.range m) : OutP P pv rv outs m (some (res, os')) .ret s := ⟨r, h1, h2, ⟨l, h3, h4⟩, h5, h6, h7⟩
theorem out_nrmP {pv : Value} {rv : List ResultVar} {outs : List Nat} {m : Nat} {res : AT} {os' : List Obj} {s : S} (r : AT) (l : List Obj) (h1 : resA P s rv = some r) (h2 : renA outs res = some r) (h3 : renOs outs os' = some l) (h4 : lookAll s.os outs = some l)
    (h5 : outs.Nodup) (h6 : outs.length = os'.length) (h7 : outs.take m = List.range m) : OutP P pv rv outs m (some (res, os')) .normal s := ⟨r, h1, h2, ⟨l, h3, h4⟩, h5, h6, h7⟩
theorem out_bad {pv : Value} {rv : List ResultVar} {outs : List Nat} {m : Nat} {s : S} (psl : List (List PV)) (h1 : lookAll s.os (List.range m) = some (boxes psl)) (h2 : psl.length = m) : OutP P pv rv outs m none (.panic (thrown pv)) s := ⟨rfl, psl, h1, h2⟩

/-- o; where it is a panic, that; else what f makes of it -/
def orP {α β : Type} (o : Option (Option α)) (f : α → Option (Option β)) : Option (Option β) := o.bind fun y => match y with
  | none => some none
  | some z => f z
theorem orP_some {α β : Type} {o : Option (Option α)} {f : α → Option (Option β)} {r : Option β} (h : orP o f = some r) : (o = some none ∧ r = none) ∨ ∃ z, o = some (some z) ∧ f z = some r := by
  unfold orP at h
  cases o with
  | none => cases h
  | some y =>
    cases y with
    | none => cases h; exact .inl ⟨rfl, rfl⟩
    | some z => exact .inr ⟨z, rfl, h⟩
theorem one_of_len {α : Type} {l : List α} (h : l.length = 1) : ∃ x, l = [x] := by
  match l, h with
  | [x], _ => exact ⟨x, rfl⟩
end Go.AL
