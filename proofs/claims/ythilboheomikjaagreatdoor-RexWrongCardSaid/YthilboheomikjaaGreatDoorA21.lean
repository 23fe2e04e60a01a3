/- Panics: a function's promise that it panics with one value; rules for code that does. -/
import Derived.Test.YthilboheomikjaaGreatDoorA20
import Derived.Laws.Build
namespace Go.AL
variable {D : List Deferred}
set_option linter.unusedVariables false
set_option linter.unusedSimpArgs false
variable {P : Program} {GL : List (Nat × List PV)} {C : Spec} {st : S} {N : Nat} {F : Exit → S → Prop}

def thrown (pv : Value) : List PanicEntry := [{ v := pv, recovered := false }]

def boxes (l : List (List PV)) : List Obj := l.map fun ps => .box (pvL ps)

/-- f panics with this value; what was handed over are boxes of plain data still -/
def SimPanic (P : Program) (GL : List (Nat × List PV)) (pv : Value) (f : FuncId) (args : List AT) (os : List Obj) : Prop :=
  ∀ (w : World) (I : Nat → Prop) (G : Nat → Option Nat) (vs : List Value), Sr GL w I G (number os) → As w I G (shape (number os)) args vs →
    Calls P f ⟨vs⟩ w fun e w' => ∃ I' G' psl, e = .panicked (thrown pv) ∧ psl.length = os.length ∧ Ext w w' I I' (Mine G (number os)) (Mine G' (number (boxes psl))) ∧ Sr GL w' I' G' (number (boxes psl)) ∧
      Keeps (· < os.length) w w' I I' G G' (shape (number os)) (shape (number (boxes psl)))

/-- returns that, or panics -/
def SimP (P : Program) (GL : List (Nat × List PV)) (pv : Value) (f : FuncId) (args : List AT) (os : List Obj) : Option (AT × List Obj) → Prop
  | some (res, os') => Sim P GL f args os res os'
  | none => SimPanic P GL pv f args os

theorem renL_pv (ids : List Nat) : ∀ ps : List PV, renL ids (pvL ps) = some (pvL ps)
  | [] => rfl
  | p :: ps => by
    have ih := renL_pv ids ps
    simp only [pvL, List.map_cons, renL, renC] at ih ⊢
    rw [ih]

theorem renOs_boxes (ids : List Nat) : ∀ l : List (List PV), renOs ids (boxes l) = some (boxes l)
  | [] => rfl
  | ps :: l => by
    have ih := renOs_boxes ids l
    simp only [boxes, List.map_cons, renOs, renO, renL_pv, Option.map_some] at ih ⊢
    rw [ih]

theorem ops_wp_k {ops : List Oper} {hs_ : List (Nat × Hint)} (hC : Sound P GL C) (tail : List Oper) : ∀ (pre : List Oper) (i : Nat) (st st' : S) (O : List Prop) (w : World) (I : Nat → Prop) (G : Nat → Option Nat) (a : Act) (Q : Exit → Act → World → Prop),
    evalOps P GL C N ops hs_ i pre st = some (st', O) → All O → Sr GL w I G st.os → Fr D w I G (shape st.os) N a st.env →
    (∀ w' I' G' a', Ext w w' I I' (Mine G st.os) (Mine G' st'.os) → Keeps (· < 100) w w' I I' G G' (shape st.os) (shape st'.os) → Sr GL w' I' G' st'.os → Fr D w' I' G' (shape st'.os) N a' st'.env → wpList P ops.toArray Q tail a' w') →
    wpList P ops.toArray Q (pre ++ tail) a w
  | [], i, st, st', O, w, I, G, a, Q, he, hO, hs, hf, hQ => by
    cases he
    exact hQ w I G a (.refl _ _ _) (.refl _ _ _ _ _) hs hf
  | o :: rest, i, st, st', O, w, I, G, a, Q, he, hO, hs, hf, hQ => by
    simp only [evalOps] at he
    split at he
    · rename_i hw hd
      have hw' := wanted_ok hf hw
      rw [List.cons_append]
      unfold wpList
      rw [hw']
      simp only [Bool.false_eq_true, if_false]
      exact ops_wp_k hC tail rest (i + 1) _ st' O w I G _ Q he hO hs (fr_put hf hd (fun _ _ _ _ h => h) ⟨[], rfl, rfl⟩) hQ
    · rename_i hw hd
      have hw' := wanted_ok hf hw
      split at he
      · cases he
      · rename_i x os O1 he1
        split at he
        · cases he
        · rename_i st2 O2 he2
          cases he
          obtain ⟨h1, h2⟩ := hO.append
          rw [List.cons_append]
          unfold wpList
          rw [hw']
          simp only [if_true]
          refine .inl (op_wp he1 h1 hC hs hf fun v w' I' G' e1 s1 x1 m1 => ?_)
          exact ops_wp_k hC tail rest (i + 1) _ st' O2 w' I' G' _ Q he2 h2 s1 (fr_put hf hd m1.env x1) (fun w2 I2 G2 a2 e2 k2 s2 f2 => hQ w2 I2 G2 a2 (e1.trans e2) (m1.keeps.trans k2) s2 f2)
    · cases he

/-- as far as a call that panics -/
def evalP (P : Program) (GL : List (Nat × List PV)) (C : Spec) (N : Nat) (l : List Oper) (hs_ : List (Nat × Hint)) (n : Nat) (ids ts : List Nat) (st : S) : Option (FuncId × List AT × List Obj × List (Nat × AT) × Objs × List Prop) :=
  match evalOps P GL C N l hs_ 0 (l.take n) st, l[n]? with
  | some (st1, O), some o => match wantedA l st1 o, o.op with
    | some true, .call ⟨.value (.func f), ⟨xs⟩, _⟩ => match (P.funcs[f]?).map (fun fn => (fn.body.isSome, fn.name == "runtime.NumGoroutine")), (opds GL st1 xs).bind (unAs ids), (lookAll st1.os ids).bind (unOs ids), Nat.ble ids.length 100 with
      | some (true, false), some args, some os, true => some (f, args, os, pickE st1.env ts, st1.os, O)
      | _, _, _, _ => none
    | _, _ => none
  | _, _ => none

theorem WA.regP {id : Nat} {l : List Oper} (n : Nat) (ids ts : List Nat) (hs_ : List (Nat × Hint)) (pv : Value) {f : FuncId} {args : List AT} {os : List Obj} {env1 : List (Nat × AT)} {os1 : Objs} {O : List Prop}
    (he : evalP P GL C N l hs_ n ids ts st = some (f, args, os, env1, os1, O)) (hC : Sound P GL C) (hO : All O) (hnd : ids.Nodup) (hp : SimPanic P GL pv f args os)
    (h : ∀ psl : List (List PV), psl.length = ids.length → F (.panic (thrown pv)) ⟨env1, setAll os1 ids (boxes psl)⟩) :
    WA P GL N (.region id l.toArray false) st F := fun D w0 I0 G0 os0 w I G a h1 h2 h3 h4 => by
  unfold evalP at he
  split at he
  · rename_i st1 O' o hev ho
    split at he
    · rename_i f' xs tys hw hop
      split at he
      · rename_i args' os' hfn hargs hos h100
        cases he
        have hn := (List.getElem?_eq_some_iff.1 ho).1
        have hl : l = l.take n ++ (o :: l.drop (n + 1)) := by
          have h2 := (List.getElem?_eq_some_iff.1 ho).2
          rw [← h2, ← List.drop_eq_getElem_cons hn, List.take_append_drop]
        refine wp_region_list ?_
        have key := ops_wp_k (N := N) (hs_ := hs_) hC (o :: l.drop (n + 1)) (l.take n) 0 st st1 O w I G a (Post GL N D w0 I0 G0 os0 F) hev hO h3 h4 fun w' I' G' a' e k s fr => ?_
        · rw [← hl] at key; exact key
        · have hw' := wanted_ok fr hw
          unfold wpList
          rw [hw']
          simp only [if_true]
          refine .inl ?_
          obtain ⟨as, ha1, ha2⟩ := bind_some hargs
          obtain ⟨zs, hz1, hz2⟩ := bind_some hos
          obtain ⟨ho1, ho2⟩ := unOs_ren hz2
          have ho' : Eqs (renOs ids os) (lookAll st1.os ids) := ⟨zs, ho1, hz1⟩
          obtain ⟨yl, yg⟩ := lookAll_get hz1
          have hlen : ids.length = os.length := by omega
          obtain ⟨hin, hshc⟩ := ren_in ho'
          have hGc : ∀ (p k : Nat), ids[p]? = some k → (fun k => (ids[k]?).bind G') p = G' k := fun p k h => by simp [h]
          have hsc := s.ren ho' hnd hlen
          have hargs2 := renAs_back hGc hshc (unAs_ren ha2) (opds_r s fr ha1)
          have hcall := hp w' I' (fun k => (ids[k]?).bind G') (xs.map a'.eval) hsc hargs2
          obtain ⟨fn, hfn1, hfb⟩ := map_some hfn
          simp only [Prod.mk.injEq] at hfb
          obtain ⟨dst, op, ty, pos, after, guard⟩ := o
          simp only at hop; subst hop
          unfold Oper.wp
          have hbody : fn.body.isNone = false := by rw [← Option.not_isSome, hfb.1]; rfl
          have hrun : (execOp a'.eval { dst, op := .call ⟨.value (.func f), ⟨xs⟩, tys⟩, type := ty, pos, after, guard }).run P w' = .ok (.enter f (xs.map a'.eval).toArray) w' := by
            have hname : ¬ fn.name = "runtime.NumGoroutine" := by simpa using hfb.2
            have hbn : ¬ fn.body = none := fun e => by rw [e] at hbody; cases hbody
            simp [execOp, resolve, Act.eval, Deferred.ofValue, invoke, callFunc, hfn1]
            rw [if_neg hname, if_neg hbn]
          rw [hrun, Oper.upon_enter]
          refine Calls.imp hcall ?_
          rintro e' w2 ⟨I2, G1, psl, rfl, hpl, p1, p2, p3⟩
          have hbl : (boxes psl).length = psl.length := by simp [boxes]
          obtain ⟨G2, q1, q2, q3, q4, q5⟩ := back_home (new := []) (os' := boxes psl) (rs := boxes psl) (os2 := setAll st1.os ids (boxes psl)) s ho' hnd hlen (by rw [hbl, hpl, hlen]; exact Nat.le_refl _) (Nat.le_of_ble_eq_true h100) (renOs_boxes _ _)
            (by rw [List.take_of_length_le (by rw [hbl, hpl, hlen]; exact Nat.le_refl _), List.drop_of_length_le (by rw [hbl, hpl, hlen]; exact Nat.le_refl _)]; rfl) p1 p2 p3
          exact ⟨I2, G2, _, (h1.trans e).trans q3, (h2.trans k).trans q5.keeps, q4, ⟨fr.size, fr.defers, fun t x hx => ⟨(fr.slot t x (look_pickE hx)).1, q5.env t x _ (look_pickE hx) (fr.slot t x (look_pickE hx)).2⟩⟩, h psl (by rw [hpl, hlen])⟩
      · cases he
    · cases he
  · cases he
end Go.AL
