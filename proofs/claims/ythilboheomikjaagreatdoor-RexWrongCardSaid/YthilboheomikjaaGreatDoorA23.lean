/- A test for nil, of plain data: either way, where there is nothing in it. -/
import Derived.Test.YthilboheomikjaaGreatDoorA22
import Derived.Laws.Cover3
namespace Go.AL
variable {D : List Deferred}
set_option linter.unusedVariables false
set_option linter.unusedSimpArgs false
variable {P : Program} {GL : List (Nat × List PV)} {C : Spec} {st : S} {N : Nat} {F : Exit → S → Prop}

theorem WA.nilTest {id : Nat} {d1 d2 x t e ty1 ty2 ty3 : Nat} {p1 p2 : String} {a1 a2 : Array Edge} {els : List (List PV)} (ho : look st.env x = some (one (.sl els))) (hu : P.underlying t = some (.slice e)) (hd1 : Nat.blt d1 N = true) (hd2 : Nat.blt d2 N = true)
    (h : ∀ b : Bool, (b = true → els = []) → F .normal ⟨(d2, one (.bool b)) :: (d1, one (.sl els)) :: st.env, st.os⟩) :
    WA P GL N (.region id (List.toArray [⟨some d1, .move (.tmp x), ty1, p1, a1, none⟩, ⟨some d2, .binOp .eql t (.tmp d1) (.const (.slice none 0 0)) ty3, ty2, p2, a2, none⟩]) false) st F := fun D w0 I0 G0 os0 w I G a h1 h2 h3 h4 => by
  refine wp_region_list ?_
  have hev : evalOps P GL (Sim P GL) N [⟨some d1, .move (.tmp x), ty1, p1, a1, none⟩, ⟨some d2, .binOp .eql t (.tmp d1) (.const (.slice none 0 0)) ty3, ty2, p2, a2, none⟩] [] 0 [⟨some d1, .move (.tmp x), ty1, p1, a1, none⟩] st = some (⟨(d1, one (.sl els)) :: st.env, st.os⟩, []) := by
    simp [evalOps, wantedA, dstOk, hd1, evalOpH, evalOp, look, opd, ho, putE]
  refine ops_wp_k (N := N) (hs_ := []) (sound P GL) [_] [_] 0 st _ [] w I G a (Post GL N D w0 I0 G0 os0 F) hev trivial h3 h4 fun w' I' G' a' ee k s fr => ?_
  have hl : look ((d1, one (.sl els)) :: st.env) d1 = some (one (.sl els)) := by simp [look_cons]
  have hv : PVr w' I' (.sl els) (a'.tmps.getD d1 undef) := atr_one (fr.slot d1 _ hl).2
  obtain ⟨A, l, c, hval, hnil⟩ : ∃ A l c, a'.tmps.getD d1 undef = .slice A l c ∧ (A.isNone = true → els = []) := by
    generalize a'.tmps.getD d1 undef = v at hv
    cases hv with
    | sl0 A c => exact ⟨A, 0, c, rfl, fun _ => rfl⟩
    | sl els b o c s' vals hI hc hss hm hr' => exact ⟨_, _, _, rfl, fun h => by cases h⟩
  unfold wpList
  rw [show ∀ y, Region.wanted ⟨some d2, .binOp .eql t (.tmp d1) (.const (.slice none 0 0)) ty3, ty2, p2, a2, none⟩ y = true from fun _ => rfl]
  simp only [if_true]
  refine .inl ?_
  unfold Oper.wp
  have hr : (execOp a'.eval ⟨some d2, .binOp .eql t (.tmp d1) (.const (.slice none 0 0)) ty3, ty2, p2, a2, none⟩).run P w' = .ok (.value (.bool A.isNone)) w' := by
    have h5 : a'.eval (.tmp d1) = .slice A l c := hval
    have h6 : a'.eval (.const (.slice none 0 0)) = .slice none 0 0 := rfl
    simp [execOp, h5, h6, eqGuard, binOp, run_equal_slice_nil w' t e A l c hu]
  rw [hr]
  show Post GL N D w0 I0 G0 os0 F .normal (a'.put (some d2) (.bool A.isNone)) w'
  have hd2' : dstOk N (⟨some d2, .binOp .eql t (.tmp d1) (.const (.slice none 0 0)) ty3, ty2, p2, a2, none⟩ : Oper) = true := hd2
  have hx : ATr w' I' G' (shape st.os) (one (.bool A.isNone)) (.bool A.isNone) := ⟨_, rfl, .bool _⟩
  exact ⟨I', G', ⟨(d2, one (.bool A.isNone)) :: (d1, one (.sl els)) :: st.env, st.os⟩, h1.trans ee, h2.trans k, s, fr_put (o := ⟨some d2, .binOp .eql t (.tmp d1) (.const (.slice none 0 0)) ty3, ty2, p2, a2, none⟩) (st := ⟨(d1, one (.sl els)) :: st.env, st.os⟩) (os' := st.os) fr hd2' (fun _ _ _ _ h => h) hx, h A.isNone hnil⟩
end Go.AL
