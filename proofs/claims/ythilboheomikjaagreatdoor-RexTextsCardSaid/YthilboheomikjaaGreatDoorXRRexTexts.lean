/- RRexTexts -/
import Derived.Test.YthilboheomikjaaGreatDoorMRRexTexts6
set_option linter.unusedVariables false
set_option linter.unusedSimpArgs false
section
namespace Go.Proofs.YthilboheomikjaaGreatDoor.rexTexts
open Go.AL Go.RowKit Go.Shelf Go.Lib Go.ChangeShapes Go.WideShapes Go.ChangeAt
open Go.ChangeMaps (open_string shut_string)
set_option maxRecDepth 100000
theorem tabs {W:World} (hL:laidMetH Tryz.prog Rows.rexTextsRow.laid W):Lib.Utf8Tabs 0 1 W:=by
  rw [MakeChecks.laidMetH_plain _ _ _ (by kernel_rfl)] at hL
  refine utf8Tabs_of_reads { Tryz.lays197 with } u8x (Zpg ▸ Lib.laidMet.reads hL ?_) (Zoa ▸ Lib.laidMet.reads hL ?_)
  · exact .tail _ (.tail _ (.tail _ (.tail _ (.tail _ (.tail _ (.head _))))))
  · exact .tail _ (.tail _ (.tail _ (.head _)))
theorem lifted (os:Os) (started:os.Started) (H:Type) (enc:TypeId×Value→H) :
    ReturnsInHanded {} Tryz.checked os 8 .any (fun w args=>(Rows.rexTextsSpec.pre enc Tryz.prog Tryz.f8 [] false w args∧laidMetH Tryz.prog Rows.rexTextsRow.laid w)∧sizedMet enc Tryz.prog Tryz.f8 (OpenSpec.ofChange Rows.rexTextsSpec) false w args)
      (Rows.rexTextsSpec.post enc Tryz.prog Tryz.f8 false true false false):=by
  refine returnsInHanded_of_change_and (C:=Tryz.checked) (X:=fun w _=>laidMetH Tryz.prog Rows.rexTextsRow.laid w) (fun _ _ _ hh h=>h.of_heap hh) own started (by kernel_rfl) Tryz.func8
    (ChangeSpec.witness_shaped (enc:=enc) (C:=Tryz.checked) (os:=os) (X:=fun w _=>laidMetH Tryz.prog Rows.rexTextsRow.laid w) false (World.laidAll Tryz.prog os Rows.rexTextsRow.laid) #[.string ByteArray.empty,.string ByteArray.empty] 8 (World.laidAll_os _ _ _)
      (World.shaped_of_ZipB (by kernel_rfl) (by kernel_rfl)) (by kernel_rfl) (by kernel_rfl) (by kernel_rfl)
      (by rw [MakeChecks.laidMetH_plain _ _ _ (by kernel_rfl)];exact laidMet_laidAll _ (by kernel_rfl) (by kernel_rfl))) ?_
  intro W base args ds gs before hval0 hW _ hsz0 hL _
  have hsz:(DataW.weightsEach Tryz.prog (Tryz.f8.params.toList ++ Rows.rexTextsSpec.plain.varTypes Tryz.prog) (ds ++ gs)).all (·≤reachBytes)=true:=hsz0
  have hval:∀(j:Nat) t v,Tryz.f8.params[j]?=some t→args[j]?=some v→Value.okWide Tryz.prog W .any base t v:=hval0
  have hW':=hW
  obtain ⟨p,q,hA0,hV,rfl,_,_⟩:=hW
  have hA:DataW.TrodAll enc Tryz.prog W 0 (fun _=>true) true Tryz.f8.params.toList args.toList ds p:=hA0
  rw [Tryz.params8] at hA hval hsz
  obtain ⟨v0,vs0,d0,ds0,p0,q0,hargs,rfl,rfl,h0,r0⟩:=trodAll_cons hA
  obtain ⟨v1,vs1,d1,ds1,p1,q1,rfl,rfl,rfl,h1,r1⟩:=trodAll_cons r0
  obtain ⟨rfl,rfl,rfl⟩:=trodAll_nil r1
  obtain rfl:args = #[v0,v1]:=by cases args;simp_all
  obtain ⟨rfl,rfl⟩:=trodVars_none hV
  obtain ⟨a0,rfl,rfl,rfl,y0⟩:=open_string Tryz.underlying9 (hval 0 9 v0 rfl rfl) h0
  have w0:a0.data.toList.length≤140737488351232:=by
    have z:=sized_string hsz (j:=0) (t:=9) rfl rfl
    exact z
  obtain ⟨a1,rfl,rfl,rfl,y1⟩:=open_string Tryz.underlying9 (hval 1 9 v1 rfl rfl) h1
  have w1:a1.data.toList.length≤140737488351232:=by
    have z:=sized_string hsz (j:=1) (t:=9) rfl rfl
    exact z
  clear hA0 hval0 hsz0 hsz
  have hS:=ZnR (tabs hL)
  obtain ⟨k,hk⟩:=Pure.RexTexts a0.data.toList a1.data.toList w0 w1
  refine (ZmL (Zrh k _ _ _ hk) hS ⟨_,_,rfl,⟨_,rfl,.str _⟩,⟨_,_,rfl,⟨_,rfl,.str _⟩,rfl⟩⟩).mono fun e W' ⟨he,bel⟩=>?_
  subst he
  exact ⟨_,rfl,_,_,_,[],_,[],hW',trodAll_mk1 (shut_bool Tryz.underlying4 _),(trodAll_cons_mk (shut_string Tryz.underlying9 y0) (trodAll_cons_mk (shut_string Tryz.underlying9 y1) trodAll_mk0)),rfl,bel.frame _,fun h=>by cases h⟩
theorem over:Rows.rexTextsRow.holds Tryz.pinned (OpenSpec.ofChange Rows.rexTextsSpec):=
  OpenClaim.holds_of_wide 8 Tryz.f8 rfl rfl rfl rfl rfl rfl rfl ⟨rfl,rfl,rfl,rfl,rfl⟩ rfl rfl rfl rfl rfl (by kernel_rfl) Tryz.func8 (by kernel_rfl)
    (of_decide_eq_true (by kernel_rfl)) (by unfold Func.isWrapper;first | (rw [if_pos (by decide +kernel)];kernel_rfl) | (rw [if_neg (by decide +kernel)];exact ⟨rfl,rfl⟩))
    (fun os started H enc _=>lifted os started H enc)
theorem card_holds:Rows.RexTextsCardSaid:=
  Claim7.holds_tied_plain_at .later [] [.data,.data,.data,.data,.sentinel,.sentinel,.pinned] true (true,"773e8328e7318b7f98927c444e50885c61c99cd9f53232fe82705b935b13e098") true over (fun _ h=>by cases h) (by kernel_rfl) (fun _ h=>by cases h) rexTexts_row_tie rfl ⟨rfl,rfl⟩ (by kernel_rfl) rfl
    (fun f fn hf hfn=>by
      obtain rfl:f=8:=zj_ ((show Tryz.prog.funcNamed Rows.rexTextsRow.func=some 8 by kernel_rfl).symm.trans hf) |>.symm
      obtain rfl:fn=Tryz.f8:=(zj_ (Tryz.func8.symm.trans hfn)).symm
      exact ⟨by kernel_rfl,fun j t ht=>by
        rw [Tryz.params8] at ht
        have hm:t∈[9,9]:=by simpa using Array.mem_of_getElem? ht
        have hall:([9,9].all fun u=>!Tryz.prog.wantsStandIn u)=true:=by kernel_rfl
        exact (show Tryz.prog.wantsStandIn t=false by simpa using List.all_eq_true.1 hall t hm)⟩)
    (by kernel_rfl)
#print axioms card_holds
end Go.Proofs.YthilboheomikjaaGreatDoor.rexTexts
end
