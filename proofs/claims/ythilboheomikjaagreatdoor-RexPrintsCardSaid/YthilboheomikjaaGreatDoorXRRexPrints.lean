/- RRexPrints -/
import Derived.Test.YthilboheomikjaaGreatDoorMRRexPrints6
set_option linter.unusedVariables false
set_option linter.unusedSimpArgs false
section
namespace Go.Proofs.YthilboheomikjaaGreatDoor.rexPrints
open Go.AL Go.RowKit Go.Shelf Go.Lib Go.ChangeShapes Go.WideShapes Go.ChangeAt
open Go.ChangeMaps (open_string shut_string)
set_option maxRecDepth 100000
theorem tabs {W:World} (hsh:W.ShapedOpen Tryz.prog) (hL:laidMetH Tryz.prog Rows.rexPrintsRow.laid W):∃μ,Tabs μ W:=by
  rw [MakeChecks.laidMetH_plain _ _ _ (by kernel_rfl)] at hL
  obtain ⟨m,hm⟩:=Tryz.laysM144.s1_3 W hsh
  refine ⟨m,utf8Tabs_of_reads { Tryz.lays197 with } u8x (ZpK ▸ Lib.laidMet.reads hL ?_) (ZoB ▸ Lib.laidMet.reads hL ?_),hm,Zo7 (Lib.laidMet.reads hL (.tail _ (.tail _ (.head _)))) (by kernel_rfl)⟩
  · exact .tail _ (.tail _ (.tail _ (.tail _ (.tail _ (.tail _ (.head _))))))
  · exact .tail _ (.tail _ (.tail _ (.head _)))
theorem lifted (os:Os) (started:os.Started) (H:Type) (enc:TypeId×Value→H) :
    ReturnsInHanded {} Tryz.checked os 14 .any (fun w args=>(Rows.rexPrintsSpec.pre enc Tryz.prog Tryz.f14 [] false w args∧laidMetH Tryz.prog Rows.rexPrintsRow.laid w)∧sizedMet enc Tryz.prog Tryz.f14 (OpenSpec.ofChange Rows.rexPrintsSpec) false w args)
      (Rows.rexPrintsSpec.post enc Tryz.prog Tryz.f14 false true false false):=by
  refine ZnV (C:=Tryz.checked) (X:=fun w _=>laidMetH Tryz.prog Rows.rexPrintsRow.laid w) (fun _ _ _ hh h=>h.of_heap hh) own started (by kernel_rfl) Tryz.func14
    (ChangeSpec.witness_shaped (enc:=enc) (C:=Tryz.checked) (os:=os) (X:=fun w _=>laidMetH Tryz.prog Rows.rexPrintsRow.laid w) false (World.laidAll Tryz.prog os Rows.rexPrintsRow.laid) #[.agg #[.int .i64 0,.slice none 0 0,.slice none 0 0,.int .i64 0,.int .i64 0],.string ByteArray.empty,.string ByteArray.empty] 8 (World.laidAll_os _ _ _)
      (World.shaped_of_ZipB (by kernel_rfl) (by kernel_rfl)) (by kernel_rfl) (by kernel_rfl) (by kernel_rfl)
      (by rw [MakeChecks.laidMetH_plain _ _ _ (by kernel_rfl)];exact laidMet_laidAll _ (by kernel_rfl) (by kernel_rfl))) ?_
  intro W base args ds gs before hsh hval0 hW hsz0 hL
  have hsz:(DataW.weightsEach Tryz.prog (Tryz.f14.params.toList ++ Rows.rexPrintsSpec.plain.varTypes Tryz.prog) (ds ++ gs)).all (·≤reachBytes)=true:=hsz0
  have hval:∀(j:Nat) t v,Tryz.f14.params[j]?=some t→args[j]?=some v→Value.okWide Tryz.prog W .any base t v:=hval0
  have hW':=hW
  obtain ⟨p,q,hA0,hV,rfl,_,_⟩:=hW
  have hA:DataW.TrodAll enc Tryz.prog W 0 (fun _=>true) true Tryz.f14.params.toList args.toList ds p:=hA0
  rw [Tryz.params14] at hA hval hsz
  obtain ⟨v0,vs0,d0,ds0,p0,q0,hargs,rfl,rfl,h0,r0⟩:=trodAll_cons hA
  obtain ⟨v1,vs1,d1,ds1,p1,q1,rfl,rfl,rfl,h1,r1⟩:=trodAll_cons r0
  obtain ⟨v2,vs2,d2,ds2,p2,q2,rfl,rfl,rfl,h2,r2⟩:=trodAll_cons r1
  obtain ⟨rfl,rfl,rfl⟩:=trodAll_nil r2
  obtain rfl:args = #[v0,v1,v2]:=by cases args;simp_all
  obtain ⟨rfl,rfl⟩:=trodVars_none hV
  have lt0:∀x∈p0,x.block<W.heap.size:=by obtain ⟨m,hm⟩:=h0;exact DataW.trod_lt m _ _ _ hm
  obtain ⟨a0,w0⟩:=ZrR (G:=fun _=>none) (sh:=Go.AL.shape []) (hval 0 35 v0 rfl rfl) h0
  obtain ⟨a1,rfl,rfl,rfl,y1⟩:=open_string Tryz.underlying9 (hval 1 9 v1 rfl rfl) h1
  have w1:a1.data.toList.length≤140737488351232:=by
    have z:=sized_string hsz (j:=1) (t:=9) rfl rfl
    exact z
  obtain ⟨a2,rfl,rfl,rfl,y2⟩:=open_string Tryz.underlying9 (hval 2 9 v2 rfl rfl) h2
  have w2:a2.data.toList.length≤140737488351232:=by
    have z:=sized_string hsz (j:=2) (t:=9) rfl rfl
    exact z
  clear hA0 hval0 hsz0 hsz
  obtain ⟨μ,hT⟩:=tabs hsh hL
  have hS:=Zsd hT
  obtain ⟨k,hk⟩:=Pure.RexPrints a0 a1.data.toList a2.data.toList w1 w2
  refine (ZmJ (Zrx k _ _ _ _ hk) hS ⟨_,_,rfl,w0,⟨_,_,rfl,⟨_,rfl,.str _⟩,⟨_,_,rfl,⟨_,rfl,.str _⟩,rfl⟩⟩⟩).mono fun e W' ⟨he,bel⟩=>?_
  subst he
  exact ⟨_,rfl,_,_,_,[],_,[],hW',trodAll_mk1 (shut_bool Tryz.underlying4 _),(trodAll_cons_mk (Below.trod Zrb (by kernel_rfl) (of_decide_eq_true (by kernel_rfl)) h0 bel lt0) (trodAll_cons_mk (shut_string Tryz.underlying9 y1) (trodAll_cons_mk (shut_string Tryz.underlying9 y2) trodAll_mk0))),rfl,bel.frame _,fun h=>by cases h⟩
theorem over:Rows.rexPrintsRow.holds Tryz.pinned (OpenSpec.ofChange Rows.rexPrintsSpec):=
  OpenClaim.holds_of_wide 14 Tryz.f14 rfl rfl rfl rfl rfl rfl rfl ⟨rfl,rfl,rfl,rfl,rfl⟩ rfl rfl rfl rfl rfl (by kernel_rfl) Tryz.func14 (by kernel_rfl)
    (of_decide_eq_true (by kernel_rfl)) (by unfold Func.isWrapper;first | (rw [if_pos (by decide +kernel)];kernel_rfl) | (rw [if_neg (by decide +kernel)];exact ⟨rfl,rfl⟩))
    (fun os started H enc _=>lifted os started H enc)
theorem card_holds:Rows.RexPrintsCardSaid:=
  Claim7.holds_tied_plain_at .later [] [.data,.data,.data,.data,.sentinel,.sentinel,.pinned] true (true,"773e8328e7318b7f98927c444e50885c61c99cd9f53232fe82705b935b13e098") true over (fun _ h=>by cases h) (by kernel_rfl) (fun _ h=>by cases h) rexPrints_row_tie rfl ⟨rfl,rfl⟩ (by kernel_rfl) rfl
    (fun f fn hf hfn=>by
      obtain rfl:f=14:=zj_ ((show Tryz.prog.funcNamed Rows.rexPrintsRow.func=some 14 by kernel_rfl).symm.trans hf) |>.symm
      obtain rfl:fn=Tryz.f14:=(zj_ (Tryz.func14.symm.trans hfn)).symm
      exact ⟨by kernel_rfl,fun j t ht=>by
        rw [Tryz.params14] at ht
        have hm:t∈[35,9,9]:=by simpa using Array.mem_of_getElem? ht
        have hall:([35,9,9].all fun u=>!Tryz.prog.wantsStandIn u)=true:=by kernel_rfl
        exact (show Tryz.prog.wantsStandIn t=false by simpa using List.all_eq_true.1 hall t hm)⟩)
    (by kernel_rfl)
#print axioms card_holds
end Go.Proofs.YthilboheomikjaaGreatDoor.rexPrints
end
