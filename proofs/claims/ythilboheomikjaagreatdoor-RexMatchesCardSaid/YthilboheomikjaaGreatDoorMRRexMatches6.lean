/- P6, P7, G13, Q9, N5, N6, G16, Q11 -/
import Derived.Test.YthilboheomikjaaGreatDoorMRRexMatches5
set_option linter.unusedVariables false
set_option linter.unusedSimpArgs false
section
namespace Go.Proofs.YthilboheomikjaaGreatDoor
open Go.AL Go.RowKit
set_option maxRecDepth 100000
def zRe:Ze:=⟨0,[],[],0,0⟩
def Zlw (k:Nat) (s:List UInt8) (p:Ze) (r:Zg):Option (Ze×Int):=
  cond r.f_over (some (zRe,8)) ((F32 k p).bind fun n=>cond (decide (n > 200)) (some (zRe,8)) ((F50 k p).bind fun d=>cond (decide (d > 14)) (some (zRe,8)) (some (p,0))))
def Zly (k:Nat) (s:List UInt8) (p:Ze) (r:Zg):Option (Ze×Int):=
  cond (decide (r.f_at<(s.length:Int))) (some (zRe,3)) ((F49 k s).bind fun b=>cond b (Zlw k s p r) (some (zRe,3)))
def Zlx (k:Nat) (s:List UInt8):Option (Ze×Int):=(F48 k ⟨s,0,false⟩).bind fun y=>match y with
  | none=>some (zRe,3)
  | some (p,r)=>Zly k s p r
def F27 (k:Nat) (s:List UInt8):Option (Ze×Int):=cond (decide ((s.length:Int) > 400)) (some (zRe,8)) (Zlx k s)
def ptrs:List (Nat×AT):=[(2,.val false [.ptr 0 1 0 0]),(3,.val false [.ptr 1 1 0 0])]
def FR (res:Ze×Int):Exit→S→Prop
  | .ret,s=>Zj s.env [2,3]=ptrs∧Zj s.os [0,1]=[(0,.box (pvL (Zc res.1))),(1,.box (pvL [.int .i64 res.2]))]
  | .panic ch,s=>ch=Zcp badV∧res=(zRe,3)∧Zj s.env [2,3]=ptrs∧∃(p:Ze) (n:Int),Zj s.os [0,1]=[(0,.box (pvL (Zc p))),(1,.box (pvL [.int .i64 n]))]
  | _,_=>False
def Zda:Option Code→Option Code
  | some (.seq _ (.seq _ (.seq _ c)))=>some c
  | _=>none
def Zpy:Option Code→Code
  | some (.seq _ (.seq _ (.seq (.seq _ (.cond _ c _)) _)))=>c
  | _=>.skip
def Zpz:Option Code→Code
  | some (.seq _ (.seq _ (.seq _ c)))=>c
  | _=>.skip
def ZpD:Option Code→Code
  | some (.seq _ (.seq _ (.seq _ (.seq (.seq _ (.cond _ c _)) _))))=>c
  | _=>.skip
def Zpb:Option Code→Code
  | some (.seq _ (.seq _ (.seq _ (.seq (.seq _ c) _))))=>c
  | _=>.skip
def ZnX:Option Code→Code
  | some (.seq _ (.seq _ (.seq _ (.seq _ c))))=>c
  | _=>.skip
theorem ZoI (k:Nat) (s:List UInt8) (res:Ze×Int) (hF:Zlx k s=some res) (c:Code) (hc:Zda Tryz.f27.body=some c) :
    WA Tryz.prog GL0 45 c ⟨(0,one (.str s)) :: ptrs,[(0,.box (pvL (Zc zRe))),(1,.box (pvL [.int .i64 0]))]⟩ (FR res):=by
  cases hc
  refine WA.seq ?_
  refine WA.reg [0,2,3,4] [0,1,112] [(2,.obj 112)] (env':=(0,one (.str s)) :: ptrs ++ [(4,.val false [.ptr 112 1 0 0])]) (os':=[(0,.box (pvL (Zc zRe))),(1,.box (pvL [.int .i64 0])),(112,.box (pvL (Zd ⟨s,0,false⟩)))]) (O:=[]) (by kernel_rfl) (sound _ _) trivial ?_
  refine WA.seq ?_
  obtain ⟨y,hy,hF⟩:=bind_some hF
  cases y with
  | none=>
    obtain rfl:=Option.some.inj hF
    refine WA.regP 1 [112] [2,3] [] badV (f:=48) (args:=[.val false [.ptr 0 1 0 0]]) (os:=[.box (pvL (Zd ⟨s,0,false⟩))]) (env1:=ptrs) (os1:=[(0,.box (pvL (Zc zRe))),(1,.box (pvL [.int .i64 0])),(112,.box (pvL (Zd ⟨s,0,false⟩)))]) (O:=[]) (by kernel_rfl) (sound _ _) trivial (by decide) (ZjA k _ _ hy) (fun psl hpsl=>?_)
    obtain ⟨ps,rfl⟩:=ZT hpsl
    exact ⟨rfl,rfl,by kernel_rfl,zRe,0,by kernel_rfl⟩
  | some y=>
    obtain ⟨p,r⟩:=y
    have hF:Zly k s p r=some res:=hF
    refine WA.reg [0,2,3,4] [0,1,112] [(1,.call [112] (.val true (pvL (Zc p))) [.box (pvL (Zd r))] [])] (env':=(0,one (.str s)) :: ptrs ++ [(4,.val false [.ptr 112 1 0 0])]) (os':=[(0,.box (pvL (Zc p))),(1,.box (pvL [.int .i64 0])),(112,.box (pvL (Zd r)))]) (O:=[Sim Tryz.prog GL0 48 [.val false [.ptr 0 1 0 0]] [.box (pvL (Zd ⟨s,0,false⟩))] (.val true (pvL (Zc p))) [.box (pvL (Zd r))],([112]:List Nat).Nodup]) (by kernel_rfl) (sound _ _) ⟨ZjA k _ _ hy,by decide,trivial⟩ ?_
    refine WA.seq ?_
    refine WA.seq ?_
    have hbad:some (zRe,3)=some res→WA Tryz.prog GL0 45 (Zpy (Zda Tryz.f27.body)) ⟨ptrs ++ [(4,.val false [.ptr 112 1 0 0])],[(0,.box (pvL (Zc p))),(1,.box (pvL [.int .i64 0])),(112,.box (pvL (Zd r)))]⟩ (FR res):=fun hF=>by
      obtain rfl:=Option.some.inj hF
      show WA Tryz.prog GL0 45 (.region 7 _ _) _ _
      refine WA.bad [2,3] (t:=70) (env1:=ptrs) (os1:=[(0,.box (pvL (Zc p))),(1,.box (pvL [.int .i64 0])),(112,.box (pvL (Zd r)))]) (O:=[]) (by kernel_rfl) (sound _ _) trivial ?_
      exact ⟨rfl,rfl,by kernel_rfl,p,0,by kernel_rfl⟩
    have hrest:Zlw k s p r=some res→WA Tryz.prog GL0 45 (Zpz (Zda Tryz.f27.body)) ⟨ptrs ++ [(4,.val false [.ptr 112 1 0 0])],[(0,.box (pvL (Zc p))),(1,.box (pvL [.int .i64 0])),(112,.box (pvL (Zd r)))]⟩ (FR res):=fun hF=>by
      have hlim:some (zRe,8)=some res→WA Tryz.prog GL0 45 (ZpD (Zda Tryz.f27.body)) ⟨ptrs,[(0,.box (pvL (Zc p))),(1,.box (pvL [.int .i64 0]))]⟩ (FR res):=fun hF=>by
        obtain rfl:=Option.some.inj hF
        show WA Tryz.prog GL0 45 (.seq (.region 9 _ _) .ret) _ _
        refine WA.seq ?_
        refine WA.reg [2,3] [0,1] [] (env':=ptrs) (os':=[(0,.box (pvL (Zc zRe))),(1,.box (pvL [.int .i64 8]))]) (O:=[]) (by kernel_rfl) (sound _ _) trivial ?_
        refine WA.ret ?_
        exact ⟨by kernel_rfl,by kernel_rfl⟩
      have hend:some (p,0)=some res→WA Tryz.prog GL0 45 (ZnX (Zda Tryz.f27.body)) ⟨ptrs,[(0,.box (pvL (Zc p))),(1,.box (pvL [.int .i64 0]))]⟩ (FR res):=fun hF=>by
        obtain rfl:=Option.some.inj hF
        show WA Tryz.prog GL0 45 (.seq (.region 10 _ _) .ret) _ _
        refine WA.seq ?_
        refine WA.reg [2,3] [0,1] [] (env':=ptrs) (os':=[(0,.box (pvL (Zc p))),(1,.box (pvL [.int .i64 0]))]) (O:=[]) (by kernel_rfl) (sound _ _) trivial ?_
        refine WA.ret ?_
        exact ⟨by kernel_rfl,by kernel_rfl⟩
      have hB:∀b:Bool,(b=true→some (zRe,8)=some res)→(b=false→some (p,0)=some res)→WA Tryz.prog GL0 45 (Zpb (Zda Tryz.f27.body)) ⟨ptrs ++ [(42,one (.bool b))],[(0,.box (pvL (Zc p))),(1,.box (pvL [.int .i64 0]))]⟩ (Then Tryz.prog GL0 45 (ZnX (Zda Tryz.f27.body)) (FR res)):=fun b h1 h2=>by
        show WA Tryz.prog GL0 45 (.cond (.tmp 42) _ _) _ _
        refine WA.cond (b:=b) rfl (fun hb=>?_) (fun hb=>?_)
        · refine WA.keep [2,3] [0,1] (env':=ptrs) (os':=[(0,.box (pvL (Zc p))),(1,.box (pvL [.int .i64 0]))]) (by kernel_rfl) (by kernel_rfl) ?_
          exact (hlim (h1 hb)).mono fun e s h=>by cases e <;> first | exact h | exact h.elim
        · refine WA.skip ?_
          refine WA.keep [2,3] [0,1] (env':=ptrs) (os':=[(0,.box (pvL (Zc p))),(1,.box (pvL [.int .i64 0]))]) (by kernel_rfl) (by kernel_rfl) ?_
          exact hend (h2 hb)
      show WA Tryz.prog GL0 45 (.seq (.seq (.region 8 _ _) _) _) _ _
      refine WA.seq (WA.seq ?_)
      unfold Zlw at hF
      rcases Bool.eq_false_or_eq_true r.f_over with hb | hb
      · have hF:=Zi hF hb
        refine WA.reg [2,3,42] [0,1] [(4,.bool true)] (env':=ptrs ++ [(42,one (.bool true))]) (os':=[(0,.box (pvL (Zc p))),(1,.box (pvL [.int .i64 0]))]) (O:=[r.f_over=true]) (by kernel_rfl) (sound _ _) ⟨hb,trivial⟩ ?_
        exact hB true (fun _=>hF) (fun h=>by cases h)
      · have hF:=Zh hF hb
        obtain ⟨n,hn,hF⟩:=bind_some hF
        rcases Bool.eq_false_or_eq_true (decide (n > 200)) with hb2 | hb2
        · have hF:=Zi hF hb2
          refine WA.reg [2,3,42] [0,1] [(4,.bool false),(6,.callR [] (one (.int .i64 n))),(9,.bool true)] (env':=ptrs ++ [(42,one (.bool true))]) (os':=[(0,.box (pvL (Zc p))),(1,.box (pvL [.int .i64 0]))]) (O:=[r.f_over=false,Sim Tryz.prog GL0 32 [.val true (pvL (Zc p))] [] (one (.int .i64 n)) [],([]:List Nat).Nodup,decide (n > 200)=true]) (by kernel_rfl) (sound _ _) ⟨hb,ZdK k _ _ hn,by decide,hb2,trivial⟩ ?_
          exact hB true (fun _=>hF) (fun h=>by cases h)
        · have hF:=Zh hF hb2
          obtain ⟨d,hd,hF⟩:=bind_some hF
          refine WA.reg [2,3,42] [0,1] [(4,.bool false),(6,.callR [] (one (.int .i64 n))),(9,.bool false),(11,.callR [] (one (.int .i64 d)))] (env':=ptrs ++ [(42,one (.bool (decide (d > 14))))]) (os':=[(0,.box (pvL (Zc p))),(1,.box (pvL [.int .i64 0]))]) (O:=[r.f_over=false,Sim Tryz.prog GL0 32 [.val true (pvL (Zc p))] [] (one (.int .i64 n)) [],([]:List Nat).Nodup,decide (n > 200)=false,Sim Tryz.prog GL0 50 [.val true (pvL (Zc p))] [] (one (.int .i64 d)) [],([]:List Nat).Nodup]) (by kernel_rfl) (sound _ _) ⟨hb,ZdK k _ _ hn,by decide,hb2,Zme k _ _ hd,by decide,trivial⟩ ?_
          exact hB (decide (d > 14)) (fun h=>Zi hF h) (fun h=>Zh hF h)
    unfold Zly at hF
    rcases Bool.eq_false_or_eq_true (decide (r.f_at<(s.length:Int))) with hb | hb
    · have hF:=Zi hF hb
      refine WA.reg [2,3,4,26] [0,1,112] [(7,.bool true)] (env':=ptrs ++ [(4,.val false [.ptr 112 1 0 0]),(26,one (.bool true))]) (os':=[(0,.box (pvL (Zc p))),(1,.box (pvL [.int .i64 0])),(112,.box (pvL (Zd r)))]) (O:=[decide (r.f_at<(s.length:Int))=true]) (by kernel_rfl) (sound _ _) ⟨hb,trivial⟩ ?_
      refine WA.cond (b:=true) rfl (fun _=>?_) (fun h=>by cases h)
      refine WA.keep [2,3,4] [0,1,112] (env':=ptrs ++ [(4,.val false [.ptr 112 1 0 0])]) (os':=[(0,.box (pvL (Zc p))),(1,.box (pvL [.int .i64 0])),(112,.box (pvL (Zd r)))]) (by kernel_rfl) (by kernel_rfl) ?_
      exact (hbad hF).mono fun e s h=>by cases e <;> first | exact h | exact h.elim
    · have hF:=Zh hF hb
      obtain ⟨y,hy,hF⟩:=bind_some hF
      refine WA.reg [2,3,4,26] [0,1,112] [(7,.bool false),(9,.callR [] (one (.bool y)))] (env':=ptrs ++ [(4,.val false [.ptr 112 1 0 0]),(26,one (.bool (!y)))]) (os':=[(0,.box (pvL (Zc p))),(1,.box (pvL [.int .i64 0])),(112,.box (pvL (Zd r)))]) (O:=[decide (r.f_at<(s.length:Int))=false,Sim Tryz.prog GL0 49 [one (.str s)] [] (one (.bool y)) [],([]:List Nat).Nodup]) (by kernel_rfl) (sound _ _) ⟨hb,Zhh k _ _ hy,by decide,trivial⟩ ?_
      refine WA.cond (b:=!y) rfl (fun hy'=>?_) (fun hy'=>?_)
      · have hF:=Zh hF (by simpa using hy')
        refine WA.keep [2,3,4] [0,1,112] (env':=ptrs ++ [(4,.val false [.ptr 112 1 0 0])]) (os':=[(0,.box (pvL (Zc p))),(1,.box (pvL [.int .i64 0])),(112,.box (pvL (Zd r)))]) (by kernel_rfl) (by kernel_rfl) ?_
        exact (hbad hF).mono fun e s h=>by cases e <;> first | exact h | exact h.elim
      · have hF:=Zi hF (by simpa using hy')
        refine WA.skip ?_
        refine WA.keep [2,3,4] [0,1,112] (env':=ptrs ++ [(4,.val false [.ptr 112 1 0 0])]) (os':=[(0,.box (pvL (Zc p))),(1,.box (pvL [.int .i64 0])),(112,.box (pvL (Zd r)))]) (by kernel_rfl) (by kernel_rfl) ?_
        exact hrest hF
end Go.Proofs.YthilboheomikjaaGreatDoor
end
section
namespace Go.Proofs.YthilboheomikjaaGreatDoor
open Go.AL
set_option maxRecDepth 100000
abbrev os27 (p:Ze) (n:Int):Objs:=[(0,.box (pvL (Zc p))),(1,.box (pvL [.int .i64 n]))]
abbrev ZaM (p:Ze) (n:Int):Objs:=[(102,.box (pvL (Zc p))),(103,.box (pvL [.int .i64 n]))]
def Zb3:List (Nat×AT):=[(2,.val false [.ptr 102 1 0 0]),(3,.val false [.ptr 103 1 0 0])]
def G01 (G:Nat→Option Nat):Nat→Option Nat:=fun k=>([102,103][k]?).bind G
theorem Zil {w0 w:World} {I0 I:Nat→Prop} {G0 G:Nat→Option Nat} {os0:Objs} {D:List Deferred} {a:Act} {p:Ze} {n:Int} (h1:Ext w0 w I0 I (Mine G0 os0) (Mine G (os27 p n))) (hh:∀k,I0 k→w.heap[k]?=w0.heap[k]?)
    (h3:Sr GL0 w I G (os27 p n)) (h4:Fr D w I G (Go.AL.shape (os27 p n)) 45 a ptrs) :
    ∃v,(results Tryz.f27 a.tmps).run Tryz.prog w = .ok v w∧∃v' I' G',Ending.returned v = .returned v'∧Ext w0 w I0 I' (Mine G0 os0) (Mine G' (ZA []))∧Sr GL0 w I' G' (ZA [])∧
      ATr w I' G' (Go.AL.shape (ZA [])) (.tup [(true,pvL (Zc p)),(false,[.pv (.int .i64 n)])]) v'∧ZI (· < 0) w0 w I0 I' G0 G' (Go.AL.shape os0) (Go.AL.shape (ZA [])):=by
  obtain ⟨v,hv,hr⟩:=Zks (fn:=Tryz.f27) (st:=⟨ptrs,os27 p n⟩) (x:=.tup [(true,pvL (Zc p)),(false,[.pv (.int .i64 n)])]) h3 h4 (by kernel_rfl)
  obtain ⟨s1,k1⟩:=h3.sub (os':=ZA []) fun k o h=>by rw [ZG] at h;simp at h
  refine ⟨v,hv,v,I,G,rfl,⟨h1.size,h1.os,h1.tape,h1.output,h1.keep,h1.imm,h1.inew,fun k ⟨id,o,q1,q2⟩=>by rw [ZG] at q1;simp at q1⟩,s1,?_,⟨hh,h1.imm,fun id s m h=>absurd h (Nat.not_lt_zero _)⟩⟩
  exact hr.mono (R:=Zhv) (Zch (fun _ _=>rfl) fun _ h=>h) ⟨⟨trivial,trivial,trivial,trivial,trivial,trivial⟩,⟨trivial,trivial⟩,trivial⟩
theorem to01 {D:List Deferred} {w:World} {I:Nat→Prop} {G:Nat→Option Nat} {a:Act} {p:Ze} {n:Int} (h3:Sr GL0 w I G (ZaM p n)) (h4:Fr D w I G (Go.AL.shape (ZaM p n)) 45 a Zb3) :
    Sr GL0 w I (G01 G) (os27 p n)∧Fr D w I (G01 G) (Go.AL.shape (os27 p n)) 45 a ptrs∧∀k,Mine (G01 G) (os27 p n) k↔Mine G (ZaM p n) k:=by
  have hr:=h3.ren (st:=⟨[],ZaM p n⟩) (ids:=[102,103]) (os:=[.box (pvL (Zc p)),.box (pvL [.int .i64 n])]) ⟨_,rfl,rfl⟩ (by decide) rfl
  refine ⟨hr,⟨h4.size,h4.defers,fun t x hx=>?_⟩,fun k=>⟨fun ⟨id,o,q1,q2⟩=>?_,fun ⟨id,o,q1,q2⟩=>?_⟩⟩
  · simp only [ptrs,Zz] at hx
    split at hx
    · rename_i e;subst e;cases hx
      obtain ⟨q1,q2⟩:=h4.slot 2 _ rfl
      obtain ⟨r1,r2⟩:=ZC q2
      exact ⟨q1,_,rfl,r1,fun s m h=>r2 s m h⟩
    · split at hx
      · rename_i e;subst e;cases hx
        obtain ⟨q1,q2⟩:=h4.slot 3 _ rfl
        obtain ⟨r1,r2⟩:=ZC q2
        exact ⟨q1,_,rfl,r1,fun s m h=>r2 s m h⟩
      · cases hx
  · simp only [os27,Zz] at q1
    split at q1
    · rename_i e;subst e;exact ⟨102,_,rfl,q2⟩
    · split at q1
      · rename_i e;subst e;exact ⟨103,_,rfl,q2⟩
      · cases q1
  · simp only [ZaM,Zz] at q1
    split at q1
    · rename_i e;subst e;exact ⟨0,_,rfl,q2⟩
    · split at q1
      · rename_i e;subst e;exact ⟨1,_,rfl,q2⟩
      · cases q1
theorem ZiR {l:List (Nat×AT)} (hl:l=ptrs∨l=Zb3) {s:List UInt8} {t:Nat} {x:AT} (h:Go.AL.look l t=some x):Go.AL.look ((0,one (.str s)) :: l) t=some x:=by
  rw [Zz]
  split
  · rename_i e;subst e;rcases hl with rfl | rfl <;> cases h
  · exact h
theorem ZpF {D:List Deferred} {w:World} {I:Nat→Prop} {G:Nat→Option Nat} {a:Act} {p:Ze} {n:Int} {s:List UInt8} (h3:Sr GL0 w I G (ZaM p n)) (h4:Fr D w I G (Go.AL.shape (ZaM p n)) 45 a ((0,one (.str s)) :: Zb3)) :
    Sr GL0 w I (G01 G) (os27 p n)∧Fr D w I (G01 G) (Go.AL.shape (os27 p n)) 45 a ((0,one (.str s)) :: ptrs)∧∀k,Mine (G01 G) (os27 p n) k↔Mine G (ZaM p n) k:=by
  obtain ⟨q1,q2,q3⟩:=to01 h3 ⟨h4.size,h4.defers,fun t x hx=>h4.slot t x (ZiR (.inr rfl) hx)⟩
  refine ⟨q1,⟨q2.size,q2.defers,fun t x hx=>?_⟩,q3⟩
  rw [Zz] at hx
  split at hx
  · rename_i e;subst e;cases hx
    obtain ⟨r1,r2⟩:=h4.slot 0 _ rfl
    exact ⟨r1,r2.mono (Zch (fun _ _=>rfl) fun _ h=>h) ⟨trivial,trivial⟩⟩
  · exact q2.slot t x hx
theorem Zn1 {D:List Deferred} {w:World} {I:Nat→Prop} {G:Nat→Option Nat} {a:Act} {p:Ze} {n:Int} (h3:Sr GL0 w I G (os27 p n)) (h4:Fr D w I G (Go.AL.shape (os27 p n)) 45 a ptrs) :
    ∃b c,G 0=some b∧G 1=some c∧a.tmps.getD 2 undef = .pointer (some ⟨b,0,none⟩)∧a.tmps.getD 3 undef = .pointer (some ⟨c,0,none⟩):=by
  obtain ⟨_,q2⟩:=h4.slot 2 _ rfl
  obtain ⟨_,q3⟩:=h4.slot 3 _ rfl
  have r2:=((ZC q2).2 _ _ rfl).2 rfl
  have r3:=((ZC q3).2 _ _ rfl).2 rfl
  cases hb:G 0 with
  | none=>have:=h3.none_ 0 _ rfl hb;simp [Obj.els] at this
  | some b=>
    cases hc:G 1 with
    | none=>have:=h3.none_ 1 _ rfl hc;simp [Obj.els] at this
    | some c=>exact ⟨b,c,rfl,rfl,r2 b hb,r3 c hc⟩
def Zpo:Option Code→Code
  | some (.seq a _)=>a
  | _=>.skip
def Zpf:Option Code→Code
  | some (.seq _ (.seq b _))=>b
  | _=>.skip
def Zoo:Option Code→Code
  | some (.seq _ (.seq _ (.seq c _)))=>c
  | _=>.skip
def FA (s:List UInt8):Exit→S→Prop
  | .normal,st=>st=⟨(0,one (.str s)) :: Zb3,ZaM zRe 0⟩
  | _,_=>False
def FB (k:Nat) (s:List UInt8) (res:Ze×Int):Exit→S→Prop
  | .normal,st=>st=⟨(0,one (.str s)) :: Zb3,ZaM zRe 0⟩∧Zlx k s=some res
  | .ret,st=>st=⟨Zb3,ZaM res.1 res.2⟩
  | _,_=>False
theorem ZoH (s:List UInt8):WA Tryz.prog GL0 45 (Zpo Tryz.f27.body) ⟨[(0,one (.str s))],[]⟩ (FA s):=by
  show WA Tryz.prog GL0 45 (.region 0 _ _) _ _
  exact WA.reg [0,2,3] [102,103] [(0,.obj 102),(1,.obj 103)] (env':=(0,one (.str s)) :: Zb3) (os':=ZaM zRe 0) (O:=[]) (by kernel_rfl) (sound _ _) trivial rfl
theorem Zow (k:Nat) (s:List UInt8) (res:Ze×Int) (hF:F27 k s=some res) :
    WA Tryz.prog GL0 45 (Zpf Tryz.f27.body) ⟨(0,one (.str s)) :: Zb3,ZaM zRe 0⟩ (FB k s res):=by
  show WA Tryz.prog GL0 45 (.seq _ (.cond (.tmp 7) _ _)) _ _
  refine WA.seq ?_
  refine WA.reg [0,2,3,7] [102,103] [] (env':=(0,one (.str s)) :: Zb3 ++ [(7,one (.bool (decide ((s.length:Int) > 400))))]) (os':=ZaM zRe 0) (O:=[]) (by kernel_rfl) (sound _ _) trivial ?_
  refine WA.cond (b:=decide ((s.length:Int) > 400)) rfl (fun hb=>?_) (fun hb=>?_)
  · have hF:=Zi hF hb
    obtain rfl:=Option.some.inj hF
    refine WA.seq ?_
    refine WA.reg [2,3] [102,103] [] (env':=Zb3) (os':=ZaM zRe 8) (O:=[]) (by kernel_rfl) (sound _ _) trivial ?_
    refine WA.ret ?_
    rfl
  · have hF:=Zh hF hb
    refine WA.keep [0,2,3] [102,103] (env':=(0,one (.str s)) :: Zb3) (os':=ZaM zRe 0) (by kernel_rfl) (by kernel_rfl) ?_
    refine WA.skip ?_
    exact ⟨rfl,hF⟩
def defd (x y:Value):Deferred:=⟨.fn (.func 47) #[x,y],#[]⟩
theorem Zno {a:Act} {w:World} {Q:Exit→Act→World→Prop} (ha:a.defers=[]) (h:Q .normal { tmps:=(a.tmps.setIfInBounds 9 (.func (.func 47) #[] #[a.tmps.getD 2 undef,a.tmps.getD 3 undef])),defers:=[defd (a.tmps.getD 2 undef) (a.tmps.getD 3 undef)] } w) (hs:a.tmps.size=45) :
    (Zoo Tryz.f27.body).wp Tryz.prog Q a w:=by
  show (Code.region 3 _ _).wp _ _ _ _
  refine wp_region_list ?_
  obtain ⟨tm,df⟩:=a
  simp only at ha hs h;subst ha
  simp only [wpList,Region.wanted]
  refine .inl ?_
  simp only [Oper.wp,execOp]
  have e1:Sem.run Tryz.prog (do
        let x ←Instr.makeFunc (Fn.func 47) (Array.map (Act.eval { tmps:=tm,defers:=[] }) #[]) (Array.map (Act.eval { tmps:=tm,defers:=[] }) #[Operand.tmp 2,Operand.tmp 3])
        pure (Next.value x)) w = .ok (.value (.func (.func 47) #[] #[tm.getD 2 undef,tm.getD 3 undef])) w:=by simp [Instr.makeFunc,Act.eval]
  rw [e1,Oper.upon_value,if_pos trivial]
  refine .inl ?_
  have h9:(tm.setIfInBounds 9 (Value.func (Fn.func 47) #[] #[tm.getD 2 undef,tm.getD 3 undef])).getD 9 undef=Value.func (Fn.func 47) #[] #[tm.getD 2 undef,tm.getD 3 undef]:=by
    rw [Array.getD_eq_getD_getElem?,Array.getElem?_setIfInBounds];simp [hs]
  have e2:Sem.run Tryz.prog (do
        let x ←resolve (Act.eval { tmps:=tm.setIfInBounds 9 (Value.func (Fn.func 47) #[] #[tm.getD 2 undef,tm.getD 3 undef]),defers:=[] }) { callee:=Callee.value (Operand.tmp 9),args:=#[],argTypes:=#[] } 0
        pure (Next.defer x)) w = .ok (.defer (defd (tm.getD 2 undef) (tm.getD 3 undef))) w:=by
    simp only [resolve,Act.eval,h9,Deferred.ofValue]
    simp [defd]
  simp only [Act.put]
  rw [e2,Oper.upon_defer]
  exact h
theorem Zjx (k:Nat) (s:List UInt8) (res:Ze×Int) (hF:F27 k s=some res) :
    Sim Tryz.prog GL0 27 [one (.str s)] [] (.tup [(true,pvL (Zc res.1)),(false,[.pv (.int .i64 res.2)])]) []:=by
  intro w I G vs hs ha
  obtain ⟨v,_,rfl,hv,rfl⟩:=ha
  refine calls_of_wp_defers Tryz.func27 rfl ?_
  refine wp_seq (wp_mono (ZoH s [] w I G (ZA []) w I G _ (.refl _ _ _) (.refl _ _ _ _ _) hs ?_) ?_)
  · refine ⟨by simp [Tryz.ntmps27],rfl,fun t x hx=>?_⟩
    simp only [Zz] at hx
    split at hx
    · rename_i e;subst e;cases hx
      refine ⟨by omega,?_⟩
      rw [Array.getD_eq_getD_getElem?,Array.getElem?_append_left (by simp)]
      exact hv
    · cases hx
  rintro e a1 w1 ⟨I1,G1,s1,e1,k1,r1,f1,q1⟩
  cases e with
  | normal=>
    cases q1
    refine wp_seq (wp_mono (Zow k s res hF [] w I G (ZA []) w1 I1 G1 a1 e1 k1 r1 f1) ?_)
    rintro e a2 w2 ⟨I2,G2,s2,e2,k2,r2,f2,q2⟩
    cases e with
    | normal=>
      obtain ⟨rfl,hF2⟩:=q2
      obtain ⟨r3,f3,m3⟩:=ZpF r2 f2
      obtain ⟨b,c,gb,gc,vb,vc⟩:=Zn1 r3 ⟨f3.size,f3.defers,fun t x hx=>f3.slot t x (ZiR (.inl rfl) hx)⟩
      refine wp_seq (Zno f2.defers ?_ f2.size)
      rw [vb,vc]
      refine wp_mono (ZoI k s res hF2 _ rfl [defd (.pointer (some ⟨b,0,none⟩)) (.pointer (some ⟨c,0,none⟩))] w2 I2 (G01 G2) (os27 zRe 0) w2 I2 (G01 G2) _ (.refl _ _ _) (.refl _ _ _ _ _) r3 ⟨by simp [f3.size],rfl,fun t x hx=>?_⟩) ?_
      · obtain ⟨x1,x2⟩:=f3.slot t x hx
        have ht:t≠9:=fun e=>by subst e;cases hx
        refine ⟨x1,?_⟩
        rw [Array.getD_eq_getD_getElem?] at x2 ⊢
        rw [Array.getElem?_setIfInBounds,if_neg (fun e=>ht e.symm)];exact x2
      have gl:∀{w4 I4 G4} {p:Ze} {n:Int},Ext w2 w4 I2 I4 (Mine (G01 G2) (os27 zRe 0)) (Mine G4 (os27 p n))→
          Ext w w4 I I4 (Mine G (ZA [])) (Mine G4 (os27 p n)):=fun e4=>
        ⟨Nat.le_trans e2.size e4.size,e4.os.trans e2.os,e4.tape.trans e2.tape,e4.output.trans e2.output,fun k h h'=>by
            rw [e4.keep k (Nat.lt_of_lt_of_le h e2.size) (fun h2=>((e2.mnew k ((m3 k).1 h2)).elim h' (fun h3=>by omega))),e2.keep k h h'],
          fun k h=>e4.imm k (e2.imm k h),fun k h=>by
            rcases e4.inew k h with h | h | h
            · exact e2.inew k h
            · exact (e2.mnew k ((m3 k).1 h)).elim (fun h=>.inr (.inl h)) (fun h=>.inr (.inr h))
            · exact .inr (.inr (Nat.le_trans e2.size h)),
          fun k h=>(e4.mnew k h).elim (fun h=>(e2.mnew k ((m3 k).1 h)).elim .inl .inr) (fun h=>.inr (Nat.le_trans e2.size h))⟩
      rintro e a4 w4 ⟨I4,G4,⟨env4,os4⟩,e4,k4,r4,f4,q4⟩
      have sub:∀{p:Ze} {n:Int},Zj env4 [2,3]=ptrs→Zj os4 [0,1]=os27 p n→Sr GL0 w4 I4 G4 (os27 p n)∧Fr [defd (.pointer (some ⟨b,0,none⟩)) (.pointer (some ⟨c,0,none⟩))] w4 I4 G4 (Go.AL.shape (os27 p n)) 45 a4 ptrs∧
          Ext w2 w4 I2 I4 (Mine (G01 G2) (os27 zRe 0)) (Mine G4 (os27 p n))∧G4 0=some b∧G4 1=some c:=fun {p n} he ho=>by
        have hl:∀k o,Go.AL.look (os27 p n) k=some o→Go.AL.look os4 k=some o:=fun k o h=>by rw [←ho] at h;exact ZS h
        obtain ⟨r5,k5⟩:=r4.sub (os':=os27 p n) hl
        refine ⟨r5,⟨f4.size,f4.defers,fun t x hx=>?_⟩,⟨e4.size,e4.os,e4.tape,e4.output,e4.keep,e4.imm,e4.inew,fun k ⟨id,o,q1,q2⟩=>e4.mnew k ⟨id,o,hl id o q1,q2⟩⟩,?_,?_⟩
        · rw [←he] at hx
          obtain ⟨x1,x2⟩:=f4.slot t x (ZS hx)
          exact ⟨x1,x2.mono k5 (AT.refs_any x)⟩
        · obtain ⟨m0,j1,j2,j3⟩:=(k4.trans (k5.weaken fun _ _=>trivial)).objs 0 _ _ (by omega) rfl
          cases j1
          rw [(j3 rfl).1];exact gb
        · obtain ⟨m0,j1,j2,j3⟩:=(k4.trans (k5.weaken fun _ _=>trivial)).objs 1 _ _ (by omega) rfl
          cases j1
          rw [(j3 rfl).1];exact gc
      have inv:∀w,(Go.invoke (defd (.pointer (some ⟨b,0,none⟩)) (.pointer (some ⟨c,0,none⟩))).target #[]).run Tryz.prog w = .ok (.enter 47 #[.pointer (some ⟨b,0,none⟩),.pointer (some ⟨c,0,none⟩)]) w:=fun w=>by kernel_rfl
      have hh:∀k,I k→w4.heap[k]?=w.heap[k]?:=fun k hk=>by rw [k4.heap k (k2.imm k hk),k2.heap k hk]
      cases e with
      | ret=>
        obtain ⟨he,ho⟩:=q4
        obtain ⟨r5,f5,e5,g0,g1⟩:=sub he ho
        show Leaves _ _ _ _ a4.defers _ _
        rw [f5.defers]
        refine ⟨by simp,_,_,47,_,rfl,inv w4,fun c0 cs hm=>?_⟩
        obtain ⟨e',u',w',fr,⟨rfl,rfl,rfl⟩,hc⟩:=ZlH ⟨b,0,none⟩ ⟨c,0,none⟩ w4 c0 cs hm
        refine ⟨_,_,_,_,?_,hc⟩
        obtain ⟨p1,p2,p3⟩:=r5.imm (.cells #[] 70)
        exact Zil (gl (e5.trans p3)) (fun k hk=>by rw [p2.heap k (e4.imm k (e2.imm k hk)),hh k hk]) p1 ⟨f5.size,f5.defers,fun t x hx=>⟨(f5.slot t x hx).1,(f5.slot t x hx).2.mono p2 (AT.refs_any x)⟩⟩
      | panic ch=>
        obtain ⟨rfl,rfl,he,p,n,ho⟩:=q4
        obtain ⟨r5,f5,e5,g0,g1⟩:=sub he ho
        show Leaves _ _ _ _ a4.defers _ _
        rw [f5.defers]
        refine ⟨by simp,_,_,47,_,rfl,inv w4,fun c0 cs hm=>?_⟩
        obtain ⟨p1,p2,p3⟩:=r5.imm (.cells #[] 70)
        have f6:Fr _ _ _ G4 (Go.AL.shape (os27 p n)) 45 a4 ptrs:=⟨f5.size,f5.defers,fun t x hx=>⟨(f5.slot t x hx).1,(f5.slot t x hx).2.mono p2 (AT.refs_any x)⟩⟩
        obtain ⟨b',c',gb',gc',vb',vc'⟩:=Zn1 p1 f6
        rw [g0] at gb';cases gb'
        rw [g1] at gc';cases gc'
        have hx0:=(f6.slot 2 _ rfl).2
        have hx1:=(f6.slot 3 _ rfl).2
        rw [vb'] at hx0;rw [vc'] at hx1
        obtain ⟨_,w6,G6,st6,x6,s6,mv6⟩:=ZgN (P:=Tryz.prog) (st:=⟨[],os27 p n⟩) (t:=35) (x:=.val false [.ptr 0 1 0 0]) (y:=.val true (pvL (Zc zRe))) (h:=none) (z:=.tup []) (os':=os27 zRe n) (O:=[]) (by kernel_rfl) trivial p1 hx0
          (v:=.agg #[.int .i64 0,.slice none 0 0,.slice none 0 0,.int .i64 0,.int .i64 0]) ⟨_,rfl,_,_,rfl,PVr.int _ _,_,_,rfl,PVr.sl0 _ _,_,_,rfl,PVr.sl0 _ _,_,_,rfl,PVr.int _ _,_,_,rfl,PVr.int _ _,rfl⟩
        have hx1':=hx1.mono mv6.keeps ⟨show (1:Nat)<100 by omega,trivial⟩
        obtain ⟨_,w7,G7,st7,x7,s7,mv7⟩:=ZgN (P:=Tryz.prog) (st:=⟨[],os27 zRe n⟩) (t:=3) (x:=.val false [.ptr 1 1 0 0]) (y:=one (.int .i64 3)) (h:=none) (z:=.tup []) (os':=os27 zRe 3) (O:=[]) (by kernel_rfl) trivial s6 hx1'
          (v:=.int .i64 3) ⟨_,rfl,PVr.int _ _⟩
        obtain ⟨e',u',w',fr,⟨rfl,rfl,rfl⟩,hc⟩:=Zmp ⟨b,0,none⟩ ⟨c,0,none⟩ w4 w6 w7 st6 st7 c0 cs hm
        refine ⟨_,_,_,_,?_,hc⟩
        have k7:=mv6.keeps.trans mv7.keeps
        refine Zil (p:=zRe) (n:=3) (gl (e5.trans (p3.trans (x6.trans x7)))) (fun k hk=>?_) s7 ⟨f6.size,f6.defers,fun t x hx=>⟨(f6.slot t x hx).1,?_⟩⟩
        · have h4:=e4.imm k (e2.imm k hk)
          rw [k7.heap k (p2.imm k h4),p2.heap k h4,hh k hk]
        · refine (f6.slot t x hx).2.mono k7 ?_
          simp only [ptrs,Zz] at hx
          split at hx
          · cases hx;exact ⟨show (0:Nat)<100 by omega,trivial⟩
          · split at hx
            · cases hx;exact ⟨show (1:Nat)<100 by omega,trivial⟩
            · cases hx
      | _=>exact q4.elim
    | ret=>
      cases q2
      obtain ⟨r3,f3,m3⟩:=to01 r2 f2
      show Leaves _ _ _ _ a2.defers _ _
      rw [f2.defers]
      refine Zil ⟨e2.size,e2.os,e2.tape,e2.output,e2.keep,e2.imm,e2.inew,fun k h=>e2.mnew k ((m3 k).1 h)⟩ k2.heap r3 f3
    | _=>exact q2.elim
  | _=>exact q1.elim
end Go.Proofs.YthilboheomikjaaGreatDoor
end
section
namespace Go.Proofs.YthilboheomikjaaGreatDoor
open Go.AL
set_option maxRecDepth 100000
def Za0 (v122:Bool):Option Bool:=
  some v122
def F26 (k:Nat):Option Bool:=
  (F27 k ([97,123,50,125]:List UInt8)).bind fun y101=>(F27 k ([97,42,42]:List UInt8)).bind fun y102=>(F27 k ([97,123,50,49,125]:List UInt8)).bind fun y103=>(cond (y101.2 == 0) (cond (y101.1.f_Kind == 4) (cond (y101.1.f_Min == 2) (cond (y101.1.f_Max == 2) (cond (y102.2 == 3) (cond (y103.2 == 8) ((F31 k y101.1 ([97,97]:List UInt8)).bind fun y110=>cond y110 ((F31 k y101.1 ([97]:List UInt8)).bind fun y112=>cond (!y112) ((F34 k).bind fun y114=>(F31 k y114 ([120,195,169]:List UInt8)).bind fun y115=>cond y115 ((F33 k ([97,46,98]:List UInt8)).bind fun y117=>(F31 k y117 ([97,46,98]:List UInt8)).bind fun y118=>cond y118 ((F33 k ([97,46,98]:List UInt8)).bind fun y120=>(F31 k y120 ([97,120,98]:List UInt8)).bind fun y121=>(Za0 (!y121))) ((Za0 false))) ((Za0 false))) ((Za0 false))) ((Za0 false))) ((Za0 false))) ((Za0 false))) ((Za0 false))) ((Za0 false))) ((Za0 false))) ((Za0 false)))
theorem ZaF (k:Nat) (r:Bool) (hF:F26 k=some r):Sim Tryz.prog GL0 26 [] [] (one (.bool r)) []:=by
 refine ZB [] Tryz.func26 rfl kr kr ?_
 show WA _ _ 66 _ _ _
 refine WA.seq ?_
 refine WA.reg [] [] [] (env':=[]) (os':=[]) (O:=[]) kr (sound _ _) trivial ?_
 refine WA.seq ?_
 obtain ⟨y101,hy101,hF⟩:=bind_some hF
 refine WA.reg [1,2] [101] [(0,.callR [] (.tup [(true,pvL (Zc y101.1)),(false,[.pv (.int .i64 y101.2)])])),(4,.obj 101)] (env':=[(1,.val false [.ptr 101 1 0 0]),(2,one (.int .i64 y101.2))]) (os':=[(101,.box (pvL (Zc y101.1)))]) (O:=[Sim Tryz.prog GL0 27 [one (.str ([97,123,50,125]:List UInt8))] [] (.tup [(true,pvL (Zc y101.1)),(false,[.pv (.int .i64 y101.2)])]) [],([]:List Nat).Nodup]) kr (sound _ _) ⟨(Zjx k _ _ hy101),(by decide),trivial⟩ ?_
 refine WA.seq ?_
 obtain ⟨y102,hy102,hF⟩:=bind_some hF
 refine WA.reg [1,2,4] [101] [(0,.callR [] (.tup [(true,pvL (Zc y102.1)),(false,[.pv (.int .i64 y102.2)])])),(4,.obj 103)] (env':=[(1,.val false [.ptr 101 1 0 0]),(2,one (.int .i64 y101.2)),(4,one (.int .i64 y102.2))]) (os':=[(101,.box (pvL (Zc y101.1)))]) (O:=[Sim Tryz.prog GL0 27 [one (.str ([97,42,42]:List UInt8))] [] (.tup [(true,pvL (Zc y102.1)),(false,[.pv (.int .i64 y102.2)])]) [],([]:List Nat).Nodup]) kr (sound _ _) ⟨(Zjx k _ _ hy102),(by decide),trivial⟩ ?_
 refine WA.seq ?_
 obtain ⟨y103,hy103,hF⟩:=bind_some hF
 refine WA.reg [1,2,4,6] [101] [(0,.callR [] (.tup [(true,pvL (Zc y103.1)),(false,[.pv (.int .i64 y103.2)])])),(4,.obj 105)] (env':=[(1,.val false [.ptr 101 1 0 0]),(2,one (.int .i64 y101.2)),(4,one (.int .i64 y102.2)),(6,one (.int .i64 y103.2))]) (os':=[(101,.box (pvL (Zc y101.1)))]) (O:=[Sim Tryz.prog GL0 27 [one (.str ([97,123,50,49,125]:List UInt8))] [] (.tup [(true,pvL (Zc y103.1)),(false,[.pv (.int .i64 y103.2)])]) [],([]:List Nat).Nodup]) kr (sound _ _) ⟨(Zjx k _ _ hy103),(by decide),trivial⟩ ?_
 refine WA.join (fun s_=>∃(v122:Bool),Zj s_.env [0]=[(0,one (.bool v122))]∧Zj s_.os []=[]∧Za0 v122=some r) ?_ ?_
 {
 rintro s_ ⟨v122,he,ho,hF⟩
 refine WA.keep _ _ he ho ?_
 clear he ho
 refine WA.ret ?_
 obtain rfl:=Option.some.inj hF
 exact Zq (one (.bool v122)) [] kr kr kr kr (by decide) rfl rfl }
 {
 rcases Bool.eq_false_or_eq_true (y101.2 == 0) with hb104 | hb104
 {
 have hF:=Zi hF hb104
 rcases Bool.eq_false_or_eq_true (y101.1.f_Kind == 4) with hb105 | hb105
 {
 have hF:=Zi hF hb105
 rcases Bool.eq_false_or_eq_true (y101.1.f_Min == 2) with hb106 | hb106
 {
 have hF:=Zi hF hb106
 rcases Bool.eq_false_or_eq_true (y101.1.f_Max == 2) with hb107 | hb107
 {
 have hF:=Zi hF hb107
 rcases Bool.eq_false_or_eq_true (y102.2 == 3) with hb108 | hb108
 {
 have hF:=Zi hF hb108
 rcases Bool.eq_false_or_eq_true (y103.2 == 8) with hb109 | hb109
 {
 have hF:=Zi hF hb109
 obtain ⟨y110,hy110,hF⟩:=bind_some hF
 rcases Bool.eq_false_or_eq_true y110 with hb111 | hb111
 {
 have hF:=Zi hF hb111
 obtain ⟨y112,hy112,hF⟩:=bind_some hF
 rcases Bool.eq_false_or_eq_true (!y112) with hb113 | hb113
 {
 have hF:=Zi hF hb113
 obtain ⟨y114,hy114,hF⟩:=bind_some hF
 obtain ⟨y115,hy115,hF⟩:=bind_some hF
 rcases Bool.eq_false_or_eq_true y115 with hb116 | hb116
 {
 have hF:=Zi hF hb116
 obtain ⟨y117,hy117,hF⟩:=bind_some hF
 obtain ⟨y118,hy118,hF⟩:=bind_some hF
 rcases Bool.eq_false_or_eq_true y118 with hb119 | hb119
 {
 have hF:=Zi hF hb119
 obtain ⟨y120,hy120,hF⟩:=bind_some hF
 obtain ⟨y121,hy121,hF⟩:=bind_some hF
 refine WA.reg [0] [] [(2,.bool true),(7,.bool true),(12,.bool true),(17,.bool true),(21,.bool true),(25,.bool true),(27,.callR [] (one (.bool y110))),(29,.bool true),(31,.callR [] (one (.bool y112))),(34,.bool true),(35,.callR [] (.val true (pvL (Zc y114)))),(36,.callR [] (one (.bool y115))),(38,.bool true),(39,.callR [] (.val true (pvL (Zc y117)))),(40,.callR [] (one (.bool y118))),(42,.bool true),(43,.callR [] (.val true (pvL (Zc y120)))),(44,.callR [] (one (.bool y121)))] (env':=[(0,one (.bool (!y121)))]) (os':=[]) (O:=[(y101.2 == 0)=true,(y101.1.f_Kind == 4)=true,(y101.1.f_Min == 2)=true,(y101.1.f_Max == 2)=true,(y102.2 == 3)=true,(y103.2 == 8)=true,Sim Tryz.prog GL0 31 [.val true (pvL (Zc y101.1)),one (.str ([97,97]:List UInt8))] [] (one (.bool y110)) [],([]:List Nat).Nodup,y110=true,Sim Tryz.prog GL0 31 [.val true (pvL (Zc y101.1)),one (.str ([97]:List UInt8))] [] (one (.bool y112)) [],([]:List Nat).Nodup,(!y112)=true,Sim Tryz.prog GL0 34 [] [] (.val true (pvL (Zc y114))) [],([]:List Nat).Nodup,Sim Tryz.prog GL0 31 [.val true (pvL (Zc y114)),one (.str ([120,195,169]:List UInt8))] [] (one (.bool y115)) [],([]:List Nat).Nodup,y115=true,Sim Tryz.prog GL0 33 [one (.str ([97,46,98]:List UInt8))] [] (.val true (pvL (Zc y117))) [],([]:List Nat).Nodup,Sim Tryz.prog GL0 31 [.val true (pvL (Zc y117)),one (.str ([97,46,98]:List UInt8))] [] (one (.bool y118)) [],([]:List Nat).Nodup,y118=true,Sim Tryz.prog GL0 33 [one (.str ([97,46,98]:List UInt8))] [] (.val true (pvL (Zc y120))) [],([]:List Nat).Nodup,Sim Tryz.prog GL0 31 [.val true (pvL (Zc y120)),one (.str ([97,120,98]:List UInt8))] [] (one (.bool y121)) [],([]:List Nat).Nodup]) kr (sound _ _) ⟨hb104,hb105,hb106,hb107,hb108,hb109,(ZV k _ _ _ hy110),(by decide),hb111,(ZV k _ _ _ hy112),(by decide),hb113,(ZbV k _ hy114),(by decide),(ZV k _ _ _ hy115),(by decide),hb116,(Zg4 k _ _ hy117),(by decide),(ZV k _ _ _ hy118),(by decide),hb119,(Zg4 k _ _ hy120),(by decide),(ZV k _ _ _ hy121),(by decide),trivial⟩ ?_
 exact ⟨(!y121),kr,kr,hF⟩ }
 {
 have hF:=Zh hF hb119
 refine WA.reg [0] [] [(2,.bool true),(7,.bool true),(12,.bool true),(17,.bool true),(21,.bool true),(25,.bool true),(27,.callR [] (one (.bool y110))),(29,.bool true),(31,.callR [] (one (.bool y112))),(34,.bool true),(35,.callR [] (.val true (pvL (Zc y114)))),(36,.callR [] (one (.bool y115))),(38,.bool true),(39,.callR [] (.val true (pvL (Zc y117)))),(40,.callR [] (one (.bool y118))),(42,.bool false)] (env':=[(0,one (.bool false))]) (os':=[]) (O:=[(y101.2 == 0)=true,(y101.1.f_Kind == 4)=true,(y101.1.f_Min == 2)=true,(y101.1.f_Max == 2)=true,(y102.2 == 3)=true,(y103.2 == 8)=true,Sim Tryz.prog GL0 31 [.val true (pvL (Zc y101.1)),one (.str ([97,97]:List UInt8))] [] (one (.bool y110)) [],([]:List Nat).Nodup,y110=true,Sim Tryz.prog GL0 31 [.val true (pvL (Zc y101.1)),one (.str ([97]:List UInt8))] [] (one (.bool y112)) [],([]:List Nat).Nodup,(!y112)=true,Sim Tryz.prog GL0 34 [] [] (.val true (pvL (Zc y114))) [],([]:List Nat).Nodup,Sim Tryz.prog GL0 31 [.val true (pvL (Zc y114)),one (.str ([120,195,169]:List UInt8))] [] (one (.bool y115)) [],([]:List Nat).Nodup,y115=true,Sim Tryz.prog GL0 33 [one (.str ([97,46,98]:List UInt8))] [] (.val true (pvL (Zc y117))) [],([]:List Nat).Nodup,Sim Tryz.prog GL0 31 [.val true (pvL (Zc y117)),one (.str ([97,46,98]:List UInt8))] [] (one (.bool y118)) [],([]:List Nat).Nodup,y118=false]) kr (sound _ _) ⟨hb104,hb105,hb106,hb107,hb108,hb109,(ZV k _ _ _ hy110),(by decide),hb111,(ZV k _ _ _ hy112),(by decide),hb113,(ZbV k _ hy114),(by decide),(ZV k _ _ _ hy115),(by decide),hb116,(Zg4 k _ _ hy117),(by decide),(ZV k _ _ _ hy118),(by decide),hb119,trivial⟩ ?_
 exact ⟨false,kr,kr,hF⟩ } }
 {
 have hF:=Zh hF hb116
 refine WA.reg [0] [] [(2,.bool true),(7,.bool true),(12,.bool true),(17,.bool true),(21,.bool true),(25,.bool true),(27,.callR [] (one (.bool y110))),(29,.bool true),(31,.callR [] (one (.bool y112))),(34,.bool true),(35,.callR [] (.val true (pvL (Zc y114)))),(36,.callR [] (one (.bool y115))),(38,.bool false)] (env':=[(0,one (.bool false))]) (os':=[]) (O:=[(y101.2 == 0)=true,(y101.1.f_Kind == 4)=true,(y101.1.f_Min == 2)=true,(y101.1.f_Max == 2)=true,(y102.2 == 3)=true,(y103.2 == 8)=true,Sim Tryz.prog GL0 31 [.val true (pvL (Zc y101.1)),one (.str ([97,97]:List UInt8))] [] (one (.bool y110)) [],([]:List Nat).Nodup,y110=true,Sim Tryz.prog GL0 31 [.val true (pvL (Zc y101.1)),one (.str ([97]:List UInt8))] [] (one (.bool y112)) [],([]:List Nat).Nodup,(!y112)=true,Sim Tryz.prog GL0 34 [] [] (.val true (pvL (Zc y114))) [],([]:List Nat).Nodup,Sim Tryz.prog GL0 31 [.val true (pvL (Zc y114)),one (.str ([120,195,169]:List UInt8))] [] (one (.bool y115)) [],([]:List Nat).Nodup,y115=false]) kr (sound _ _) ⟨hb104,hb105,hb106,hb107,hb108,hb109,(ZV k _ _ _ hy110),(by decide),hb111,(ZV k _ _ _ hy112),(by decide),hb113,(ZbV k _ hy114),(by decide),(ZV k _ _ _ hy115),(by decide),hb116,trivial⟩ ?_
 exact ⟨false,kr,kr,hF⟩ } }
 {
 have hF:=Zh hF hb113
 refine WA.reg [0] [] [(2,.bool true),(7,.bool true),(12,.bool true),(17,.bool true),(21,.bool true),(25,.bool true),(27,.callR [] (one (.bool y110))),(29,.bool true),(31,.callR [] (one (.bool y112))),(34,.bool false)] (env':=[(0,one (.bool false))]) (os':=[]) (O:=[(y101.2 == 0)=true,(y101.1.f_Kind == 4)=true,(y101.1.f_Min == 2)=true,(y101.1.f_Max == 2)=true,(y102.2 == 3)=true,(y103.2 == 8)=true,Sim Tryz.prog GL0 31 [.val true (pvL (Zc y101.1)),one (.str ([97,97]:List UInt8))] [] (one (.bool y110)) [],([]:List Nat).Nodup,y110=true,Sim Tryz.prog GL0 31 [.val true (pvL (Zc y101.1)),one (.str ([97]:List UInt8))] [] (one (.bool y112)) [],([]:List Nat).Nodup,(!y112)=false]) kr (sound _ _) ⟨hb104,hb105,hb106,hb107,hb108,hb109,(ZV k _ _ _ hy110),(by decide),hb111,(ZV k _ _ _ hy112),(by decide),hb113,trivial⟩ ?_
 exact ⟨false,kr,kr,hF⟩ } }
 {
 have hF:=Zh hF hb111
 refine WA.reg [0] [] [(2,.bool true),(7,.bool true),(12,.bool true),(17,.bool true),(21,.bool true),(25,.bool true),(27,.callR [] (one (.bool y110))),(29,.bool false)] (env':=[(0,one (.bool false))]) (os':=[]) (O:=[(y101.2 == 0)=true,(y101.1.f_Kind == 4)=true,(y101.1.f_Min == 2)=true,(y101.1.f_Max == 2)=true,(y102.2 == 3)=true,(y103.2 == 8)=true,Sim Tryz.prog GL0 31 [.val true (pvL (Zc y101.1)),one (.str ([97,97]:List UInt8))] [] (one (.bool y110)) [],([]:List Nat).Nodup,y110=false]) kr (sound _ _) ⟨hb104,hb105,hb106,hb107,hb108,hb109,(ZV k _ _ _ hy110),(by decide),hb111,trivial⟩ ?_
 exact ⟨false,kr,kr,hF⟩ } }
 {
 have hF:=Zh hF hb109
 refine WA.reg [0] [] [(2,.bool true),(7,.bool true),(12,.bool true),(17,.bool true),(21,.bool true),(25,.bool false)] (env':=[(0,one (.bool false))]) (os':=[]) (O:=[(y101.2 == 0)=true,(y101.1.f_Kind == 4)=true,(y101.1.f_Min == 2)=true,(y101.1.f_Max == 2)=true,(y102.2 == 3)=true,(y103.2 == 8)=false]) kr (sound _ _) ⟨hb104,hb105,hb106,hb107,hb108,hb109,trivial⟩ ?_
 exact ⟨false,kr,kr,hF⟩ } }
 {
 have hF:=Zh hF hb108
 refine WA.reg [0] [] [(2,.bool true),(7,.bool true),(12,.bool true),(17,.bool true),(21,.bool false)] (env':=[(0,one (.bool false))]) (os':=[]) (O:=[(y101.2 == 0)=true,(y101.1.f_Kind == 4)=true,(y101.1.f_Min == 2)=true,(y101.1.f_Max == 2)=true,(y102.2 == 3)=false]) kr (sound _ _) ⟨hb104,hb105,hb106,hb107,hb108,trivial⟩ ?_
 exact ⟨false,kr,kr,hF⟩ } }
 {
 have hF:=Zh hF hb107
 refine WA.reg [0] [] [(2,.bool true),(7,.bool true),(12,.bool true),(17,.bool false)] (env':=[(0,one (.bool false))]) (os':=[]) (O:=[(y101.2 == 0)=true,(y101.1.f_Kind == 4)=true,(y101.1.f_Min == 2)=true,(y101.1.f_Max == 2)=false]) kr (sound _ _) ⟨hb104,hb105,hb106,hb107,trivial⟩ ?_
 exact ⟨false,kr,kr,hF⟩ } }
 {
 have hF:=Zh hF hb106
 refine WA.reg [0] [] [(2,.bool true),(7,.bool true),(12,.bool false)] (env':=[(0,one (.bool false))]) (os':=[]) (O:=[(y101.2 == 0)=true,(y101.1.f_Kind == 4)=true,(y101.1.f_Min == 2)=false]) kr (sound _ _) ⟨hb104,hb105,hb106,trivial⟩ ?_
 exact ⟨false,kr,kr,hF⟩ } }
 {
 have hF:=Zh hF hb105
 refine WA.reg [0] [] [(2,.bool true),(7,.bool false)] (env':=[(0,one (.bool false))]) (os':=[]) (O:=[(y101.2 == 0)=true,(y101.1.f_Kind == 4)=false]) kr (sound _ _) ⟨hb104,hb105,trivial⟩ ?_
 exact ⟨false,kr,kr,hF⟩ } }
 {
 have hF:=Zh hF hb104
 refine WA.reg [0] [] [(2,.bool false)] (env':=[(0,one (.bool false))]) (os':=[]) (O:=[(y101.2 == 0)=false]) kr (sound _ _) ⟨hb104,trivial⟩ ?_
 exact ⟨false,kr,kr,hF⟩ } }
def Zhu (v113:Bool):Option Bool:=
  some v113
def Zga (v132:Bool):Option Bool:=
  some v132
def Zf9 (k:Nat) (v0:List UInt8) (v1:List UInt8) (v119:Bool):Option Bool:=
  cond v119 ((some false)) ((F26 k).bind fun y121=>cond y121 ((F34 k).bind fun y123=>(F31 k y123 v0).bind fun y124=>cond y124 ((F34 k).bind fun y126=>(F31 k y126 v1).bind fun y127=>(F25 k v1).bind fun y128=>cond (y127 == y128) ((F34 k).bind fun y130=>(F30 k y130).bind fun y131=>(Zga y131)) ((Zga false))) ((Zga false))) ((Zga false)))
def ZeE (k:Nat) (v0:List UInt8) (v1:List UInt8) (v102:Bool):Option Bool:=
  cond v102 ((F26 k).bind fun y104=>(some y104)) ((F33 k v0).bind fun y105=>(F25 k v0).bind fun y106=>(cond (!y106) ((F26 k).bind fun y108=>cond y108 ((F31 k y105 ([]:List UInt8)).bind fun y110=>cond y110 ((F31 k y105 v0).bind fun y112=>(Zhu (!y112))) ((Zhu false))) ((Zhu false))) ((F30 k y105).bind fun y114=>cond (!y114) ((Zf9 k v0 v1 true)) ((F31 k y105 v0).bind fun y116=>cond (!y116) ((Zf9 k v0 v1 true)) ((F31 k y105 v1).bind fun y118=>(Zf9 k v0 v1 (!(y118 == (v0 == v1)))))))))
def F9 (k:Nat) (v0:List UInt8) (v1:List UInt8):Option Bool:=
  (cond (decide ((v0.length:Int) > 60)) ((ZeE k v0 v1 true)) ((ZeE k v0 v1 (decide ((v1.length:Int) > 60)))))
theorem ZpW (k:Nat) (v0:List UInt8) (v1:List UInt8) (r:Bool) (hF:F9 k v0 v1=some r):Sim Tryz.prog GL0 9 [one (.str v0),one (.str v1)] [] (one (.bool r)) []:=by
 refine ZB [] Tryz.func9 rfl kr kr ?_
 show WA _ _ 67 _ _ _
 refine WA.seq ?_
 refine WA.reg [0,1] [] [] (env':=[(0,one (.str v0)),(1,one (.str v1))]) (os':=[]) (O:=[]) kr (sound _ _) trivial ?_
 refine WA.seq ?_
 refine WA.join (fun s_=>∃(v102:Bool),Zj s_.env [0,1,13]=[(0,one (.str v0)),(1,one (.str v1)),(13,one (.bool v102))]∧Zj s_.os []=[]∧ZeE k v0 v1 v102=some r) ?_ ?_
 {
 rintro s_ ⟨v102,he,ho,hF⟩
 refine WA.keep _ _ he ho ?_
 clear he ho
 refine WA.cond (b:=v102) rfl (fun hb103=>?_) (fun hb103=>?_)
 {
 have hF:=Zi hF hb103
 refine WA.seq ?_
 obtain ⟨y104,hy104,hF⟩:=bind_some hF
 refine WA.reg [4] [] [(0,.callR [] (one (.bool y104)))] (env':=[(4,one (.bool y104))]) (os':=[]) (O:=[Sim Tryz.prog GL0 26 [] [] (one (.bool y104)) [],([]:List Nat).Nodup]) kr (sound _ _) ⟨(ZaF k _ hy104),(by decide),trivial⟩ ?_
 refine WA.ret ?_
 obtain rfl:=Option.some.inj hF
 exact Zq (one (.bool y104)) [] kr kr kr kr (by decide) rfl rfl }
 {
 have hF:=Zh hF hb103
 refine WA.skip ?_
 refine WA.seq ?_
 obtain ⟨y105,hy105,hF⟩:=bind_some hF
 refine WA.reg [0,1,5] [105] [(1,.callR [] (.val true (pvL (Zc y105)))),(2,.obj 105)] (env':=[(0,one (.str v0)),(1,one (.str v1)),(5,.val false [.ptr 105 1 0 0])]) (os':=[(105,.box (pvL (Zc y105)))]) (O:=[Sim Tryz.prog GL0 33 [one (.str v0)] [] (.val true (pvL (Zc y105))) [],([]:List Nat).Nodup]) kr (sound _ _) ⟨(Zg4 k _ _ hy105),(by decide),trivial⟩ ?_
 refine WA.seq ?_
 refine WA.seq ?_
 obtain ⟨y106,hy106,hF⟩:=bind_some hF
 refine WA.reg [0,1,5,19] [105] [(1,.callR [] (one (.bool y106)))] (env':=[(0,one (.str v0)),(1,one (.str v1)),(5,.val false [.ptr 105 1 0 0]),(19,one (.bool (!y106)))]) (os':=[(105,.box (pvL (Zc y105)))]) (O:=[Sim Tryz.prog GL0 25 [one (.str v0)] [] (one (.bool y106)) [],([]:List Nat).Nodup]) kr (sound _ _) ⟨(Zg0 k _ _ hy106),(by decide),trivial⟩ ?_
 refine WA.cond (b:=(!y106)) rfl (fun hb107=>?_) (fun hb107=>?_)
 {
 have hF:=Zi hF hb107
 refine WA.join (fun s_=>∃(v113:Bool),Zj s_.env [4]=[(4,one (.bool v113))]∧Zj s_.os []=[]∧Zhu v113=some r) ?_ ?_
 {
 rintro s_ ⟨v113,he,ho,hF⟩
 refine WA.keep _ _ he ho ?_
 clear he ho
 refine WA.ret ?_
 obtain rfl:=Option.some.inj hF
 exact Zq (one (.bool v113)) [] kr kr kr kr (by decide) rfl rfl }
 {
 obtain ⟨y108,hy108,hF⟩:=bind_some hF
 rcases Bool.eq_false_or_eq_true y108 with hb109 | hb109
 {
 have hF:=Zi hF hb109
 obtain ⟨y110,hy110,hF⟩:=bind_some hF
 rcases Bool.eq_false_or_eq_true y110 with hb111 | hb111
 {
 have hF:=Zi hF hb111
 obtain ⟨y112,hy112,hF⟩:=bind_some hF
 refine WA.reg [4] [] [(0,.callR [] (one (.bool y108))),(1,.bool true),(3,.callR [] (one (.bool y110))),(5,.bool true),(8,.callR [] (one (.bool y112)))] (env':=[(4,one (.bool (!y112)))]) (os':=[]) (O:=[Sim Tryz.prog GL0 26 [] [] (one (.bool y108)) [],([]:List Nat).Nodup,y108=true,Sim Tryz.prog GL0 31 [.val true (pvL (Zc y105)),one (.str ([]:List UInt8))] [] (one (.bool y110)) [],([]:List Nat).Nodup,y110=true,Sim Tryz.prog GL0 31 [.val true (pvL (Zc y105)),one (.str v0)] [] (one (.bool y112)) [],([]:List Nat).Nodup]) kr (sound _ _) ⟨(ZaF k _ hy108),(by decide),hb109,(ZV k _ _ _ hy110),(by decide),hb111,(ZV k _ _ _ hy112),(by decide),trivial⟩ ?_
 exact ⟨(!y112),kr,kr,hF⟩ }
 {
 have hF:=Zh hF hb111
 refine WA.reg [4] [] [(0,.callR [] (one (.bool y108))),(1,.bool true),(3,.callR [] (one (.bool y110))),(5,.bool false)] (env':=[(4,one (.bool false))]) (os':=[]) (O:=[Sim Tryz.prog GL0 26 [] [] (one (.bool y108)) [],([]:List Nat).Nodup,y108=true,Sim Tryz.prog GL0 31 [.val true (pvL (Zc y105)),one (.str ([]:List UInt8))] [] (one (.bool y110)) [],([]:List Nat).Nodup,y110=false]) kr (sound _ _) ⟨(ZaF k _ hy108),(by decide),hb109,(ZV k _ _ _ hy110),(by decide),hb111,trivial⟩ ?_
 exact ⟨false,kr,kr,hF⟩ } }
 {
 have hF:=Zh hF hb109
 refine WA.reg [4] [] [(0,.callR [] (one (.bool y108))),(1,.bool false)] (env':=[(4,one (.bool false))]) (os':=[]) (O:=[Sim Tryz.prog GL0 26 [] [] (one (.bool y108)) [],([]:List Nat).Nodup,y108=false]) kr (sound _ _) ⟨(ZaF k _ hy108),(by decide),hb109,trivial⟩ ?_
 exact ⟨false,kr,kr,hF⟩ } } }
 {
 have hF:=Zh hF hb107
 refine WA.skip ?_
 refine WA.seq ?_
 refine WA.join (fun s_=>∃(v119:Bool),Zj s_.env [0,1,48]=[(0,one (.str v0)),(1,one (.str v1)),(48,one (.bool v119))]∧Zj s_.os []=[]∧Zf9 k v0 v1 v119=some r) ?_ ?_
 {
 rintro s_ ⟨v119,he,ho,hF⟩
 refine WA.keep _ _ he ho ?_
 clear he ho
 refine WA.cond (b:=v119) rfl (fun hb120=>?_) (fun hb120=>?_)
 {
 have hF:=Zi hF hb120
 refine WA.seq ?_
 refine WA.reg [4] [] [] (env':=[(4,one (.bool false))]) (os':=[]) (O:=[]) kr (sound _ _) trivial ?_
 refine WA.ret ?_
 obtain rfl:=Option.some.inj hF
 exact Zq (one (.bool false)) [] kr kr kr kr (by decide) rfl rfl }
 {
 have hF:=Zh hF hb120
 refine WA.skip ?_
 refine WA.join (fun s_=>∃(v132:Bool),Zj s_.env [4]=[(4,one (.bool v132))]∧Zj s_.os []=[]∧Zga v132=some r) ?_ ?_
 {
 rintro s_ ⟨v132,he,ho,hF⟩
 refine WA.keep _ _ he ho ?_
 clear he ho
 refine WA.ret ?_
 obtain rfl:=Option.some.inj hF
 exact Zq (one (.bool v132)) [] kr kr kr kr (by decide) rfl rfl }
 {
 obtain ⟨y121,hy121,hF⟩:=bind_some hF
 rcases Bool.eq_false_or_eq_true y121 with hb122 | hb122
 {
 have hF:=Zi hF hb122
 obtain ⟨y123,hy123,hF⟩:=bind_some hF
 obtain ⟨y124,hy124,hF⟩:=bind_some hF
 rcases Bool.eq_false_or_eq_true y124 with hb125 | hb125
 {
 have hF:=Zi hF hb125
 obtain ⟨y126,hy126,hF⟩:=bind_some hF
 obtain ⟨y127,hy127,hF⟩:=bind_some hF
 obtain ⟨y128,hy128,hF⟩:=bind_some hF
 rcases Bool.eq_false_or_eq_true (y127 == y128) with hb129 | hb129
 {
 have hF:=Zi hF hb129
 obtain ⟨y130,hy130,hF⟩:=bind_some hF
 obtain ⟨y131,hy131,hF⟩:=bind_some hF
 refine WA.reg [4] [] [(0,.callR [] (one (.bool y121))),(1,.bool true),(2,.callR [] (.val true (pvL (Zc y123)))),(4,.callR [] (one (.bool y124))),(6,.bool true),(7,.callR [] (.val true (pvL (Zc y126)))),(9,.callR [] (one (.bool y127))),(11,.callR [] (one (.bool y128))),(14,.bool true),(15,.callR [] (.val true (pvL (Zc y130)))),(16,.callR [] (one (.bool y131)))] (env':=[(4,one (.bool y131))]) (os':=[]) (O:=[Sim Tryz.prog GL0 26 [] [] (one (.bool y121)) [],([]:List Nat).Nodup,y121=true,Sim Tryz.prog GL0 34 [] [] (.val true (pvL (Zc y123))) [],([]:List Nat).Nodup,Sim Tryz.prog GL0 31 [.val true (pvL (Zc y123)),one (.str v0)] [] (one (.bool y124)) [],([]:List Nat).Nodup,y124=true,Sim Tryz.prog GL0 34 [] [] (.val true (pvL (Zc y126))) [],([]:List Nat).Nodup,Sim Tryz.prog GL0 31 [.val true (pvL (Zc y126)),one (.str v1)] [] (one (.bool y127)) [],([]:List Nat).Nodup,Sim Tryz.prog GL0 25 [one (.str v1)] [] (one (.bool y128)) [],([]:List Nat).Nodup,(y127 == y128)=true,Sim Tryz.prog GL0 34 [] [] (.val true (pvL (Zc y130))) [],([]:List Nat).Nodup,Sim Tryz.prog GL0 30 [.val true (pvL (Zc y130))] [] (one (.bool y131)) [],([]:List Nat).Nodup]) kr (sound _ _) ⟨(ZaF k _ hy121),(by decide),hb122,(ZbV k _ hy123),(by decide),(ZV k _ _ _ hy124),(by decide),hb125,(ZbV k _ hy126),(by decide),(ZV k _ _ _ hy127),(by decide),(Zg0 k _ _ hy128),(by decide),hb129,(ZbV k _ hy130),(by decide),(ZcS k _ _ hy131),(by decide),trivial⟩ ?_
 exact ⟨y131,kr,kr,hF⟩ }
 {
 have hF:=Zh hF hb129
 refine WA.reg [4] [] [(0,.callR [] (one (.bool y121))),(1,.bool true),(2,.callR [] (.val true (pvL (Zc y123)))),(4,.callR [] (one (.bool y124))),(6,.bool true),(7,.callR [] (.val true (pvL (Zc y126)))),(9,.callR [] (one (.bool y127))),(11,.callR [] (one (.bool y128))),(14,.bool false)] (env':=[(4,one (.bool false))]) (os':=[]) (O:=[Sim Tryz.prog GL0 26 [] [] (one (.bool y121)) [],([]:List Nat).Nodup,y121=true,Sim Tryz.prog GL0 34 [] [] (.val true (pvL (Zc y123))) [],([]:List Nat).Nodup,Sim Tryz.prog GL0 31 [.val true (pvL (Zc y123)),one (.str v0)] [] (one (.bool y124)) [],([]:List Nat).Nodup,y124=true,Sim Tryz.prog GL0 34 [] [] (.val true (pvL (Zc y126))) [],([]:List Nat).Nodup,Sim Tryz.prog GL0 31 [.val true (pvL (Zc y126)),one (.str v1)] [] (one (.bool y127)) [],([]:List Nat).Nodup,Sim Tryz.prog GL0 25 [one (.str v1)] [] (one (.bool y128)) [],([]:List Nat).Nodup,(y127 == y128)=false]) kr (sound _ _) ⟨(ZaF k _ hy121),(by decide),hb122,(ZbV k _ hy123),(by decide),(ZV k _ _ _ hy124),(by decide),hb125,(ZbV k _ hy126),(by decide),(ZV k _ _ _ hy127),(by decide),(Zg0 k _ _ hy128),(by decide),hb129,trivial⟩ ?_
 exact ⟨false,kr,kr,hF⟩ } }
 {
 have hF:=Zh hF hb125
 refine WA.reg [4] [] [(0,.callR [] (one (.bool y121))),(1,.bool true),(2,.callR [] (.val true (pvL (Zc y123)))),(4,.callR [] (one (.bool y124))),(6,.bool false)] (env':=[(4,one (.bool false))]) (os':=[]) (O:=[Sim Tryz.prog GL0 26 [] [] (one (.bool y121)) [],([]:List Nat).Nodup,y121=true,Sim Tryz.prog GL0 34 [] [] (.val true (pvL (Zc y123))) [],([]:List Nat).Nodup,Sim Tryz.prog GL0 31 [.val true (pvL (Zc y123)),one (.str v0)] [] (one (.bool y124)) [],([]:List Nat).Nodup,y124=false]) kr (sound _ _) ⟨(ZaF k _ hy121),(by decide),hb122,(ZbV k _ hy123),(by decide),(ZV k _ _ _ hy124),(by decide),hb125,trivial⟩ ?_
 exact ⟨false,kr,kr,hF⟩ } }
 {
 have hF:=Zh hF hb122
 refine WA.reg [4] [] [(0,.callR [] (one (.bool y121))),(1,.bool false)] (env':=[(4,one (.bool false))]) (os':=[]) (O:=[Sim Tryz.prog GL0 26 [] [] (one (.bool y121)) [],([]:List Nat).Nodup,y121=false]) kr (sound _ _) ⟨(ZaF k _ hy121),(by decide),hb122,trivial⟩ ?_
 exact ⟨false,kr,kr,hF⟩ } } } }
 {
 obtain ⟨y114,hy114,hF⟩:=bind_some hF
 rcases Bool.eq_false_or_eq_true (!y114) with hb115 | hb115
 {
 have hF:=Zi hF hb115
 refine WA.reg [0,1,48] [] [(1,.callR [] (one (.bool y114))),(3,.bool true)] (env':=[(0,one (.str v0)),(1,one (.str v1)),(48,one (.bool true))]) (os':=[]) (O:=[Sim Tryz.prog GL0 30 [.val true (pvL (Zc y105))] [] (one (.bool y114)) [],([]:List Nat).Nodup,(!y114)=true]) kr (sound _ _) ⟨(ZcS k _ _ hy114),(by decide),hb115,trivial⟩ ?_
 exact ⟨true,kr,kr,hF⟩ }
 {
 have hF:=Zh hF hb115
 obtain ⟨y116,hy116,hF⟩:=bind_some hF
 rcases Bool.eq_false_or_eq_true (!y116) with hb117 | hb117
 {
 have hF:=Zi hF hb117
 refine WA.reg [0,1,48] [] [(1,.callR [] (one (.bool y114))),(3,.bool false),(6,.callR [] (one (.bool y116))),(9,.bool true)] (env':=[(0,one (.str v0)),(1,one (.str v1)),(48,one (.bool true))]) (os':=[]) (O:=[Sim Tryz.prog GL0 30 [.val true (pvL (Zc y105))] [] (one (.bool y114)) [],([]:List Nat).Nodup,(!y114)=false,Sim Tryz.prog GL0 31 [.val true (pvL (Zc y105)),one (.str v0)] [] (one (.bool y116)) [],([]:List Nat).Nodup,(!y116)=true]) kr (sound _ _) ⟨(ZcS k _ _ hy114),(by decide),hb115,(ZV k _ _ _ hy116),(by decide),hb117,trivial⟩ ?_
 exact ⟨true,kr,kr,hF⟩ }
 {
 have hF:=Zh hF hb117
 obtain ⟨y118,hy118,hF⟩:=bind_some hF
 refine WA.reg [0,1,48] [] [(1,.callR [] (one (.bool y114))),(3,.bool false),(6,.callR [] (one (.bool y116))),(9,.bool false),(12,.callR [] (one (.bool y118)))] (env':=[(0,one (.str v0)),(1,one (.str v1)),(48,one (.bool (!(y118 == (v0 == v1)))))]) (os':=[]) (O:=[Sim Tryz.prog GL0 30 [.val true (pvL (Zc y105))] [] (one (.bool y114)) [],([]:List Nat).Nodup,(!y114)=false,Sim Tryz.prog GL0 31 [.val true (pvL (Zc y105)),one (.str v0)] [] (one (.bool y116)) [],([]:List Nat).Nodup,(!y116)=false,Sim Tryz.prog GL0 31 [.val true (pvL (Zc y105)),one (.str v1)] [] (one (.bool y118)) [],([]:List Nat).Nodup]) kr (sound _ _) ⟨(ZcS k _ _ hy114),(by decide),hb115,(ZV k _ _ _ hy116),(by decide),hb117,(ZV k _ _ _ hy118),(by decide),trivial⟩ ?_
 exact ⟨(!(y118 == (v0 == v1))),kr,kr,hF⟩ } } } } } }
 {
 rcases Bool.eq_false_or_eq_true (decide ((v0.length:Int) > 60)) with hb101 | hb101
 {
 have hF:=Zi hF hb101
 refine WA.reg [0,1,13] [] [(3,.bool true)] (env':=[(0,one (.str v0)),(1,one (.str v1)),(13,one (.bool true))]) (os':=[]) (O:=[(decide ((v0.length:Int) > 60))=true]) kr (sound _ _) ⟨hb101,trivial⟩ ?_
 exact ⟨true,kr,kr,hF⟩ }
 {
 have hF:=Zh hF hb101
 refine WA.reg [0,1,13] [] [(3,.bool false)] (env':=[(0,one (.str v0)),(1,one (.str v1)),(13,one (.bool (decide ((v1.length:Int) > 60))))]) (os':=[]) (O:=[(decide ((v0.length:Int) > 60))=false]) kr (sound _ _) ⟨hb101,trivial⟩ ?_
 exact ⟨(decide ((v1.length:Int) > 60)),kr,kr,hF⟩ } }
end Go.Proofs.YthilboheomikjaaGreatDoor
end
section
namespace Go.Proofs.YthilboheomikjaaGreatDoor
open Go.AL Go.Lib
set_option maxRecDepth 100000
theorem Zgh:∀(n:Nat) (s:List UInt8),s.length≤n→(pts s).length≤s.length∧(s≠[]→0<(pts s).length)
  | n,s,hn=>by
    by_cases e:s=[]
    · subst e;exact ⟨Nat.le_refl _,fun h=>absurd rfl h⟩
    · have hl:0<s.length:=List.length_pos_iff.2 e
      have hw:=decodeL_width s
      have hle:=decodeL_le s e
      obtain ⟨n,rfl⟩:∃q,n=q+1:=⟨n-1,by omega⟩
      have ih:=Zgh n (s.drop (decodeL s).2) (by rw [List.length_drop];omega)
      rw [ZaX e]
      simp only [List.length_cons]
      have:=ih.1
      rw [List.length_drop] at this
      exact ⟨by omega,fun _=>by omega⟩
theorem ZfL:∀(n:Nat) {s:List UInt8},s.length≤n→validD s=true→∀c∈pts s,ZD c
  | n,s,hn,hv,c,hc=>by
    by_cases e:s=[]
    · subst e;rw [ZcM] at hc;cases hc
    · have hl:0<s.length:=List.length_pos_iff.2 e
      have hw:=decodeL_width s
      have hle:=decodeL_le s e
      obtain ⟨h1,h2⟩:=Zby e hv
      obtain ⟨n,rfl⟩:∃q,n=q+1:=⟨n-1,by omega⟩
      rw [ZaX e] at hc
      rcases List.mem_cons.1 hc with rfl | hc
      · exact Zkl h1
      · exact ZfL n (by rw [List.length_drop];omega) h2 c hc
theorem ZhP {k:Nat} {s:List UInt8} (hs:s.length≤100000) (hv:validD s=true):∀(m i:Nat) (acc:List Int),i≤s.length→s.length-i<m→validD (s.drop i)=true→acc ++ pts (s.drop i)=pts s→
    Ze7 k s m (acc.map sg) (i:Int)=some (mkQ (pts s))
  | 0,i,acc,hi,hm,_,_=>by omega
  | m+1,i,acc,hi,hm,hd,he=>by
    show ZdL _ _ _ _ _=_
    unfold ZdL
    simp only [F49,F72]
    rw [if_pos (by omega)]
    simp only [Option.bind_some,hv,cond]
    by_cases h:i<s.length
    · have hne:s.drop i≠[]:=fun h'=>by have:=congrArg List.length h';rw [List.length_drop] at this;simp at this;omega
      have hw:=decodeL_width (s.drop i)
      have hle:=decodeL_le (s.drop i) hne
      rw [List.length_drop] at hle
      obtain ⟨hb,hv'⟩:=Zby hne hd
      have hacc:acc.length≤s.length:=by
        have h1:=(Zgh _ s (Nat.le_refl _)).1
        have:=congrArg List.length he
        rw [List.length_append] at this;omega
      rw [dt (by omega)]
      unfold Ze6
      simp only [cond]
      rw [Zmf h (by omega)]
      simp only [Option.bind_some,nxt]
      rw [if_neg hb]
      simp only [F58,Option.bind_some]
      rw [if_pos (by simp;omega),Zt (by omega) (by omega)]
      have:=ZhP (k:=k) hs hv m (i+(decodeL (s.drop i)).2) (acc ++ [((decodeL (s.drop i)).1:Int)]) (by omega) (by omega) (by rw [←List.drop_drop];exact hv') (by rw [←he,ZaX hne,←List.drop_drop];simp)
      rw [List.map_append] at this
      exact this
    · rw [df (by omega)]
      unfold Ze6
      simp only [cond]
      have e:s.drop i=[]:=List.drop_eq_nil_of_le (by omega)
      rw [e,ZcM,List.append_nil] at he
      subst he
      unfold mkQ
      by_cases h1:(pts s).length=1
      · obtain ⟨c,hc⟩:=List.length_eq_one_iff.1 h1
        rw [dif_pos h1]
        have hb:((((pts s).map sg).length:Int) == 1)=true:=by rw [List.length_map,h1];rfl
        rw [hb]
        simp only
        rw [if_pos (by rw [List.length_map,h1];exact ⟨by omega,by omega⟩)]
        simp only [hc,List.map_cons,ZeK,Option.bind_some]
        rfl
      · rw [dif_neg h1]
        have hb:((((pts s).map sg).length:Int) == 1)=false:=by rw [List.length_map];exact ZeF (by omega)
        rw [hb]
theorem ZnI {k:Nat} {s:List UInt8} (hs:s.length≤100000) (hk:s.length<k) (hv:validD s=true):F33 k s=some (mkQ (pts s)):=by
  unfold F33
  exact ZhP hs hv k 0 [] (Nat.zero_le _) (by omega) (by rw [List.drop_zero];exact hv) (by rw [List.drop_zero];rfl)
theorem ZmS {k:Nat} {s:List UInt8} (hs:s.length≤100000) (hk:0<k) (hv:validD s=false):F33 k s=some (mkQ []):=by
  obtain ⟨k,rfl⟩:∃q,k=q+1:=⟨k-1,by omega⟩
  unfold F33
  show ZdL _ _ _ _ _=_
  unfold ZdL
  simp only [F49,F72]
  rw [if_pos (by omega)]
  simp only [Option.bind_some,hv,cond]
  rfl
def anyR:Ze:=⟨4,[],[⟨1,ptsR,[],0,0⟩],0,-1⟩
theorem Zo6 (k:Nat):F34 k=some anyR:=rfl
theorem Zig:F30 3000 anyR=some true:=by kernel_rfl
theorem Zo7:WF anyR:=by
  refine ⟨⟨.inr (.inr (.inr rfl)),fun _=>⟨rfl,Int.le_refl _,by decide,by decide,.inl rfl⟩,by simp [anyR],by simp [anyR]⟩,⟨⟨.inl rfl,fun h=>absurd (show (1:Int)=4 from h) (by decide),by simp [ptsR],by simp⟩,trivial⟩,trivial⟩
theorem Zni {w:List Int} (h:∀c∈w,ZD c):Lang anyR w:=by
  unfold anyR
  rw [Zc8]
  refine ⟨w.length,by omega,.inl (by decide),?_⟩
  induction w with
  | nil=>rfl
  | cons c w ih=>
    refine ⟨[c],w,rfl,?_,ih fun d hd=>h d (List.mem_cons_of_mem _ hd)⟩
    rw [Za6]
    refine .inl ⟨rfl,c,rfl,?_⟩
    have:=h c List.mem_cons_self
    unfold ZD at this
    by_cases h':c≤55295
    · exact ⟨⟨0,55295⟩,by simp [ptsR],by show (0:Int)≤c;omega,h'⟩
    · exact ⟨⟨57344,1114111⟩,by simp [ptsR],by show (57344:Int)≤c;omega,by show c≤(1114111:Int);omega⟩
theorem ZiA:F26 3000=some true:=by kernel_rfl
theorem ZiD {s:List UInt8} (hs:s.length≤60):F31 3000 anyR s=some (validD s):=by
  cases hv:validD s
  · exact Zdl (by omega) Zig hv
  · obtain ⟨b,e,hb⟩:=ZgJ (k:=3000) (r:=anyR) (s:=s) (by omega) Zo7 (by decide) (by decide) (by omega) Zig hv
    rw [e,hb.2 (Zni (ZfL _ (Nat.le_refl _) hv))]
theorem ZfF {ps:List Int} {s:List UInt8} (hp:∀c∈ps,ZD c) (hl:ps.length≤60) (hs:s.length≤60) (hv:validD s=true):F31 3000 (mkQ ps) s=some (decide (pts s=ps)):=by
  obtain ⟨b,e,hb⟩:=ZgJ (k:=3000) (r:=mkQ ps) (s:=s) (by omega) (Zpi (by omega)) (by have:=Zph ps;omega) (by have:=ZoA ps;omega) (by omega) (Zgf hp hl (by omega)) hv
  rw [Znw] at hb
  rw [e]
  congr 1
  by_cases h:pts s=ps
  · rw [dt h];exact hb.2 h
  · rw [df h]
    cases b
    · rfl
    · exact absurd (hb.1 rfl) h
theorem ZlR {a b:List UInt8} (ha:a.length≤60) (hb:b.length≤60) (hva:validD a=true):Zf9 3000 a b false=some true:=by
  unfold Zf9
  simp only [cond,ZiA,Option.bind_some,Zo6,ZiD ha,ZiD hb,hva,ZgZ (k:=3000) (s:=b) (by omega) (by omega) (by omega),beq_self_eq_true,Zig,Zga]
theorem Zkm {a b:List UInt8} (ha:a.length≤60) (hb:b.length≤60):ZeE 3000 a b false=some true:=by
  unfold ZeE
  simp only [cond]
  rw [ZgZ (k:=3000) (s:=a) (by omega) (by omega) (by omega)]
  cases hva:validD a
  · rw [ZmS (by omega) (by omega) hva]
    have hm:F30 3000 (mkQ [])=some true:=Zgf (fun c h=>by cases h) (by simp) (by omega)
    have h0:F31 3000 (mkQ []) []=some true:=by
      rw [ZfF (fun c h=>by cases h) (by simp) (by simp) rfl];rfl
    simp only [Option.bind_some,Bool.not_false,ZiA,h0,Zdl (k:=3000) (s:=a) (by omega) hm hva,Zhu]
  · rw [ZnI (by omega) (by omega) hva]
    have hp:=ZfL _ (Nat.le_refl _) hva
    have hl:(pts a).length≤60:=Nat.le_trans (Zgh _ a (Nat.le_refl _)).1 ha
    simp only [Option.bind_some,Bool.not_true,Zgf hp hl (k:=3000) (by omega),ZfF hp hl ha hva,decide_true]
    have:∃b',F31 3000 (mkQ (pts a)) b=some b'∧b'=(a == b):=by
      cases hvb:validD b
      · refine ⟨false,Zdl (by omega) (Zgf hp hl (by omega)) hvb,?_⟩
        symm
        rw [beq_eq_false_iff_ne]
        rintro rfl
        rw [hva] at hvb;cases hvb
      · refine ⟨_,ZfF hp hl hb hvb,?_⟩
        by_cases e:a=b
        · subst e;rw [dt rfl];simp
        · rw [df fun h=>e (Zlo _ (Nat.le_refl _) hva hvb h.symm)]
          symm;rw [beq_eq_false_iff_ne];exact e
    obtain ⟨b',e1,e2⟩:=this
    rw [e1]
    simp only [Option.bind_some,e2,beq_self_eq_true,Bool.not_true]
    exact ZlR ha hb hva
end Go.Proofs.YthilboheomikjaaGreatDoor
namespace Go.Proofs.YthilboheomikjaaGreatDoor.Pure
open Go.AL
theorem ZpG (a b:List UInt8) (_:a.length≤140737488351232) (_:b.length≤140737488351232):∃k,F9 k a b=some true:=by
  refine ⟨3000,?_⟩
  unfold F9
  have long:ZeE 3000 a b true=some true:=by
    unfold ZeE
    simp only [cond,ZiA,Option.bind_some]
  by_cases ha:a.length≤60
  · rw [df (by omega)]
    by_cases hb:b.length≤60
    · rw [df (by omega)];exact Zkm ha hb
    · rw [dt (by omega)];exact long
  · rw [dt (by omega)];exact long
end Go.Proofs.YthilboheomikjaaGreatDoor.Pure
end
section
namespace Go.Proofs.YthilboheomikjaaGreatDoor
open Go.AL Go.Lib
set_option maxRecDepth 100000
def span (cs:List Int) (i j:Nat):List Int:=(cs.drop i).take (j-i)
theorem ZgS {cs:List Int} {i j:Nat} (h:i≤j) (hj:j≤cs.length):(span cs i j).length=j-i:=by
  unfold span;rw [List.length_take,List.length_drop];omega
theorem ZhZ {cs:List Int} {i j:Nat} {u v:List Int} (h:i≤j) (hj:j≤cs.length):span cs i j=u ++ v↔∃m,i≤m∧m≤j∧u=span cs i m∧v=span cs m j:=by
  constructor
  · intro e
    have hl:=ZgS h hj
    rw [e,List.length_append] at hl
    refine ⟨i+u.length,by omega,by omega,?_,?_⟩
    · have h2:(span cs i j).take u.length=span cs i (i+u.length):=by
        unfold span
        rw [List.take_take]
        congr 1
        omega
      rw [←h2,e]
      simp
    · have:(span cs i j).drop u.length=v:=by rw [e];simp
      rw [←this]
      unfold span
      rw [List.drop_take,List.drop_drop]
      congr 1
      omega
  · rintro ⟨m,h1,h2,rfl,rfl⟩
    unfold span
    have e1:cs.drop m=(cs.drop i).drop (m-i):=by rw [List.drop_drop];congr 1;omega
    rw [e1,←List.take_append_drop (m-i) ((cs.drop i).take (j-i)),List.take_take,List.drop_take]
    congr 2
    · omega
    · omega
def Rl (P:List Int→Prop) (cs:List Int) (i j:Nat):Prop:=i≤j∧j≤cs.length∧P (span cs i j)
theorem Zhw {P Q:List Int→Prop} {cs:List Int} {i j:Nat}:Rl (Cat P Q) cs i j↔∃m,Rl P cs i m∧Rl Q cs m j:=by
  constructor
  · rintro ⟨h1,h2,u,v,e,hu,hv⟩
    obtain ⟨m,m1,m2,rfl,rfl⟩:=(ZhZ h1 h2).1 e
    exact ⟨m,⟨m1,by omega,hu⟩,m2,h2,hv⟩
  · rintro ⟨m,⟨h1,h2,h3⟩,h4,h5,h6⟩
    exact ⟨by omega,h5,_,_,(ZhZ (by omega) h5).2 ⟨m,h1,h4,rfl,rfl⟩,h3,h6⟩
theorem Zhx {cs:List Int} {i j:Nat}:Rl (fun w=>w=[]) cs i j↔i=j∧j≤cs.length:=by
  constructor
  · rintro ⟨h1,h2,h3⟩
    have:=ZgS h1 h2
    rw [h3] at this
    simp at this
    omega
  · rintro ⟨rfl,h⟩
    exact ⟨Nat.le_refl _,h,by simp [span]⟩
theorem ZjJ {P:Int→Prop} {cs:List Int} {i j:Nat}:Rl (fun w=>∃c,w=[c]∧P c) cs i j↔∃c,cs[i]?=some c∧P c∧j=i+1:=by
  constructor
  · rintro ⟨h1,h2,c,h3,h4⟩
    have hl:=ZgS h1 h2
    rw [h3] at hl
    simp at hl
    obtain rfl:j=i+1:=by omega
    refine ⟨c,?_,h4,rfl⟩
    unfold span at h3
    have:((cs.drop i).take (i+1-i))[0]?=some c:=by rw [h3];rfl
    rw [List.getElem?_take,if_pos (by omega),List.getElem?_drop] at this
    exact this
  · rintro ⟨c,h1,h2,rfl⟩
    have h3:=(List.getElem?_eq_some_iff.1 h1).1
    refine ⟨by omega,by omega,c,?_,h2⟩
    unfold span
    have:i+1-i=1:=by omega
    rw [this,List.drop_eq_getElem_cons h3,List.take_succ_cons,List.take_zero,(List.getElem?_eq_some_iff.1 h1).2]
theorem ZcZ {P Q:List Int→Prop} (h:∀w,P w↔Q w) {cs:List Int} {i j:Nat}:Rl P cs i j↔Rl Q cs i j:=by unfold Rl;rw [h]
def Ends (P:List Int→Prop) (cs:List Int) (f o:List Bool):Prop:=o.length=cs.length+1∧∀j,Sn o j↔∃i,Sn f i∧Rl P cs i j
theorem Ends.congr {P Q:List Int→Prop} {cs:List Int} {f o:List Bool} (h:Ends P cs f o) (e:∀w,P w↔Q w):Ends Q cs f o:=
  ⟨h.1,fun j=>(h.2 j).trans ⟨fun ⟨i,a,b⟩=>⟨i,a,(ZcZ e).1 b⟩,fun ⟨i,a,b⟩=>⟨i,a,(ZcZ e).2 b⟩⟩⟩
theorem Ends.comp {P Q:List Int→Prop} {cs:List Int} {f g o:List Bool} (h:Ends P cs f g) (h2:Ends Q cs g o):Ends (Cat P Q) cs f o:=
  ⟨h2.1,fun j=>by
    rw [h2.2]
    constructor
    · rintro ⟨m,a,b⟩
      obtain ⟨i,c,d⟩:=(h.2 m).1 a
      exact ⟨i,c,Zhw.2 ⟨m,d,b⟩⟩
    · rintro ⟨i,c,d⟩
      obtain ⟨m,e1,e2⟩:=Zhw.1 d
      exact ⟨m,(h.2 m).2 ⟨i,c,e1⟩,e2⟩⟩
theorem ZhX {s:List Bool} {j:Nat} (h:Sn s j):j<s.length:=(List.getElem?_eq_some_iff.1 h).1
theorem Ends.eps {cs:List Int} {f:List Bool} (h:f.length=cs.length+1):Ends (fun w=>w=[]) cs f f:=
  ⟨h,fun j=>⟨fun hj=>⟨j,hj,Zhx.2 ⟨rfl,by have:=ZhX hj;omega⟩⟩,fun ⟨i,a,b⟩=>by rw [←(Zhx.1 b).1];exact a⟩⟩
theorem Zgk {s:List Bool} {i j:Nat} {b:Bool} (hi:i<s.length):Sn (s.set i b) j↔(j=i∧b=true)∨(j≠i∧Sn s j):=by
  unfold Sn
  rw [List.getElem?_set]
  by_cases h:i=j
  · subst h
    rw [if_pos rfl,if_pos hi]
    simp
  · rw [if_neg h]
    have h':j≠i:=fun e=>h e.symm
    simp [h']
theorem Zlc {st:List Zb} {c:Int} (hl:st.length≤1048576):∀(l:List Zb) (i m:Nat),st.drop i=l→l.length<m→i≤st.length→∃t,Zd7 st c m (i:Int)=some t∧(t=true↔inR l c)
  | [],i,m,hd,hm,hi=>by
    obtain ⟨m,rfl⟩:∃q,m=q+1:=⟨m-1,by simp at hm;omega⟩
    have:=Z4 hd
    refine ⟨false,?_,by simp [Zao]⟩
    show Zd6 _ _ _ _=_
    unfold Zd6
    rw [df (by omega),cond_false]
  | x :: l,i,m,hd,hm,hi=>by
    obtain ⟨m,rfl⟩:∃q,m=q+1:=⟨m-1,by omega⟩
    obtain ⟨g1,g2,g3⟩:=ZW hd
    rw [List.length_cons] at hm
    obtain ⟨t2,e2,p2⟩:=Zlc hl l (i+1) m g3 (by omega) (by omega)
    show ∃t,Zd6 (Zd7 st c m) st c (i:Int)=_∧_
    unfold Zd6 Zhl
    rw [dt (by omega),cond_true,Zw,g2,Option.bind_some,ZH,Zab (by omega),e2]
    by_cases h1:x.f_Lo≤c
    · rw [dt h1,cond_true,Option.bind_some]
      by_cases h2:c≤x.f_Hi
      · rw [dt h2,cond_true];exact ⟨true,rfl,by simp [h1,h2]⟩
      · rw [df h2,cond_false];exact ⟨t2,rfl,by rw [p2];simp [h2]⟩
    · rw [df h1,cond_false,cond_false];exact ⟨t2,rfl,by rw [p2];simp [h1]⟩
theorem ZpC {k:Nat} {st:List Zb} {c:Int} (hl:st.length≤1048576) (hk:st.length<k):∃t,F68 k st c=some t∧(t=true↔inR st c):=Zlc hl st 0 k rfl hk (Nat.zero_le _)
theorem Zlm {b:List Bool} {n:Nat} (hb:b.length=n) (hn:n≤1048576):∀(m i:Nat) (acc:List Bool) (fr:Bool),acc.length=n→i≤n→n-i<m→
    ∃fr' o,ZbZ b m acc fr (i:Int)=some (fr',o)∧o.length=n∧(∀j,Sn o j↔Sn acc j∨(i≤j∧Sn b j))∧(fr'=true↔fr=true∨∃j,i≤j∧Sn b j∧¬Sn acc j)
  | 0,i,acc,fr,_,_,hm=>by omega
  | m+1,i,acc,fr,ha,hi,hm=>by
    show ∃fr' o,Zhm (ZbZ b m) b acc fr (i:Int)=_∧_
    unfold Zhm
    by_cases h:i<n
    · rw [dt (by omega),cond_true]
      obtain ⟨x,hx⟩:∃x,acc[i]?=some x:=⟨_,List.getElem?_eq_getElem (by omega)⟩
      obtain ⟨y,hy⟩:∃y,b[i]?=some y:=⟨_,List.getElem?_eq_getElem (by omega)⟩
      have e5:∀f:Bool,ZcU (ZbZ b m) b acc (i:Int) f=ZbZ b m (acc.set i (x || y)) f ((i+1:Nat):Int):=fun f=>by
        unfold ZcU Zhn
        rw [if_pos ⟨by omega,by omega⟩,Zw,hx,Option.bind_some,Zab (by omega)]
        cases x
        · rw [cond_false,Zw,hy,Option.bind_some,if_pos ⟨by omega,by omega⟩,Option.bind_some]
          rfl
        · rw [cond_true,if_pos ⟨by omega,by omega⟩,Option.bind_some]
          rfl
      have hset:(acc.set i (x || y)).length=n:=by rw [List.length_set];exact ha
      have sx:Sn acc i↔x=true:=by unfold Sn;rw [hx];simp
      have sy:Sn b i↔y=true:=by unfold Sn;rw [hy];simp
      have sset:∀j,Sn (acc.set i (x || y)) j↔Sn acc j∨(j=i∧Sn b j):=fun j=>by
        rw [Zgk (by omega)]
        by_cases hj:j=i
        · subst hj;rw [sx,sy];simp
        · simp [hj]
      have go:∀f:Bool,(f=true↔fr=true∨(y=true∧x=false))→∃fr' o,ZcU (ZbZ b m) b acc (i:Int) f=some (fr',o)∧o.length=n∧(∀j,Sn o j↔Sn acc j∨(i≤j∧Sn b j))∧(fr'=true↔fr=true∨∃j,i≤j∧Sn b j∧¬Sn acc j):=fun f hf=>by
        obtain ⟨fr',o,e1,h1,h2,h3⟩:=Zlm hb hn m (i+1) (acc.set i (x || y)) f hset (by omega) (by omega)
        refine ⟨fr',o,by rw [e5,e1],h1,fun j=>?_,?_⟩
        · rw [h2,sset]
          constructor
          · rintro ((h9 | ⟨h8,h9⟩) | ⟨h8,h9⟩)
            · exact .inl h9
            · exact .inr ⟨by omega,h9⟩
            · exact .inr ⟨by omega,h9⟩
          · rintro (h | ⟨h,h'⟩)
            · exact .inl (.inl h)
            · by_cases hj:j=i
              · exact .inl (.inr ⟨hj,h'⟩)
              · exact .inr ⟨by omega,h'⟩
        · rw [h3,hf]
          constructor
          · rintro ((h | ⟨a1,a2⟩) | ⟨j,a1,a2,a3⟩)
            · exact .inl h
            · exact .inr ⟨i,Nat.le_refl _,sy.2 a1,by rw [sx,a2];simp⟩
            · exact .inr ⟨j,by omega,a2,fun h=>a3 ((sset j).2 (.inl h))⟩
          · rintro (h | ⟨j,a1,a2,a3⟩)
            · exact .inl (.inl h)
            · by_cases hj:j=i
              · subst hj
                rw [sx] at a3
                exact .inl (.inr ⟨sy.1 a2,by simpa using a3⟩)
              · refine .inr ⟨j,by omega,a2,fun h=>?_⟩
                rcases (sset j).1 h with h | ⟨h,_⟩
                · exact a3 h
                · exact hj h
      cases fr
      · rw [cond_false,Zw,hy,Option.bind_some]
        cases y
        · rw [cond_false];exact go false (by simp)
        · rw [cond_true,if_pos ⟨by omega,by omega⟩,Zw,hx,Option.bind_some];exact go _ (by cases x <;> simp)
      · rw [cond_true];exact go true (by simp)
    · rw [df (by omega),cond_false]
      obtain rfl:i=n:=by omega
      exact ⟨fr,acc,rfl,ha,fun j=>⟨.inl,fun h=>h.elim id (fun ⟨h,h'⟩=>by have:=ZhX h';omega)⟩,⟨.inl,fun h=>h.elim id (fun ⟨j,h,h',_⟩=>by have:=ZhX h';omega)⟩⟩
theorem ZlQ {k:Nat} {a b:List Bool} (hab:b.length=a.length) (hn:a.length≤1048576) (hk:a.length<k) :
    ∃fr o,F69 k a b=some (fr,o)∧o.length=a.length∧(∀j,Sn o j↔Sn a j∨Sn b j)∧(fr=true↔∃j,Sn b j∧¬Sn a j):=by
  obtain ⟨fr,o,e,h1,h2,h3⟩:=Zlm hab hn k 0 a false rfl (Nat.zero_le _) (by omega)
  refine ⟨fr,o,e,h1,fun j=>by rw [h2];simp,by rw [h3];simp⟩
theorem Zj2 {k:Nat} {v:Ze} {cs:List Int} {f:List Bool} (hs:v.f_Set.length≤1048576) (hk:v.f_Set.length<k) (hc:cs.length≤1048576) (hf:f.length=cs.length+1):∀(m i:Nat) (acc:List Bool),acc.length=cs.length+1→i≤cs.length→cs.length-i<m→
    (∀j,Sn acc j↔∃t,t<i∧Sn f t∧Rl (fun w=>∃c,w=[c]∧inR v.f_Set c) cs t j)→∃o,ZbX k v cs f m acc (i:Int)=some o∧Ends (fun w=>∃c,w=[c]∧inR v.f_Set c) cs f o
  | 0,i,acc,_,_,hm,_=>by omega
  | m+1,i,acc,ha,hi,hm,hacc=>by
    show ∃o,Zg7 k (ZbX k v cs f m) v cs f acc (i:Int)=_∧_
    unfold Zg7
    by_cases h:i<cs.length
    · rw [dt (by omega),cond_true]
      obtain ⟨x,hx⟩:∃x,f[i]?=some x:=⟨_,List.getElem?_eq_getElem (by omega)⟩
      obtain ⟨c,hcc⟩:∃c,cs[i]?=some c:=⟨_,List.getElem?_eq_getElem (by omega)⟩
      have sx:Sn f i↔x=true:=by unfold Sn;rw [hx];simp
      obtain ⟨z,hz⟩:∃z,acc[i+1]?=some z:=⟨_,List.getElem?_eq_getElem (by omega)⟩
      have go:∀b:Bool,(b=true↔x=true∧inR v.f_Set c)→∃o,ZbX k v cs f m (acc.set (i+1) b) ((i+1:Nat):Int)=some o∧Ends (fun w=>∃c,w=[c]∧inR v.f_Set c) cs f o:=fun b hb=>by
        refine Zj2 hs hk hc hf m (i+1) (acc.set (i+1) b) (by rw [List.length_set];exact ha) (by omega) (by omega) fun j=>?_
        rw [Zgk (by omega),hacc]
        constructor
        · rintro (⟨h1,h2⟩ | ⟨h1,t,h2,h3,h4⟩)
          · subst h1
            obtain ⟨g1,g2⟩:=hb.1 h2
            exact ⟨i,by omega,sx.2 g1,ZjJ.2 ⟨c,hcc,g2,rfl⟩⟩
          · exact ⟨t,by omega,h3,h4⟩
        · rintro ⟨t,h2,h3,h4⟩
          obtain ⟨c',e1,e2,e3⟩:=ZjJ.1 h4
          by_cases ht:t=i
          · subst ht
            rw [hcc] at e1
            obtain rfl:=Option.some.inj e1
            exact .inl ⟨e3,hb.2 ⟨sx.1 h3,e2⟩⟩
          · exact .inr ⟨by omega,t,by omega,h3,h4⟩
      rw [Zw,hx,Option.bind_some,Zab (by omega)]
      have ei:∀b,((if (0:Int)≤((i+1:Nat):Int)∧((i+1:Nat):Int)<(acc.length:Int) then (idxL acc ((i+1:Nat):Int)).bind fun _=>Zfb (ZbX k v cs f m) (i:Int) (acc.set (Int.toNat ((i+1:Nat):Int)) b) else none))=ZbX k v cs f m (acc.set (i+1) b) ((i+1:Nat):Int):=fun b=>by
        rw [if_pos ⟨by omega,by omega⟩,Zw,hz,Option.bind_some,Int.toNat_natCast]
        unfold Zfb
        rw [Zab (by omega)]
      cases x
      · rw [cond_false,ei];exact go false (by simp)
      · obtain ⟨t,e,p⟩:=ZpC (k:=k) (c:=c) hs hk
        rw [cond_true,Zw,hcc,Option.bind_some,e,Option.bind_some,ei]
        exact go t (by rw [p];simp)
    · rw [df (by omega),cond_false]
      obtain rfl:i=cs.length:=by omega
      refine ⟨acc,rfl,ha,fun j=>(hacc j).trans ⟨fun ⟨t,_,a,b⟩=>⟨t,a,b⟩,fun ⟨t,a,b⟩=>⟨t,?_,a,b⟩⟩⟩
      obtain ⟨c',e1,_,_⟩:=ZjJ.1 b
      exact (List.getElem?_eq_some_iff.1 e1).1
def Zdx (R:Ze→List Int→List Bool→Option (List Bool)) (cs:List Int) (x:Ze):Prop:=∀g:List Bool,g.length=cs.length+1→∃o,R x cs g=some o∧Ends (Lang x) cs g o
theorem Zj1 {R:Ze→List Int→List Bool→Option (List Bool)} {v:Ze} {cs:List Int} {f:List Bool} (hl:v.f_L.length≤1048576) (hc:cs.length≤1048576) (hR:∀x∈v.f_L,Zdx R cs x):∀(l:List Ze) (g:List Bool) (i m:Nat),v.f_L.drop i=l→l.length<m→i≤v.f_L.length→g.length=cs.length+1→
    ∃o,ZdX R v cs f m g (i:Int)=some o∧Ends (LSeq l) cs g o
  | [],g,i,m,hd,hm,hi,hg=>by
    obtain ⟨m,rfl⟩:∃q,m=q+1:=⟨m-1,by simp at hm;omega⟩
    have:=Z4 hd
    refine ⟨g,?_,(Ends.eps hg).congr fun w=>by simp only [LSeq]⟩
    show ZdV _ _ _ _ _ _ _=_
    unfold ZdV
    rw [df (by omega),cond_false,if_pos ⟨by omega,by omega⟩,if_pos (by simp;omega)]
    rfl
  | x :: l,g,i,m,hd,hm,hi,hg=>by
    obtain ⟨m,rfl⟩:∃q,m=q+1:=⟨m-1,by omega⟩
    obtain ⟨g1,g2,g3⟩:=ZW hd
    rw [List.length_cons] at hm
    obtain ⟨h,e1,E1⟩:=hR x (List.mem_of_getElem? g2) g hg
    obtain ⟨o,e2,E2⟩:=Zj1 (f:=f) hl hc hR l h (i+1) m g3 (by omega) (by omega) E1.1
    refine ⟨o,?_,(E1.comp E2).congr fun w=>by simp only [LSeq,Cat]⟩
    show ZdV R (ZdX R v cs f m) v cs f g (i:Int)=_
    unfold ZdV
    rw [dt (by omega),cond_true,Zw,g2,Option.bind_some,e1,Option.bind_some,Zab (by omega),e2]
theorem ZjY {R:Ze→List Int→List Bool→Option (List Bool)} {k:Nat} {v:Ze} {cs:List Int} {f:List Bool} (hl:v.f_L.length≤1048576) (hc:cs.length≤100000) (hk:cs.length+1<k) (hf:f.length=cs.length+1) (hR:∀x∈v.f_L,Zdx R cs x):∀(l:List Ze) (acc:List Bool) (i m:Nat),v.f_L.drop i=l→l.length<m→i≤v.f_L.length→acc.length=cs.length+1→
    ∃o,ZdW R k v cs f m acc (i:Int)=some o∧o.length=cs.length+1∧∀j,Sn o j↔Sn acc j∨∃i,Sn f i∧Rl (LAlt l) cs i j
  | [],acc,i,m,hd,hm,hi,ha=>by
    obtain ⟨m,rfl⟩:∃q,m=q+1:=⟨m-1,by simp at hm;omega⟩
    have:=Z4 hd
    refine ⟨acc,?_,ha,fun j=>⟨.inl,fun h=>h.elim id (fun ⟨_,_,_,_,h⟩=>by simp only [LAlt] at h)⟩⟩
    show ZdU _ _ _ _ _ _ _ _=_
    unfold ZdU
    rw [df (by omega),cond_false]
  | x :: l,acc,i,m,hd,hm,hi,ha=>by
    obtain ⟨m,rfl⟩:∃q,m=q+1:=⟨m-1,by omega⟩
    obtain ⟨g1,g2,g3⟩:=ZW hd
    rw [List.length_cons] at hm
    obtain ⟨h,e1,E1⟩:=hR x (List.mem_of_getElem? g2) f hf
    obtain ⟨fr,o1,e2,l2,s2,_⟩:=ZlQ (k:=k) (a:=acc) (b:=h) (by rw [E1.1,ha]) (by omega) (by omega)
    obtain ⟨o,e3,l3,s3⟩:=ZjY hl hc hk hf hR l o1 (i+1) m g3 (by omega) (by omega) (by omega)
    refine ⟨o,?_,l3,fun j=>?_⟩
    · show ZdU R k (ZdW R k v cs f m) v cs f acc (i:Int)=_
      unfold ZdU
      rw [dt (by omega),cond_true,Zw,g2,Option.bind_some,e1,Option.bind_some,e2,Option.bind_some,if_pos l2,Zab (by omega),e3]
    · rw [s3,s2,E1.2]
      have:∀i,Rl (LAlt (x :: l)) cs i j↔Rl (Lang x) cs i j∨Rl (LAlt l) cs i j:=fun i=>by
        unfold Rl;simp only [LAlt]
        constructor
        · rintro ⟨a,b,c | c⟩
          · exact .inl ⟨a,b,c⟩
          · exact .inr ⟨a,b,c⟩
        · rintro (⟨a,b,c⟩ | ⟨a,b,c⟩)
          · exact ⟨a,b,.inl c⟩
          · exact ⟨a,b,.inr c⟩
      constructor
      · rintro ((h | ⟨i,a,b⟩) | ⟨i,a,b⟩)
        · exact .inl h
        · exact .inr ⟨i,a,(this i).2 (.inl b)⟩
        · exact .inr ⟨i,a,(this i).2 (.inr b)⟩
      · rintro (h | ⟨i,a,b⟩)
        · exact .inl (.inl h)
        · rcases (this i).1 b with b | b
          · exact .inl (.inr ⟨i,a,b⟩)
          · exact .inr ⟨i,a,b⟩
theorem Zom {P:List Int→Prop} (w:List Int):Pow P 1 w↔P w:=by
  constructor
  · rintro ⟨u,v,rfl,h,h2⟩
    have h2:v=[]:=h2
    rw [h2,List.append_nil];exact h
  · exact fun h=>⟨w,[],by simp,h,rfl⟩
theorem ZjI {P:List Int→Prop} (n:Nat) (w:List Int):Cat (Pow P n) P w↔Pow P (n+1) w:=by
  rw [←Zef n 1 w]
  unfold Cat
  simp only [Zom]
def St (P:List Int→Prop) (cs:List Int) (f:List Bool) (n j:Nat):Prop:=∃i,Sn f i∧Rl (Pow P n) cs i j
theorem Zgb {P:List Int→Prop} {cs:List Int} {f:List Bool} {n j:Nat}:St P cs f (n+1) j↔∃m,St P cs f n m∧Rl P cs m j:=by
  unfold St
  constructor
  · rintro ⟨i,a,b⟩
    obtain ⟨m,c,d⟩:=Zhw.1 ((ZcZ fun w=>(ZjI n w).symm).1 b)
    exact ⟨m,⟨i,a,c⟩,d⟩
  · rintro ⟨m,⟨i,a,c⟩,d⟩
    exact ⟨i,a,(ZcZ fun w=>ZjI n w).1 (Zhw.2 ⟨m,c,d⟩)⟩
theorem Znn {a o:List Bool} (hl:o.length=a.length) (h:∀j,Sn a j→Sn o j) (hf:∃j,Sn o j∧¬Sn a j):o.count false<a.count false:=by
  induction a generalizing o with
  | nil=>
    obtain ⟨j,h1,h2⟩:=hf
    have:=ZhX h1
    rw [hl] at this
    simp at this
  | cons x a ih=>
    cases o with
    | nil=>simp at hl
    | cons y o=>
      have hl':o.length=a.length:=by simpa using hl
      have h0:x=true→y=true:=fun e=>by have:=h 0;unfold Sn at this;simp at this;exact this e
      have hs:∀j,Sn a j→Sn o j:=fun j hj=>by have:=h (j+1);unfold Sn at this hj ⊢;simpa using this (by simpa using hj)
      have hle:o.count false≤a.count false:=by
        by_cases h3:∃j,Sn o j∧¬Sn a j
        · exact Nat.le_of_lt (ih hl' hs h3)
        · have:o=a:=by
            apply List.ext_getElem?
            intro j
            by_cases hj:j<a.length
            · have h4:¬(Sn o j∧¬Sn a j):=fun c=>h3 ⟨j,c⟩
              have h5:=hs j
              unfold Sn at h4 h5
              rw [List.getElem?_eq_getElem hj,List.getElem?_eq_getElem (by omega:j<o.length)] at h4 h5 ⊢
              cases hx:a[j] <;> cases hy:o[j] <;> simp_all
            · rw [List.getElem?_eq_none (by omega),List.getElem?_eq_none (by omega)]
          rw [this];exact Nat.le_refl _
      obtain ⟨j,h1,h2⟩:=hf
      cases j with
      | zero=>
        unfold Sn at h1 h2
        simp at h1 h2
        subst h1;subst h2
        simp;omega
      | succ j=>
        have h3:=ih hl' hs ⟨j,by unfold Sn at h1 ⊢;simpa using h1,by unfold Sn at h2 ⊢;simpa using h2⟩
        cases x <;> cases y <;> simp_all
        omega
theorem Zj0 {R:Ze→List Int→List Bool→Option (List Bool)} {k:Nat} {v x:Ze} {cs:List Int} {f:List Bool} {a:Nat} (hc:cs.length≤100000) (hk:cs.length+1<k) (hx:idxL v.f_L 0=some x) (hR:Zdx R cs x) (hmx:v.f_Max<0∨(a:Int)≤v.f_Max) :
    ∀(m:Nat) (o now:List Bool) (kk:Nat),o.length=cs.length+1→now.length=cs.length+1→o.count false<m→kk+m≤1000000000→a≤kk→(v.f_Max<0∨(kk:Int)≤v.f_Max)→(∀j,Sn now j↔St (Lang x) cs f kk j)→(∀j,Sn o j↔∃n,a≤n∧n≤kk∧St (Lang x) cs f n j)→
    ∃o',ZdZ R k v cs m o now (kk:Int)=some o'∧o'.length=cs.length+1∧∀j,Sn o' j↔∃n:Nat,a≤n∧(v.f_Max<0∨(n:Int)≤v.f_Max)∧St (Lang x) cs f n j
  | 0,o,now,kk,_,_,hm,_,_,_,_,_=>by omega
  | m+1,o,now,kk,ho,hn,hm,hkm,hak,hkx,hnow,hout=>by
    show ∃o',Zg9 R k (ZdZ R k v cs m) v cs o now (kk:Int)=_∧_
    unfold Zg9 Zha
    by_cases he:(kk:Int)=v.f_Max
    · rw [show ((kk:Int) != v.f_Max)=false by simp [he],cond_false]
      refine ⟨o,rfl,ho,fun j=>(hout j).trans ⟨fun ⟨n,h1,h2,h3⟩=>⟨n,h1,.inr (by omega),h3⟩,fun ⟨n,h1,h2,h3⟩=>⟨n,h1,by omega,h3⟩⟩⟩
    · rw [show ((kk:Int) != v.f_Max)=true by simp [he],cond_true,hx,Option.bind_some]
      obtain ⟨nx,e1,E1⟩:=hR now hn
      obtain ⟨fr,o1,e2,l2,s2,f2⟩:=ZlQ (k:=k) (a:=o) (b:=nx) (by rw [E1.1,ho]) (by omega) (by omega)
      have hnx:∀j,Sn nx j↔St (Lang x) cs f (kk+1) j:=fun j=>by
        rw [E1.2,Zgb]
        exact ⟨fun ⟨i,a,b⟩=>⟨i,(hnow i).1 a,b⟩,fun ⟨i,a,b⟩=>⟨i,(hnow i).2 a,b⟩⟩
      have ho1:∀j,Sn o1 j↔∃n,a≤n∧n≤kk+1∧St (Lang x) cs f n j:=fun j=>by
        rw [s2,hout,hnx]
        constructor
        · rintro (⟨n,h1,h2,h3⟩ | h)
          · exact ⟨n,h1,by omega,h3⟩
          · exact ⟨kk+1,by omega,Nat.le_refl _,h⟩
        · rintro ⟨n,h1,h2,h3⟩
          by_cases h4:n=kk+1
          · subst h4;exact .inr h3
          · exact .inl ⟨n,h1,by omega,h3⟩
      rw [e1,Option.bind_some,e2,Option.bind_some,if_pos l2]
      cases fr
      · rw [Bool.not_false,cond_true]
        have old:∀j,Sn nx j→Sn o j:=fun j h=>Classical.byContradiction fun c=>by have:=f2.2 ⟨j,h,c⟩;cases this
        have all:∀(n:Nat),a≤n→∀j,St (Lang x) cs f n j→Sn o j:=fun n=>by
          induction n with
          | zero=>exact fun h1 j h3=>(hout j).2 ⟨0,h1,by omega,h3⟩
          | succ n ih=>
            intro h1 j h3
            by_cases h4:n+1≤kk
            · exact (hout j).2 ⟨n+1,h1,h4,h3⟩
            · by_cases h5:a≤n
              · obtain ⟨i,g1,g2⟩:=Zgb.1 h3
                obtain ⟨n',q1,q2,q3⟩:=(hout i).1 (ih h5 i g1)
                have q4:St (Lang x) cs f (n'+1) j:=Zgb.2 ⟨i,q3,g2⟩
                by_cases h6:n'=kk
                · subst h6;exact old j ((hnx j).2 q4)
                · exact (hout j).2 ⟨n'+1,by omega,by omega,q4⟩
              · have:n+1=kk+1:=by omega
                rw [this] at h3
                exact old j ((hnx j).2 h3)
        refine ⟨o1,rfl,by omega,fun j=>?_⟩
        rw [ho1]
        constructor
        · rintro ⟨n,h1,h2,h3⟩
          obtain ⟨n',q1,q2,q3⟩:=(hout j).1 (all n h1 j h3)
          exact ⟨n',q1,by omega,q3⟩
        · rintro ⟨n,h1,h2,h3⟩
          obtain ⟨n',q1,q2,q3⟩:=(hout j).1 (all n h1 j h3)
          exact ⟨n',q1,by omega,q3⟩
      · rw [Bool.not_true,cond_false,Zab (by omega)]
        have hcnt:=Znn l2 (fun j h=>(s2 j).2 (.inl h)) (by obtain ⟨j,h1,h2⟩:=f2.1 rfl;exact ⟨j,(s2 j).2 (.inr h1),h2⟩)
        exact Zj0 hc hk hx hR hmx m o1 nx (kk+1) (by omega) E1.1 (by omega) (by omega) (by omega) (by omega) hnx ho1
theorem Zgj (n j:Nat):¬Sn (List.replicate n false) j:=ZhY n j
theorem ZjZ {R:Ze→List Int→List Bool→Option (List Bool)} {k:Nat} {v x:Ze} {cs:List Int} {f:List Bool} {a:Nat} (hc:cs.length≤100000) (hk:cs.length+2<k) (hk2:k≤1048576) (hx:idxL v.f_L 0=some x) (hR:Zdx R cs x) (hf:f.length=cs.length+1) (ha:v.f_Min=(a:Int)) (ha2:a≤20) (hmx:v.f_Max<0∨(a:Int)≤v.f_Max) :
    ∀(m:Nat) (now:List Bool) (kk:Nat),now.length=cs.length+1→a-kk<m→kk≤a→(∀j,Sn now j↔St (Lang x) cs f kk j)→
    ∃o',ZdY R k v cs f m now (kk:Int)=some o'∧o'.length=cs.length+1∧∀j,Sn o' j↔∃n:Nat,a≤n∧(v.f_Max<0∨(n:Int)≤v.f_Max)∧St (Lang x) cs f n j
  | 0,now,kk,_,hm,_,_=>by omega
  | m+1,now,kk,hn,hm,hka,hnow=>by
    show ∃o',Zg8 R k (ZdY R k v cs f m) v cs f now (kk:Int)=_∧_
    unfold Zg8
    by_cases h:kk<a
    · obtain ⟨nx,e1,E1⟩:=hR now hn
      rw [ha,dt (by omega),cond_true,hx,Option.bind_some,e1,Option.bind_some,Zab (by omega)]
      refine ZjZ hc hk hk2 hx hR hf ha ha2 hmx m nx (kk+1) E1.1 (by omega) (by omega) fun j=>?_
      rw [E1.2,Zgb]
      exact ⟨fun ⟨i,a,b⟩=>⟨i,(hnow i).1 a,b⟩,fun ⟨i,a,b⟩=>⟨i,(hnow i).2 a,b⟩⟩
    · obtain rfl:kk=a:=by omega
      have er:(List.replicate (Int.toNat (f.length:Int)) false).length=cs.length+1:=by rw [List.length_replicate,Int.toNat_natCast,hf]
      obtain ⟨fr,o1,e2,l2,s2,_⟩:=ZlQ (k:=k) (a:=List.replicate (Int.toNat (f.length:Int)) false) (b:=now) (by rw [er,hn]) (by omega) (by omega)
      rw [ha,df (by omega),cond_false,e2,Option.bind_some,if_pos l2]
      have hcnt:o1.count false≤o1.length:=List.count_le_length
      refine Zj0 (f:=f) (a:=kk) hc (by omega) hx hR hmx k o1 now kk (by omega) hn (by omega) (by omega) (Nat.le_refl _) hmx hnow fun j=>?_
      rw [s2,hnow]
      constructor
      · rintro (h | h)
        · exact absurd h (Zgj _ _)
        · exact ⟨kk,Nat.le_refl _,Nat.le_refl _,h⟩
      · rintro ⟨n,h1,h2,h3⟩
        obtain rfl:n=kk:=by omega
        exact .inr h3
theorem Zla {cs:List Int} (hc:cs.length≤100000):∀(k:Nat) (r:Ze),k≤1048576→WF r→fs r+cs.length≤k→Zdx (F45 k) cs r
  | 0,⟨kd,st,l,a,b⟩,_,_,hf=>by simp only [fs] at hf;omega
  | k+1,⟨kd,st,l,a,b⟩,hk,hw,hfu=>by
    intro f hf
    simp only [fs] at hfu
    obtain ⟨⟨hkd,h4,hst,hll⟩,hwl⟩:=hw
    simp only [] at hkd h4 hst hll
    have hR:∀x∈l,Zdx (F45 k) cs x:=fun x hx=>Zla hc k x (by omega) (Zk2 hwl hx) (by have:=ZcJ hx;omega)
    show ∃o,Zjl (F45 k) k ⟨kd,st,l,a,b⟩ cs f=_∧_
    unfold Zjl
    rw [if_pos ⟨by omega,by omega⟩]
    simp only
    have er:(List.replicate (Int.toNat (f.length:Int)) false).length=cs.length+1:=by rw [List.length_replicate,Int.toNat_natCast,hf]
    by_cases k1:kd=1
    · subst k1
      obtain ⟨o,e,E⟩:=Zj2 (k:=k) (v:=⟨1,st,l,a,b⟩) (cs:=cs) (f:=f) (by show st.length≤_;omega) (by show st.length<k;omega) (by omega) hf k 0 _ er (Nat.zero_le _) (by omega) (fun j=>⟨fun h=>absurd h (Zgj _ _),fun ⟨t,h,_⟩=>by omega⟩)
      refine ⟨o,by rw [ZZ rfl,cond_true];exact e,E.congr fun w=>?_⟩
      rw [Za6]
      simp
    rw [ZM k1,cond_false]
    by_cases k3:kd=3
    · subst k3
      obtain ⟨o,e,l1,s1⟩:=ZjY (R:=F45 k) (k:=k) (v:=⟨3,st,l,a,b⟩) (cs:=cs) (f:=f) (by show l.length≤_;omega) hc (by omega) hf hR l _ 0 k rfl (by omega) (Nat.zero_le _) er
      refine ⟨o,by rw [ZZ rfl,cond_true];exact e,l1,fun j=>(s1 j).trans ?_⟩
      have:∀i,Rl (LAlt l) cs i j↔Rl (Lang ⟨3,st,l,a,b⟩) cs i j:=fun i=>ZcZ fun w=>by rw [Za6];simp
      simp only [this]
      exact ⟨fun h=>h.elim (fun h=>absurd h (Zgj _ _)) id,.inr⟩
    rw [ZM k3,cond_false]
    by_cases k2:kd=2
    · subst k2
      obtain ⟨o,e,E⟩:=Zj1 (R:=F45 k) (v:=⟨2,st,l,a,b⟩) (cs:=cs) (f:=f) (by show l.length≤_;omega) (by omega) hR l f 0 k rfl (by omega) (Nat.zero_le _) hf
      exact ⟨o,by rw [ZZ rfl,cond_true];exact e,E.congr fun w=>by rw [Za6];simp⟩
    rw [ZM k2,cond_false]
    obtain rfl:kd=4:=by omega
    obtain ⟨h5,h6,h7,h8,h9⟩:=h4 rfl
    obtain ⟨x,rfl⟩:=List.length_eq_one_iff.1 h5
    obtain ⟨o,e,l1,s1⟩:=ZjZ (R:=F45 k) (k:=k) (v:=⟨4,st,[x],a,b⟩) (x:=x) (cs:=cs) (f:=f) (a:=a.toNat) hc (by omega) (by omega) rfl (hR x List.mem_cons_self) hf (by simp only;omega) (by omega) (by simp only;omega) k f 0 hf (by omega) (Nat.zero_le _) (fun j=>by
      unfold St
      exact ⟨fun h=>⟨j,h,Zhx.2 ⟨rfl,by have:=ZhX h;omega⟩⟩,fun ⟨i,h1,h2⟩=>by
        have:=(Zhx.1 h2).1
        subst this;exact h1⟩)
    refine ⟨o,?_,l1,fun j=>(s1 j).trans ?_⟩
    · rw [if_pos (by simp;omega),List.nil_append]
      exact e
    · unfold St
      constructor
      · rintro ⟨n,h1,h2,i,h3,h10,h11,h12⟩
        exact ⟨i,h3,h10,h11,(Zc8 _).2 ⟨n,by omega,h2,h12⟩⟩
      · rintro ⟨i,h3,h10,h11,h12⟩
        obtain ⟨n,h1,h2,h13⟩:=(Zc8 _).1 h12
        exact ⟨n,by omega,h2,i,h3,h10,h11,h13⟩
theorem Zgw {k:Nat} {s:List UInt8} (hk:5≤k) (hs:s.length≤100000):∀(m i:Nat) (acc:List Int),i≤s.length→s.length-i<m→validD (s.drop i)=true→acc.length≤i→ZdT k s m acc (i:Int)=some (acc ++ pts (s.drop i))
  | 0,i,acc,_,hm,_,_=>by omega
  | m+1,i,acc,hi,hm,hv,ha=>by
    show Zg6 k (ZdT k s m) s acc (i:Int)=_
    unfold Zg6
    by_cases h:i<s.length
    · have hne:s.drop i≠[]:=fun c=>by have:=List.drop_eq_nil_iff.1 c;omega
      obtain ⟨h1,h2⟩:=Zby hne hv
      have hle:=decodeL_le _ hne
      rw [List.length_drop] at hle
      have hw:=decodeL_width (s.drop i)
      rw [dt (by omega),cond_true,Zmb hk h (by omega),Option.bind_some]
      unfold nxt
      rw [if_neg h1,if_pos (by simp;omega)]
      simp only
      rw [Zt (by omega) (by omega),show (i:Int)+((decodeL (s.drop i)).2:Int)=((i+(decodeL (s.drop i)).2:Nat):Int) by omega]
      rw [List.drop_drop] at h2
      rw [Zgw hk hs m (i+(decodeL (s.drop i)).2) _ (by omega) (by omega) h2 (by simp;omega),ZaX hne,List.drop_drop,List.append_assoc]
      rfl
    · rw [df (by omega),cond_false,List.drop_eq_nil_of_le (by omega),ZcM,List.append_nil]
theorem ZmT {k:Nat} {r:Ze} {s:List UInt8} (hk:k≤1048576) (hw:WF r) (hf:fs r+s.length+40≤k) (hs:s.length≤100000) (hm:F22 k r=some true) (hv:validD s=true):∃b,F23 k r s=some b∧(b=true↔Lang r (pts s)):=by
  have hp:=(Zgh s.length s (Nat.le_refl _)).1
  have e1:F44 k s=some (pts s):=by
    have:=Zgw (k:=k) (s:=s) (by omega) hs k 0 [] (Nat.zero_le _) (by omega) (by rw [List.drop_zero];exact hv) (Nat.le_refl _)
    rw [List.nil_append,List.drop_zero] at this
    exact this
  have ew:w64 (((pts s).length:Int)+1)=(((pts s).length+1:Nat):Int):=Zab (by omega)
  obtain ⟨o,e2,E⟩:=Zla (cs:=pts s) (by omega) k r hk hw (by omega) ((List.replicate ((pts s).length+1) false).set 0 true) (by rw [List.length_set,List.length_replicate])
  obtain ⟨b,hb⟩:∃b,o[(pts s).length]?=some b:=⟨_,List.getElem?_eq_getElem (by rw [E.1];omega)⟩
  refine ⟨b,?_,?_⟩
  · unfold F23 ZdH
    rw [hm,Option.bind_some,Bool.not_true,cond_false,ZgZ (by omega) (by omega) (by omega),Option.bind_some,hv,Bool.not_true,cond_false,e1,Option.bind_some,ew,if_pos ⟨by omega,by omega⟩,Int.toNat_natCast,if_pos ⟨by omega,by rw [List.length_replicate];omega⟩]
    have e0:idxL (List.replicate ((pts s).length+1) false) 0=some false:=rfl
    rw [e0,Option.bind_some,show (Int.toNat 0)=0 from rfl,e2,Option.bind_some,Zw,hb]
    rfl
  · have:b=true↔Sn o (pts s).length:=by unfold Sn;rw [hb];simp
    rw [this,E.2]
    have hsp:span (pts s) 0 (pts s).length=pts s:=by unfold span;simp
    constructor
    · rintro ⟨i,h1,h2,h3,h4⟩
      rw [Zgk (by simp)] at h1
      rcases h1 with ⟨rfl,_⟩ | ⟨_,h1⟩
      · rw [hsp] at h4;exact h4
      · exact absurd h1 (Zgj _ _)
    · exact fun h=>⟨0,(Zgk (by simp)).2 (.inl ⟨rfl,rfl⟩),Nat.zero_le _,Nat.le_refl _,by rw [hsp];exact h⟩
end Go.Proofs.YthilboheomikjaaGreatDoor
end
section
namespace Go.Proofs.YthilboheomikjaaGreatDoor
open Go.AL Go.Lib
set_option maxRecDepth 100000
theorem Zjr {a b c:Int}:mn a b≤c↔a≤c∨b≤c:=by unfold mn;split <;> omega
mutual
theorem Zl0:∀r:Ze,OK r→sz r≤200→fs r≤4000→WF r∧(cnt r:Int)≤2*sz r-1
  | ⟨kd,st,l,a,b⟩,ho,hs,hf=>by
    simp only [OK] at ho
    simp only [fs] at hf
    obtain ⟨h0,hl⟩:=ho
    have hL:=ZcN l
    rcases h0 with ⟨rfl,_,h3,_⟩ | ⟨rfl,_,h3,_⟩ | ⟨rfl,_,h3,_⟩ | ⟨rfl,h3,_,h5,h6,h7,h8⟩
    · obtain rfl:l=[]:=h3
      refine ⟨⟨⟨.inl rfl,fun h=>absurd h (by show ¬(1:Int)=4;omega),by show st.length≤_;omega,by simp⟩,trivial⟩,?_⟩
      simp [cnt,sz]
    · have e:sz ⟨2,st,l,a,b⟩=mn (szL l+1) 1000:=by simp [sz]
      rw [e] at hs ⊢
      have e2:mn (szL l+1) 1000=szL l+1:=mn_l (by rw [Zjr] at hs;omega)
      rw [e2] at hs ⊢
      obtain ⟨h9,h10⟩:=ZfQ l hl (by omega) (by omega)
      refine ⟨⟨⟨.inr (.inl rfl),fun h=>absurd h (by show ¬(2:Int)=4;omega),by show st.length≤_;omega,by have:=Ziz l;show l.length≤_;omega⟩,h9⟩,?_⟩
      simp only [cnt,if_neg (show ¬(2:Int)=1 by omega),if_true]
      omega
    · have e:sz ⟨3,st,l,a,b⟩=mn (szL l+1) 1000:=by simp [sz]
      rw [e] at hs ⊢
      have e2:mn (szL l+1) 1000=szL l+1:=mn_l (by rw [Zjr] at hs;omega)
      rw [e2] at hs ⊢
      obtain ⟨h9,h10⟩:=ZfQ l hl (by omega) (by omega)
      refine ⟨⟨⟨.inr (.inr (.inl rfl)),fun h=>absurd h (by show ¬(3:Int)=4;omega),by show st.length≤_;omega,by have:=Ziz l;show l.length≤_;omega⟩,h9⟩,?_⟩
      simp only [cnt,if_neg (show ¬(3:Int)=1 by omega),if_neg (show ¬(3:Int)=2 by omega),if_true]
      have:1<l.length:=h3
      omega
    · simp only at h3 h5 h6 h7 h8
      obtain ⟨x,rfl⟩:=List.length_eq_one_iff.1 h3
      have e:sz ⟨4,st,[x],a,b⟩=mn (sz x*mn (mx (if b<0 then w64 (a+1) else b) 1) 1000+1) 1000:=by simp [sz,szH]
      have hx:=ZbJ x
      have eq:mn (mx (if b<0 then w64 (a+1) else b) 1) 1000=if b<0 then a+1 else if b<1 then 1 else b:=by
        rw [Zt (x:=a+1) (by omega) (by omega)]
        by_cases hb:b<0
        · rw [if_pos hb,if_pos hb,mx_l (by omega),mn_l (by omega)]
        · rw [if_neg hb,if_neg hb]
          by_cases hb1:b<1
          · rw [if_pos hb1,mx_r (by omega),mn_l (by omega)]
          · rw [if_neg hb1,mx_l (by omega),mn_l (by omega)]
      rw [eq] at e
      obtain ⟨n,rfl⟩:∃n:Nat,a=(n:Int):=⟨a.toNat,by omega⟩
      obtain ⟨s,hsz⟩:∃s:Nat,sz x=(s:Int):=⟨(sz x).toNat,by omega⟩
      rw [hsz] at e hx
      have hcx:∀q:Nat,cntL [x]=q→q=cnt x:=fun q hq=>by simp [cntL] at hq;omega
      by_cases hb:b<0
      · rw [if_pos hb] at e
        have e1:(s:Int)*((n:Int)+1)=((s*(n+1):Nat):Int):=by simp
        rw [e1] at e
        have e2:mn (((s*(n+1):Nat):Int)+1) 1000=((s*(n+1):Nat):Int)+1:=mn_l (by rw [e,Zjr] at hs;omega)
        rw [e2] at e
        rw [e] at hs ⊢
        have hsl:s≤s*(n+1):=Nat.le_mul_of_pos_right s (by omega)
        obtain ⟨h9,h10⟩:=ZfQ [x] hl (by simp [szL];omega) (by simp only [fsL] at hf ⊢;omega)
        refine ⟨⟨⟨.inr (.inr (.inr rfl)),fun _=>⟨rfl,by simp only;omega,h6,h7,h8⟩,by show st.length≤_;omega,by simp⟩,h9⟩,?_⟩
        simp only [cnt,if_neg (show ¬(4:Int)=1 by omega),if_neg (show ¬(4:Int)=2 by omega),if_neg (show ¬(4:Int)=3 by omega),if_pos hb,Int.toNat_natCast]
        have hc:cntL [x]+1≤2*s:=by simp [szL,hsz] at h10;omega
        have hm:(n+1)*(cntL [x]+1)≤(n+1)*(2*s):=Nat.mul_le_mul_left _ hc
        rw [Nat.mul_add,Nat.mul_one] at hm
        have e3:(n+1)*(2*s)=2*(s*(n+1)):=by rw [Nat.mul_comm s,Nat.mul_left_comm]
        omega
      · rw [if_neg hb] at e
        obtain ⟨m,rfl⟩:∃m:Nat,b=(m:Int):=⟨b.toNat,by omega⟩
        have e1:(s:Int)*(if (m:Int)<1 then 1 else (m:Int))=((s*(if m<1 then 1 else m):Nat):Int):=by
          by_cases hm:m<1
          · rw [if_pos hm,if_pos (by omega)];simp
          · rw [if_neg hm,if_neg (by omega)];simp
        rw [e1] at e
        have e2:mn (((s*(if m<1 then 1 else m):Nat):Int)+1) 1000=((s*(if m<1 then 1 else m):Nat):Int)+1:=mn_l (by rw [e,Zjr] at hs;omega)
        rw [e2] at e
        rw [e] at hs ⊢
        have hsl:s≤s*(if m<1 then 1 else m):=Nat.le_mul_of_pos_right s (by split <;> omega)
        have hml:s*m≤s*(if m<1 then 1 else m):=Nat.mul_le_mul_left _ (by split <;> omega)
        obtain ⟨h9,h10⟩:=ZfQ [x] hl (by simp [szL];omega) (by simp only [fsL] at hf ⊢;omega)
        refine ⟨⟨⟨.inr (.inr (.inr rfl)),fun _=>⟨rfl,by simp only;omega,h6,h7,h8⟩,by show st.length≤_;omega,by simp⟩,h9⟩,?_⟩
        simp only [cnt,if_neg (show ¬(4:Int)=1 by omega),if_neg (show ¬(4:Int)=2 by omega),if_neg (show ¬(4:Int)=3 by omega),if_neg hb,Int.toNat_natCast]
        have hc:cntL [x]+1≤2*s:=by simp [szL,hsz] at h10;omega
        have hm:m*(cntL [x]+1)≤m*(2*s):=Nat.mul_le_mul_left _ hc
        rw [Nat.mul_add,Nat.mul_one] at hm
        have e3:m*(2*s)=2*(s*m):=by rw [Nat.mul_comm s,Nat.mul_left_comm]
        omega
theorem ZfQ:∀l:List Ze,OKL l→szL l≤199→fsL l≤4000→WFL l∧(cntL l:Int)≤2*szL l-l.length
  | [],_,_,_=>⟨trivial,by simp [cntL,szL]⟩
  | x :: l,ho,hs,hf=>by
    simp only [OKL] at ho
    simp only [szL] at hs
    simp only [fsL] at hf
    have h1:=ZbJ x
    have h2:=ZcN l
    obtain ⟨a1,a2⟩:=Zl0 x ho.1 (by omega) (by omega)
    obtain ⟨b1,b2⟩:=ZfQ l ho.2 (by omega) (by omega)
    refine ⟨⟨a1,b1⟩,?_⟩
    simp only [cntL,szL,List.length_cons]
    omega
theorem Ziz:∀l:List Ze,(l.length:Int)≤szL l
  | []=>by simp [szL]
  | x :: l=>by
    have h1:=ZbJ x
    have:=Ziz l
    simp only [szL,List.length_cons];omega
end
mutual
theorem ZnY:∀r:Ze,fu r≤fs r
  | ⟨kd,st,l,a,b⟩=>by
    have:=Zmz l
    simp only [fu,fs];omega
theorem Zmz:∀l:List Ze,fuL l≤fsL l
  | []=>by simp [fuL,fsL]
  | x :: l=>by
    have:=ZnY x
    have:=Zmz l
    simp only [fuL,fsL];omega
end
def MayP (r:Ze):Prop:=(OK r∧dp r≤16)∧sz r≤200
theorem Zne {k:Nat} {r:Ze} {s:List UInt8} (hk:k≤1048576) (hf:fs r≤4000) (hk2:fs r+s.length+1500≤k) (hs:s.length≤100000) :
    ∃b,F31 k r s=some b∧(b=true↔MayP r∧validD s=true∧Lang r (pts s)):=by
  obtain ⟨t,e,p⟩:=Zmk (k:=k) (r:=r) hk (by omega)
  cases t
  · refine ⟨false,?_,by simp;intro h;exact absurd (p.2 h) (by simp)⟩
    unfold F31 Ze4
    rw [e];rfl
  · have hm:=p.1 rfl
    cases hv:validD s
    · exact ⟨false,Zdl (by omega) e hv,by simp⟩
    · obtain ⟨hw,hc⟩:=Zl0 r hm.1.1 hm.2 hf
      have:=ZnY r
      have:=hm.2
      obtain ⟨b,e2,p2⟩:=ZgJ (k:=k) hk hw (by omega) (by omega) (by omega) e hv
      exact ⟨b,e2,p2.trans ⟨fun h=>⟨hm,rfl,h⟩,fun h=>h.2.2⟩⟩
theorem ZlS {k:Nat} {r:Ze} {s:List UInt8} (hk:k≤1048576) (hf:fs r≤4000) (hk2:fs r+s.length+1500≤k) (hs:s.length≤100000) :
    ∃b,F23 k r s=some b∧(b=true↔MayP r∧validD s=true∧Lang r (pts s)):=by
  obtain ⟨t,e,p⟩:=Zlp (k:=k) (r:=r) hk (by omega)
  cases t
  · refine ⟨false,?_,by simp;intro h;exact absurd (p.2 h) (by simp)⟩
    unfold F23 ZdH
    rw [e];rfl
  · have hm:=p.1 rfl
    cases hv:validD s
    · refine ⟨false,?_,by simp⟩
      unfold F23 ZdH
      rw [e,Option.bind_some,Bool.not_true,cond_false,ZgZ (by omega) (by omega) (by omega),hv];rfl
    · obtain ⟨hw,hc⟩:=Zl0 r hm.1.1 hm.2 hf
      obtain ⟨b,e2,p2⟩:=ZmT (k:=k) hk hw (by omega) hs e hv
      exact ⟨b,e2,p2.trans ⟨fun h=>⟨hm,rfl,h⟩,fun h=>h.2.2⟩⟩
end Go.Proofs.YthilboheomikjaaGreatDoor
end
section
namespace Go.Proofs.YthilboheomikjaaGreatDoor
open Go.AL
set_option maxRecDepth 100000
def Zjo (v113:Bool):Option Bool:=
  some v113
def Zht (v121:Bool):Option Bool:=
  some v121
def Zf8 (k:Nat) (v0:Ze) (v1:List UInt8) (v103:Bool):Option Bool:=
  cond v103 ((F26 k).bind fun y105=>(some y105)) ((F22 k v0).bind fun y106=>(F30 k v0).bind fun y107=>(cond (!(y107 == y106)) ((some false)) (((cond (!y106) ((F26 k).bind fun y110=>cond y110 ((F31 k v0 v1).bind fun y112=>(Zjo (!y112))) ((Zjo false))) ((F26 k).bind fun y114=>cond y114 ((F32 k v0).bind fun y116=>(F20 k v0).bind fun y117=>cond (y116 == y117) ((F31 k v0 v1).bind fun y119=>(F23 k v0 v1).bind fun y120=>(Zht (y119 == y120))) ((Zht false))) ((Zht false))))))))
def F7 (k:Nat) (v0:Ze) (v1:List UInt8):Option Bool:=
  (F21 k v0).bind fun y101=>cond (!y101) ((Zf8 k v0 v1 true)) ((Zf8 k v0 v1 (decide ((v1.length:Int) > 60))))
theorem Zpv (k:Nat) (v0:Ze) (v1:List UInt8) (r:Bool) (hF:F7 k v0 v1=some r):Sim Tryz.prog GL0 7 [.val true (pvL (Zc v0)),one (.str v1)] [] (one (.bool r)) []:=by
 refine ZB [] Tryz.func7 rfl kr kr ?_
 show WA _ _ 47 _ _ _
 refine WA.seq ?_
 refine WA.reg [1,2] [102] [(0,.obj 102)] (env':=[(1,one (.str v1)),(2,.val false [.ptr 102 1 0 0])]) (os':=[(102,.box (pvL (Zc v0)))]) (O:=[]) kr (sound _ _) trivial ?_
 refine WA.seq ?_
 refine WA.join (fun s_=>∃(v103:Bool),Zj s_.env [1,2,13]=[(1,one (.str v1)),(2,.val false [.ptr 102 1 0 0]),(13,one (.bool v103))]∧Zj s_.os [102]=[(102,.box (pvL (Zc v0)))]∧Zf8 k v0 v1 v103=some r) ?_ ?_
 {
 rintro s_ ⟨v103,he,ho,hF⟩
 refine WA.keep _ _ he ho ?_
 clear he ho
 refine WA.cond (b:=v103) rfl (fun hb104=>?_) (fun hb104=>?_)
 {
 have hF:=Zi hF hb104
 refine WA.seq ?_
 obtain ⟨y105,hy105,hF⟩:=bind_some hF
 refine WA.reg [4] [] [(0,.callR [] (one (.bool y105)))] (env':=[(4,one (.bool y105))]) (os':=[]) (O:=[Sim Tryz.prog GL0 26 [] [] (one (.bool y105)) [],([]:List Nat).Nodup]) kr (sound _ _) ⟨(ZaF k _ hy105),(by decide),trivial⟩ ?_
 refine WA.ret ?_
 obtain rfl:=Option.some.inj hF
 exact Zq (one (.bool y105)) [] kr kr kr kr (by decide) rfl rfl }
 {
 have hF:=Zh hF hb104
 refine WA.skip ?_
 refine WA.seq ?_
 obtain ⟨y106,hy106,hF⟩:=bind_some hF
 refine WA.reg [1,2,5] [102] [(1,.callR [] (one (.bool y106)))] (env':=[(1,one (.str v1)),(2,.val false [.ptr 102 1 0 0]),(5,one (.bool y106))]) (os':=[(102,.box (pvL (Zc v0)))]) (O:=[Sim Tryz.prog GL0 22 [.val true (pvL (Zc v0))] [] (one (.bool y106)) [],([]:List Nat).Nodup]) kr (sound _ _) ⟨(Zjv k _ _ hy106),(by decide),trivial⟩ ?_
 refine WA.seq ?_
 refine WA.seq ?_
 obtain ⟨y107,hy107,hF⟩:=bind_some hF
 refine WA.reg [1,2,5,20] [102] [(1,.callR [] (one (.bool y107)))] (env':=[(1,one (.str v1)),(2,.val false [.ptr 102 1 0 0]),(5,one (.bool y106)),(20,one (.bool (!(y107 == y106))))]) (os':=[(102,.box (pvL (Zc v0)))]) (O:=[Sim Tryz.prog GL0 30 [.val true (pvL (Zc v0))] [] (one (.bool y107)) [],([]:List Nat).Nodup]) kr (sound _ _) ⟨(ZcS k _ _ hy107),(by decide),trivial⟩ ?_
 refine WA.cond (b:=(!(y107 == y106))) rfl (fun hb108=>?_) (fun hb108=>?_)
 {
 have hF:=Zi hF hb108
 refine WA.seq ?_
 refine WA.reg [4] [] [] (env':=[(4,one (.bool false))]) (os':=[]) (O:=[]) kr (sound _ _) trivial ?_
 refine WA.ret ?_
 obtain rfl:=Option.some.inj hF
 exact Zq (one (.bool false)) [] kr kr kr kr (by decide) rfl rfl }
 {
 have hF:=Zh hF hb108
 refine WA.skip ?_
 refine WA.seq ?_
 refine WA.seq ?_
 refine WA.reg [1,2,22] [102] [] (env':=[(1,one (.str v1)),(2,.val false [.ptr 102 1 0 0]),(22,one (.bool (!y106)))]) (os':=[(102,.box (pvL (Zc v0)))]) (O:=[]) kr (sound _ _) trivial ?_
 refine WA.cond (b:=(!y106)) rfl (fun hb109=>?_) (fun hb109=>?_)
 {
 have hF:=Zi hF hb109
 refine WA.join (fun s_=>∃(v113:Bool),Zj s_.env [4]=[(4,one (.bool v113))]∧Zj s_.os []=[]∧Zjo v113=some r) ?_ ?_
 {
 rintro s_ ⟨v113,he,ho,hF⟩
 refine WA.keep _ _ he ho ?_
 clear he ho
 refine WA.ret ?_
 obtain rfl:=Option.some.inj hF
 exact Zq (one (.bool v113)) [] kr kr kr kr (by decide) rfl rfl }
 {
 obtain ⟨y110,hy110,hF⟩:=bind_some hF
 rcases Bool.eq_false_or_eq_true y110 with hb111 | hb111
 {
 have hF:=Zi hF hb111
 obtain ⟨y112,hy112,hF⟩:=bind_some hF
 refine WA.reg [4] [] [(0,.callR [] (one (.bool y110))),(1,.bool true),(4,.callR [] (one (.bool y112)))] (env':=[(4,one (.bool (!y112)))]) (os':=[]) (O:=[Sim Tryz.prog GL0 26 [] [] (one (.bool y110)) [],([]:List Nat).Nodup,y110=true,Sim Tryz.prog GL0 31 [.val true (pvL (Zc v0)),one (.str v1)] [] (one (.bool y112)) [],([]:List Nat).Nodup]) kr (sound _ _) ⟨(ZaF k _ hy110),(by decide),hb111,(ZV k _ _ _ hy112),(by decide),trivial⟩ ?_
 exact ⟨(!y112),kr,kr,hF⟩ }
 {
 have hF:=Zh hF hb111
 refine WA.reg [4] [] [(0,.callR [] (one (.bool y110))),(1,.bool false)] (env':=[(4,one (.bool false))]) (os':=[]) (O:=[Sim Tryz.prog GL0 26 [] [] (one (.bool y110)) [],([]:List Nat).Nodup,y110=false]) kr (sound _ _) ⟨(ZaF k _ hy110),(by decide),hb111,trivial⟩ ?_
 exact ⟨false,kr,kr,hF⟩ } } }
 {
 have hF:=Zh hF hb109
 refine WA.skip ?_
 refine WA.join (fun s_=>∃(v121:Bool),Zj s_.env [4]=[(4,one (.bool v121))]∧Zj s_.os []=[]∧Zht v121=some r) ?_ ?_
 {
 rintro s_ ⟨v121,he,ho,hF⟩
 refine WA.keep _ _ he ho ?_
 clear he ho
 refine WA.ret ?_
 obtain rfl:=Option.some.inj hF
 exact Zq (one (.bool v121)) [] kr kr kr kr (by decide) rfl rfl }
 {
 obtain ⟨y114,hy114,hF⟩:=bind_some hF
 rcases Bool.eq_false_or_eq_true y114 with hb115 | hb115
 {
 have hF:=Zi hF hb115
 obtain ⟨y116,hy116,hF⟩:=bind_some hF
 obtain ⟨y117,hy117,hF⟩:=bind_some hF
 rcases Bool.eq_false_or_eq_true (y116 == y117) with hb118 | hb118
 {
 have hF:=Zi hF hb118
 obtain ⟨y119,hy119,hF⟩:=bind_some hF
 obtain ⟨y120,hy120,hF⟩:=bind_some hF
 refine WA.regD kr [4] [] [(0,.callR [] (one (.bool y114))),(1,.bool true),(3,.callR [] (one (.int .i64 y116))),(5,.callR [] (one (.int .i64 y117))),(8,.bool true),(11,.callR [] (one (.bool y119))),(14,.callR [] (one (.bool y120)))] (env':=[(4,one (.bool (y119 == y120)))]) (os':=[]) (O:=[Sim Tryz.prog GL0 26 [] [] (one (.bool y114)) [],([]:List Nat).Nodup,y114=true,Sim Tryz.prog GL0 32 [.val true (pvL (Zc v0))] [] (one (.int .i64 y116)) [],([]:List Nat).Nodup,Sim Tryz.prog GL0 20 [.val true (pvL (Zc v0))] [] (one (.int .i64 y117)) [],([]:List Nat).Nodup,(y116 == y117)=true,Sim Tryz.prog GL0 31 [.val true (pvL (Zc v0)),one (.str v1)] [] (one (.bool y119)) [],([]:List Nat).Nodup,Sim Tryz.prog GL0 23 [.val true (pvL (Zc v0)),one (.str v1)] [] (one (.bool y120)) [],([]:List Nat).Nodup]) kr kr (sound _ _) ⟨(ZaF k _ hy114),(by decide),hb115,(ZdK k _ _ hy116),(by decide),(ZgW k _ _ hy117),(by decide),hb118,(ZV k _ _ _ hy119),(by decide),(ZoT k _ _ _ hy120),(by decide),trivial⟩ ?_
 exact ⟨(y119 == y120),kr,kr,hF⟩ }
 {
 have hF:=Zh hF hb118
 refine WA.regD kr [4] [] [(0,.callR [] (one (.bool y114))),(1,.bool true),(3,.callR [] (one (.int .i64 y116))),(5,.callR [] (one (.int .i64 y117))),(8,.bool false),(11,.callR [] (.tup [])),(14,.callR [] (.tup []))] (env':=[(4,one (.bool false))]) (os':=[]) (O:=[Sim Tryz.prog GL0 26 [] [] (one (.bool y114)) [],([]:List Nat).Nodup,y114=true,Sim Tryz.prog GL0 32 [.val true (pvL (Zc v0))] [] (one (.int .i64 y116)) [],([]:List Nat).Nodup,Sim Tryz.prog GL0 20 [.val true (pvL (Zc v0))] [] (one (.int .i64 y117)) [],([]:List Nat).Nodup,(y116 == y117)=false]) kr kr (sound _ _) ⟨(ZaF k _ hy114),(by decide),hb115,(ZdK k _ _ hy116),(by decide),(ZgW k _ _ hy117),(by decide),hb118,trivial⟩ ?_
 exact ⟨false,kr,kr,hF⟩ } }
 {
 have hF:=Zh hF hb115
 refine WA.regD kr [4] [] [(0,.callR [] (one (.bool y114))),(1,.bool false),(3,.callR [] (.tup [])),(5,.callR [] (.tup [])),(11,.callR [] (.tup [])),(14,.callR [] (.tup []))] (env':=[(4,one (.bool false))]) (os':=[]) (O:=[Sim Tryz.prog GL0 26 [] [] (one (.bool y114)) [],([]:List Nat).Nodup,y114=false]) kr kr (sound _ _) ⟨(ZaF k _ hy114),(by decide),hb115,trivial⟩ ?_
 exact ⟨false,kr,kr,hF⟩ } } } } } }
 {
 obtain ⟨y101,hy101,hF⟩:=bind_some hF
 rcases Bool.eq_false_or_eq_true (!y101) with hb102 | hb102
 {
 have hF:=Zi hF hb102
 refine WA.reg [1,2,13] [102] [(1,.callR [] (one (.bool y101))),(3,.bool true)] (env':=[(1,one (.str v1)),(2,.val false [.ptr 102 1 0 0]),(13,one (.bool true))]) (os':=[(102,.box (pvL (Zc v0)))]) (O:=[Sim Tryz.prog GL0 21 [.val true (pvL (Zc v0))] [] (one (.bool y101)) [],([]:List Nat).Nodup,(!y101)=true]) kr (sound _ _) ⟨(Zl5 k _ _ hy101),(by decide),hb102,trivial⟩ ?_
 exact ⟨true,kr,kr,hF⟩ }
 {
 have hF:=Zh hF hb102
 refine WA.reg [1,2,13] [102] [(1,.callR [] (one (.bool y101))),(3,.bool false)] (env':=[(1,one (.str v1)),(2,.val false [.ptr 102 1 0 0]),(13,one (.bool (decide ((v1.length:Int) > 60))))]) (os':=[(102,.box (pvL (Zc v0)))]) (O:=[Sim Tryz.prog GL0 21 [.val true (pvL (Zc v0))] [] (one (.bool y101)) [],([]:List Nat).Nodup,(!y101)=false]) kr (sound _ _) ⟨(Zl5 k _ _ hy101),(by decide),hb102,trivial⟩ ?_
 exact ⟨(decide ((v1.length:Int) > 60)),kr,kr,hF⟩ } }
end Go.Proofs.YthilboheomikjaaGreatDoor
end
section
namespace Go.Proofs.YthilboheomikjaaGreatDoor.Pure
open Go.AL Go.Lib
set_option maxRecDepth 100000
theorem ZiG {a b:Bool} {p:Prop} (ha:a=true↔p) (hb:b=true↔p):a=b:=by
  cases a <;> cases b <;> simp_all
theorem RexMatches (r:Ze) (s:List UInt8) (_:s.length≤140737488351232):∃k,F7 k r s=some true:=by
  refine ⟨4000,?_⟩
  obtain ⟨t,e1,p1⟩:=Zo4 (k:=4000) (by omega) r
  have told:F26 4000=some true:=by kernel_rfl
  have short:Zf8 4000 r s true=some true:=by unfold Zf8;rw [cond_true,told];rfl
  unfold F7
  rw [e1,Option.bind_some]
  cases t
  · exact short
  · rw [Bool.not_true,cond_false]
    have hf:=p1 rfl
    by_cases h60:(s.length:Int) > 60
    · rw [dt h60];exact short
    · rw [df h60]
      obtain ⟨m1,e2,p2⟩:=Zlp (k:=4000) (r:=r) (by omega) (by omega)
      obtain ⟨m2,e3,p3⟩:=Zmk (k:=4000) (r:=r) (by omega) (by omega)
      obtain ⟨b1,e4,p4⟩:=Zne (k:=4000) (r:=r) (s:=s) (by omega) (by omega) (by omega) (by omega)
      obtain ⟨b2,e5,p5⟩:=ZlS (k:=4000) (r:=r) (s:=s) (by omega) (by omega) (by omega) (by omega)
      obtain rfl:=ZiG p2 p3
      obtain rfl:=ZiG p4 p5
      unfold Zf8 Zjo Zht
      rw [cond_false,e2,Option.bind_some,e3,Option.bind_some]
      cases m1
      · obtain rfl:b1=false:=by
          cases b1
          · rfl
          · exact absurd (p2.2 (p4.1 rfl).1) (by simp)
        rw [told,e4];rfl
      · rw [told,Ziv 4000 r (by omega) (by omega),ZgQ 4000 r (by omega) (by omega),e4,e5]
        simp
end Go.Proofs.YthilboheomikjaaGreatDoor.Pure
end
