/- G10, G11, A24, A25, P9, Q4, Q5, Q6, G12, Q7, Q3, Q8, N1, N2, G2, N3, N4 -/
import Derived.Test.YthilboheomikjaaGreatDoorMRRexTexts3
set_option linter.unusedVariables false
set_option linter.unusedSimpArgs false
section
namespace Go.Proofs.YthilboheomikjaaGreatDoor
open Go.AL
set_option maxRecDepth 100000
def F105 (k:Nat) (v0:Zr) (v1:Zu):Option (Int×Zr):=
  (if v0.f_nodes.length+([v1]:List Zu).length≤1073741824 then ((some ((w64 (((v0.f_nodes ++ ([v1]:List Zu)).length:Int)-1)),({ v0 with f_nodes:=(v0.f_nodes ++ ([v1]:List Zu)) }:Zr)))) else none)
theorem Zhb (k:Nat) (v0:Zr) (v1:Zu) (r:Int×Zr) (c:F105 k v0 v1=some r):SM 105 [pt 0,tv (Zp v1)] [.box [.arr 1 v0.f_nodes.length,.pv (.int .i64 v0.f_first)],.arr 3 (v0.f_nodes.map Zp)] (oi r.1) [.box [.arr 1 r.2.f_nodes.length,.pv (.int .i64 r.2.f_first)],.arr 3 (r.2.f_nodes.map Zp)]:=by
 refine Zz [0,1] Tryz.func105 rfl kr kr ?_
 show WA _ _ 21 _ _ _
 refine Ws [(0,.obj 103)] [(0,pt 0),(3,pt 103)] [(0,.box [.arr 1 v0.f_nodes.length,.pv (.int .i64 v0.f_first)]),(1,.arr 3 (v0.f_nodes.map Zp)),(103,bx (Zp v1))] ?_
 refine WA.seq ?_
 obtain ⟨a,c⟩:=Zo c
 refine Wdm (((v0.f_nodes.length+1),((v0.f_nodes.map Zp) ++ (([v1]:List Zu).map Zp))):Nat×(List (List PV))) ((v0.f_nodes ++ ([v1]:List Zu)).length,((v0.f_nodes ++ ([v1]:List Zu)).map Zp)) (fun b=>([(0,pt 0)],[(0,.box [.arr 1 b.1,.pv (.int .i64 v0.f_first)]),(1,.arr 3 b.2)],[v0.f_nodes.length=(v0.f_nodes.map Zp).length,(v0.f_nodes.map Zp).length+(([v1]:List Zu).map Zp).length≤1073741824,∀es,es∈(([v1]:List Zu).map Zp)→es.length=3])) (ZH (by first | (simp only [zl,Zi];done) | (simp only [zl,Zi];omega) | omega) (by first | (simp only [zr,Zey,Zm];done) | (simp only [zq,ZbG];done) | (simp only [zq,ZbG,Zp,cond];done))) [] ⟨zt,(by first | exact a | (simp only [List.length_map,Zi];exact a)),(Zk5 ([v1]:List Zu)),trivial⟩ ?_
 refine WA.seq ?_
 refine Wm ((((v0.f_nodes ++ ([v1]:List Zu)).length):Nat):Int) ((v0.f_nodes ++ ([v1]:List Zu)).length:Int) (fun b=>([(4,oi (w64 (b-1)))],[(0,.box [.arr 1 ((v0.f_nodes ++ ([v1]:List Zu)).length),.pv (.int .i64 v0.f_first)]),(1,.arr 3 ((v0.f_nodes ++ ([v1]:List Zu)).map Zp))],[])) ((by first | (simp only [zl,Zi];done) | (simp only [zl,Zi];omega) | omega)) [] trivial ?_
 refine WA.ret ?_
 obtain rfl:=zj_ c
 exact Zq (oi (w64 (((v0.f_nodes ++ ([v1]:List Zu)).length:Int)-1))) [.box [.arr 1 ((v0.f_nodes ++ ([v1]:List Zu)).length),.pv (.int .i64 v0.f_first)],.arr 3 ((v0.f_nodes ++ ([v1]:List Zu)).map Zp)] kr kr kr kr nd rfl rfl
def Zfo (R78:Zr→Zd→Int→Option (Int×Zr)) (e:Zr→Int→Int→Option (Int×Zr)) (v1:Zd) (b:Zr) (c:Int) (a:Int):Option (Int×Zr):=
  (cond (decide (a≥0)) ((idxL v1.f_L a).bind fun f=>(R78 b f c).bind fun d=>(e d.2 d.1 (w64 (a-1)))) (((some (c,b)))))
def ZgB (R78:Zr→Zd→Int→Option (Int×Zr)) (v1:Zd):Nat→Zr→Int→Int→Option (Int×Zr)
  | 0,_,_,_=>none
  | d+1,a,b,c=>Zfo R78 (ZgB R78 v1 d) v1 a b c
def Zfp (R78:Zr→Zd→Int→Option (Int×Zr)) (k:Nat) (f:Zr→(List Int)→Int→Option (Int×Zr)) (v1:Zd) (h:Int) (d:Zr) (a:List Int) (b:Int):Option (Int×Zr):=
  (cond (decide (b<(v1.f_L.length:Int))) ((idxL v1.f_L b).bind fun g=>(R78 d g h).bind fun c=>if a.length+([c.1]:List Int).length≤1073741824 then (f c.2 (a ++ ([c.1]:List Int)) (w64 (b+1))) else none) ((F105 k d (⟨([]:List Zb),false,a,false⟩:Zu)).bind fun e=>(some (e.1,e.2))))
def ZgC (R78:Zr→Zd→Int→Option (Int×Zr)) (k:Nat) (v1:Zd) (d:Int):Nat→Zr→(List Int)→Int→Option (Int×Zr)
  | 0,_,_,_=>none
  | e+1,a,b,c=>Zfp R78 k (ZgC R78 k v1 d e) v1 d a b c
def Zfr (R78:Zr→Zd→Int→Option (Int×Zr)) (e:Zr→Int→Int→Option (Int×Zr)) (v1:Zd) (a:Zr) (b:Int) (c:Int):Option (Int×Zr):=
  (cond (decide (c<v1.f_Min)) ((idxL v1.f_L 0).bind fun f=>(R78 a f b).bind fun d=>(e d.2 d.1 (w64 (c+1)))) (((some (b,a)))))
def ZgE (R78:Zr→Zd→Int→Option (Int×Zr)) (v1:Zd):Nat→Zr→Int→Int→Option (Int×Zr)
  | 0,_,_,_=>none
  | d+1,a,b,c=>Zfr R78 (ZgE R78 v1 d) v1 a b c
def ZgA (R78:Zr→Zd→Int→Option (Int×Zr)) (k:Nat) (v1:Zd) (a:Zr) (b:Int):Option (Int×Zr):=
  (ZgE R78 v1 k a b 0)
def Zfq (R78:Zr→Zd→Int→Option (Int×Zr)) (k:Nat) (f:Zr→Int→Int→Option (Int×Zr)) (v1:Zd) (h:Int) (a:Zr) (b:Int) (c:Int):Option (Int×Zr):=
  (cond (decide (c<(w64 (v1.f_Max-v1.f_Min)))) ((idxL v1.f_L 0).bind fun g=>(R78 a g b).bind fun d=>(F105 k d.2 (⟨([]:List Zb),false,([h,d.1]:List Int),false⟩:Zu)).bind fun e=>(f e.2 e.1 (w64 (c+1)))) ((ZgA R78 k v1 a b)))
def ZgD (R78:Zr→Zd→Int→Option (Int×Zr)) (k:Nat) (v1:Zd) (d:Int):Nat→Zr→Int→Int→Option (Int×Zr)
  | 0,_,_,_=>none
  | e+1,a,b,c=>Zfq R78 k (ZgD R78 k v1 d e) v1 d a b c
def Zle (R78:Zr→Zd→Int→Option (Int×Zr)) (k:Nat) (v0:Zr) (v1:Zd) (d:Int):Option (Int×Zr):=
  (((cond (v1.f_Kind == 1) ((F105 k v0 (⟨v1.f_Set,true,([d]:List Int),false⟩:Zu)).bind fun e=>(some (e.1,e.2))) ((cond (v1.f_Kind == 2) ((ZgB R78 v1 k v0 d (w64 ((v1.f_L.length:Int)-1)))) ((cond (v1.f_Kind == 3) (((ZgC R78 k v1 d k v0 ([]:List Int) 0))) (((cond (decide (v1.f_Max<0)) ((F105 k v0 (⟨([]:List Zb),false,([d]:List Int),true⟩:Zu)).bind fun a=>(idxL v1.f_L 0).bind fun f=>(R78 a.2 f a.1).bind fun b=>(if (0:Int)≤a.1∧a.1<(b.2.f_nodes.length:Int) then (idxL b.2.f_nodes a.1).bind fun c=>if c.f_x=true then if c.f_next.length+([b.1]:List Int).length≤1073741824 then if (0:Int)≤a.1∧a.1<(b.2.f_nodes.length:Int) then (idxL b.2.f_nodes a.1).bind fun g=>((ZgA R78 k v1 ({ b.2 with f_nodes:=(b.2.f_nodes.set (Int.toNat a.1) ({ g with f_next:=(c.f_next ++ ([b.1]:List Int)),f_x:=false }:Zu)) }:Zr) a.1)) else none else none else none else none)) (((ZgD R78 k v1 d k v0 d 0)))))))))))))
theorem Zo1 (R78:Zr→Zd→Int→Option (Int×Zr)) (IH78:∀(v0:Zr) (v1:Zd) (h:Int) (r:Int×Zr),R78 v0 v1 h=some r→SM 78 [pt 0,tv (Zc v1),oi h] [.box [.arr 1 v0.f_nodes.length,.pv (.int .i64 v0.f_first)],.arr 3 (v0.f_nodes.map Zp)] (oi r.1) [.box [.arr 1 r.2.f_nodes.length,.pv (.int .i64 r.2.f_first)],.arr 3 (r.2.f_nodes.map Zp)]) (k:Nat) (v0:Zr) (v1:Zd) (h:Int) (r:Int×Zr) (a:Zle R78 k v0 v1 h=some r):SM 78 [pt 0,tv (Zc v1),oi h] [.box [.arr 1 v0.f_nodes.length,.pv (.int .i64 v0.f_first)],.arr 3 (v0.f_nodes.map Zp)] (oi r.1) [.box [.arr 1 r.2.f_nodes.length,.pv (.int .i64 r.2.f_first)],.arr 3 (r.2.f_nodes.map Zp)]:=by
 refine Zz [0,1] Tryz.func78 rfl kr kr ?_
 show WA _ _ 133 _ _ _
 refine Ws [(0,.obj 104)] [(0,pt 0),(2,oi h),(4,pt 104)] [(0,.box [.arr 1 v0.f_nodes.length,.pv (.int .i64 v0.f_first)]),(1,.arr 3 (v0.f_nodes.map Zp)),(104,bx (Zc v1))] ?_
 refine WA.seq ?_
 refine Ws [] [(0,pt 0),(2,oi h),(4,pt 104),(15,oi v1.f_Kind)] [(0,.box [.arr 1 v0.f_nodes.length,.pv (.int .i64 v0.f_first)]),(1,.arr 3 (v0.f_nodes.map Zp)),(104,bx (Zc v1))] ?_
 refine WA.block ?_
 refine Ws [] [(0,pt 0),(2,oi h),(4,pt 104),(15,oi v1.f_Kind),(16,ob (v1.f_Kind == 1))] [(0,.box [.arr 1 v0.f_nodes.length,.pv (.int .i64 v0.f_first)]),(1,.arr 3 (v0.f_nodes.map Zp)),(104,bx (Zc v1))] ?_
 refine WA.cond (b:=(v1.f_Kind == 1)) rfl (fun b1=>?_) (fun b1=>?_)
 {
 have a:=Zk a b1
 obtain ⟨t,d4,a⟩:=Zh a
 refine Wos [(6,.call [0,1] (oi t.1) [.box [.arr 1 t.2.f_nodes.length,.pv (.int .i64 t.2.f_first)],.arr 3 (t.2.f_nodes.map Zp)] [])] [(6,oi t.1)] [(0,.box [.arr 1 t.2.f_nodes.length,.pv (.int .i64 t.2.f_first)]),(1,.arr 3 (t.2.f_nodes.map Zp))] [SM 105 [pt 0,tv (Zp (⟨v1.f_Set,true,([h]:List Int),false⟩:Zu))] [.box [.arr 1 v0.f_nodes.length,.pv (.int .i64 v0.f_first)],.arr 3 (v0.f_nodes.map Zp)] (oi t.1) [.box [.arr 1 t.2.f_nodes.length,.pv (.int .i64 t.2.f_first)],.arr 3 (t.2.f_nodes.map Zp)],([0,1]:List Nat).Nodup] ⟨(Zhb k _ _ _ d4),nd,trivial⟩ ?_
 refine WA.ret ?_
 obtain rfl:=zj_ a
 exact Zq (oi t.1) [.box [.arr 1 t.2.f_nodes.length,.pv (.int .i64 t.2.f_first)],.arr 3 (t.2.f_nodes.map Zp)] kr kr kr kr nd rfl rfl }
 {
 have a:=Zj a b1
 refine Ws [] [(0,pt 0),(2,oi h),(4,pt 104),(15,oi v1.f_Kind),(25,ob (v1.f_Kind == 2))] [(0,.box [.arr 1 v0.f_nodes.length,.pv (.int .i64 v0.f_first)]),(1,.arr 3 (v0.f_nodes.map Zp)),(104,bx (Zc v1))] ?_
 refine WA.cond (b:=(v1.f_Kind == 2)) rfl (fun b2=>?_) (fun b2=>?_)
 {
 have a:=Zk a b2
 refine WA.seq ?_
 refine WA.seq ?_
 refine Wm ((Zm v1.f_L).length:Int) (v1.f_L.length:Int) (fun m_=>([(0,pt 0),(2,oi h),(4,pt 104),(7,oi (w64 (m_-1)))],[(0,.box [.arr 1 v0.f_nodes.length,.pv (.int .i64 v0.f_first)]),(1,.arr 3 (v0.f_nodes.map Zp)),(104,bx (Zc v1))],[])) ((by first | (simp only [zl,Zi];done) | (simp only [zl,Zi];omega) | omega)) [] trivial ?_
 refine WA.block ?_
 refine WA.loop (fun m s_=>∃(i:Zr) (a5:Int) (z:Int),J s_ [(0,pt 0),(2,oi a5),(4,pt 104),(7,oi z)] [(0,.box [.arr 1 i.f_nodes.length,.pv (.int .i64 i.f_first)]),(1,.arr 3 (i.f_nodes.map Zp)),(104,bx (Zc v1))]∧ZgB R78 v1 m i a5 z=some r) k ⟨v0,h,(w64 ((v1.f_L.length:Int)-1)),jk,a⟩ ?_
 clear a
 rintro m0 s_ ⟨i,a5,z,he,a⟩
 refine Wj he ?_
 clear he
 cases m0 with
 | zero=>cases a
 | succ m0=>
  obtain ⟨f0,c0⟩:∃g,g=ZgB R78 v1 m0:=⟨_,rfl⟩
  have a:Zfo R78 f0 v1 i a5 z=some r:=by first | (rw [c0];exact a) | exact a
  refine WA.seq ?_
  refine Ws [] [(0,pt 0),(2,oi a5),(4,pt 104),(7,oi z),(32,ob (decide (z≥0)))] [(0,.box [.arr 1 i.f_nodes.length,.pv (.int .i64 i.f_first)]),(1,.arr 3 (i.f_nodes.map Zp)),(104,bx (Zc v1))] ?_
  refine WA.cond (b:=(decide (z≥0))) rfl (fun b3=>?_) (fun b3=>?_)
  {
 have a:=Zk a b3
 refine WA.skip ?_
 refine WA.seq ?_
 refine WA.block ?_
 obtain ⟨c5,d5,a⟩:=Zh a
 obtain ⟨l,d6,a⟩:=Zh a
 refine Wo [(4,.cells (Zc c5)),(7,.call [0,1] (oi l.1) [.box [.arr 1 l.2.f_nodes.length,.pv (.int .i64 l.2.f_first)],.arr 3 (l.2.f_nodes.map Zp)] [])] [(0,pt 0),(2,oi l.1),(4,pt 104),(7,oi z)] [(0,.box [.arr 1 l.2.f_nodes.length,.pv (.int .i64 l.2.f_first)]),(1,.arr 3 (l.2.f_nodes.map Zp)),(104,bx (Zc v1))] [idxL (Zm v1.f_L) z=some (Zc c5),SM 78 [pt 0,tv (Zc c5),oi a5] [.box [.arr 1 i.f_nodes.length,.pv (.int .i64 i.f_first)],.arr 3 (i.f_nodes.map Zp)] (oi l.1) [.box [.arr 1 l.2.f_nodes.length,.pv (.int .i64 l.2.f_first)],.arr 3 (l.2.f_nodes.map Zp)],([0,1]:List Nat).Nodup] ⟨(ZR d5),(IH78 _ _ _ _ d6),nd,trivial⟩ ?_
 refine Wr [] [(0,pt 0),(2,oi l.1),(4,pt 104),(7,oi (w64 (z-1)))] [(0,.box [.arr 1 l.2.f_nodes.length,.pv (.int .i64 l.2.f_first)]),(1,.arr 3 (l.2.f_nodes.map Zp)),(104,bx (Zc v1))] ?_
 exact ⟨m0,zl_ _,l.2,l.1,(w64 (z-1)),jk,by rw [c0] at a;exact a⟩ }
  {
 have a:=Zj a b3
 refine WA.exit ?_
 refine Ws [] [(6,oi a5)] [(0,.box [.arr 1 i.f_nodes.length,.pv (.int .i64 i.f_first)]),(1,.arr 3 (i.f_nodes.map Zp))] ?_
 refine WA.ret ?_
 obtain rfl:=zj_ a
 exact Zq (oi a5) [.box [.arr 1 i.f_nodes.length,.pv (.int .i64 i.f_first)],.arr 3 (i.f_nodes.map Zp)] kr kr kr kr nd rfl rfl } }
 {
 have a:=Zj a b2
 refine Ws [] [(0,pt 0),(2,oi h),(4,pt 104),(44,ob (v1.f_Kind == 3))] [(0,.box [.arr 1 v0.f_nodes.length,.pv (.int .i64 v0.f_first)]),(1,.arr 3 (v0.f_nodes.map Zp)),(104,bx (Zc v1))] ?_
 refine WA.cond (b:=(v1.f_Kind == 3)) rfl (fun b4=>?_) (fun b4=>?_)
 {
 have a:=Zk a b4
 refine Ws [(0,.obj 108)] [(0,pt 0),(2,oi h),(4,pt 104),(8,ar 108 0)] [(0,.box [.arr 1 v0.f_nodes.length,.pv (.int .i64 v0.f_first)]),(1,.arr 3 (v0.f_nodes.map Zp)),(104,bx (Zc v1)),(108,.arr 1 (([]:List Int).map (eInt .i64)))] ?_
 refine WA.seq ?_
 refine WA.seq ?_
 refine Wm ((Zm v1.f_L).length:Int) (v1.f_L.length:Int) (fun m_=>([(0,pt 0),(2,oi h),(8,ar 108 0),(47,one (.sl (Zm v1.f_L))),(48,oi m_),(49,oi 0)],[(0,.box [.arr 1 v0.f_nodes.length,.pv (.int .i64 v0.f_first)]),(1,.arr 3 (v0.f_nodes.map Zp)),(108,.arr 1 (([]:List Int).map (eInt .i64)))],[])) ((by first | (simp only [zl,Zi];done) | (simp only [zl,Zi];omega) | omega)) [] trivial ?_
 refine WA.block ?_
 refine WA.loop (fun m s_=>∃(e:Zr) (q:List Int) (a0:Nat) (x:Int),J s_ [(0,pt 0),(2,oi h),(8,ar 108 a0),(47,one (.sl (Zm v1.f_L))),(48,oi (v1.f_L.length:Int)),(49,oi x)] [(0,.box [.arr 1 e.f_nodes.length,.pv (.int .i64 e.f_first)]),(1,.arr 3 (e.f_nodes.map Zp)),(108,.arr 1 (q.map (eInt .i64)))]∧a0=(q:List _).length∧ZgC R78 k v1 h m e q x=some r) k ⟨v0,([]:List Int),0,0,jk,zt,a⟩ ?_
 clear a
 rintro m1 s_ ⟨e,q,a0,x,he,f4,a⟩
 refine Wj he ?_
 clear he
 cases m1 with
 | zero=>cases a
 | succ m1=>
  obtain ⟨f1,c1⟩:∃g,g=ZgC R78 k v1 h m1:=⟨_,rfl⟩
  have a:Zfp R78 k f1 v1 h e q x=some r:=by first | (rw [c1];exact a) | exact a
  refine Ws [] [(0,pt 0),(2,oi h),(8,ar 108 a0),(47,one (.sl (Zm v1.f_L))),(48,oi (v1.f_L.length:Int)),(49,oi x),(50,ob (decide (x<(v1.f_L.length:Int))))] [(0,.box [.arr 1 e.f_nodes.length,.pv (.int .i64 e.f_first)]),(1,.arr 3 (e.f_nodes.map Zp)),(108,.arr 1 (q.map (eInt .i64)))] ?_
  refine WA.seq ?_
  refine WA.cond (b:=(decide (x<(v1.f_L.length:Int)))) rfl (fun b5=>?_) (fun b5=>?_)
  {
 have a:=Zk a b5
 refine WA.skip ?_
 refine WA.seq ?_
 refine WA.block ?_
 obtain ⟨b9,d7,a⟩:=Zh a
 refine Wos [(0,.cells (Zc b9)),(2,.obj 110)] [(0,pt 0),(2,oi h),(8,ar 108 a0),(10,pt 110),(47,one (.sl (Zm v1.f_L))),(48,oi (v1.f_L.length:Int)),(49,oi x)] [(0,.box [.arr 1 e.f_nodes.length,.pv (.int .i64 e.f_first)]),(1,.arr 3 (e.f_nodes.map Zp)),(108,.arr 1 (q.map (eInt .i64))),(110,bx (Zc b9))] [idxL (Zm v1.f_L) x=some (Zc b9)] ⟨(ZR d7),trivial⟩ ?_
 obtain ⟨f,d8,a⟩:=Zh a
 obtain ⟨c9,a⟩:=Zo a
 refine Wm (((q.map (eInt .i64)) ++ (([f.1]:List Int).map (eInt .i64))):(List (List PV))) ((q ++ ([f.1]:List Int)).map (eInt .i64)) (fun m_=>([(0,pt 0),(2,oi h),(8,ar 108 (a0+1)),(47,one (.sl (Zm v1.f_L))),(48,oi (v1.f_L.length:Int)),(49,oi x)],[(0,.box [.arr 1 f.2.f_nodes.length,.pv (.int .i64 f.2.f_first)]),(1,.arr 3 (f.2.f_nodes.map Zp)),(108,.arr 1 m_)],[SM 78 [pt 0,tv (Zc b9),oi h] [.box [.arr 1 e.f_nodes.length,.pv (.int .i64 e.f_first)],.arr 3 (e.f_nodes.map Zp)] (oi f.1) [.box [.arr 1 f.2.f_nodes.length,.pv (.int .i64 f.2.f_first)],.arr 3 (f.2.f_nodes.map Zp)],([0,1]:List Nat).Nodup,a0=(q.map (eInt .i64)).length,(q.map (eInt .i64)).length+(([f.1]:List Int).map (eInt .i64)).length≤1073741824,∀es,es∈(([f.1]:List Int).map (eInt .i64))→es.length=1])) ((by first | (simp only [zr,Zey,Zm];done) | (simp only [zq,ZbG];done) | (simp only [zq,ZbG,Zp,cond];done))) [(4,.call [0,1] (oi f.1) [.box [.arr 1 f.2.f_nodes.length,.pv (.int .i64 f.2.f_first)],.arr 3 (f.2.f_nodes.map Zp)] [])] ⟨(IH78 _ _ _ _ d8),nd,zt,(by first | exact c9 | (simp only [List.length_map,Zi];exact c9)),(ZcU _ _ _ (fun _=>rfl)),trivial⟩ ?_
 refine Wr [] [(0,pt 0),(2,oi h),(8,ar 108 (a0+1)),(47,one (.sl (Zm v1.f_L))),(48,oi (v1.f_L.length:Int)),(49,oi (w64 (x+1)))] [(0,.box [.arr 1 f.2.f_nodes.length,.pv (.int .i64 f.2.f_first)]),(1,.arr 3 (f.2.f_nodes.map Zp)),(108,.arr 1 ((q ++ ([f.1]:List Int)).map (eInt .i64)))] ?_
 exact ⟨m1,zl_ _,f.2,(q ++ ([f.1]:List Int)),(a0+1),(w64 (x+1)),jk,zt,by rw [c1] at a;exact a⟩ }
  {
 have a:=Zj a b5
 refine WA.exit ?_
 refine WA.seq ?_
 refine WA.freeze 108 8 (s:=1) (n:=a0) (els:=(q.map (eInt .i64))) rfl rfl zt ?_
 refine Wk [(0,pt 0),(8,one (.sl (q.map (eInt .i64))))] [(0,.box [.arr 1 e.f_nodes.length,.pv (.int .i64 e.f_first)]),(1,.arr 3 (e.f_nodes.map Zp))] ?_
 obtain ⟨u,d9,a⟩:=Zh a
 refine Wo [(3,.call [0,1] (oi u.1) [.box [.arr 1 u.2.f_nodes.length,.pv (.int .i64 u.2.f_first)],.arr 3 (u.2.f_nodes.map Zp)] [])] [(6,oi u.1)] [(0,.box [.arr 1 u.2.f_nodes.length,.pv (.int .i64 u.2.f_first)]),(1,.arr 3 (u.2.f_nodes.map Zp))] [SM 105 [pt 0,tv (Zp (⟨([]:List Zb),false,q,false⟩:Zu))] [.box [.arr 1 e.f_nodes.length,.pv (.int .i64 e.f_first)],.arr 3 (e.f_nodes.map Zp)] (oi u.1) [.box [.arr 1 u.2.f_nodes.length,.pv (.int .i64 u.2.f_first)],.arr 3 (u.2.f_nodes.map Zp)],([0,1]:List Nat).Nodup] ⟨(Zhb k _ _ _ d9),nd,trivial⟩ ?_
 refine WA.ret ?_
 obtain rfl:=zj_ a
 exact Zq (oi u.1) [.box [.arr 1 u.2.f_nodes.length,.pv (.int .i64 u.2.f_first)],.arr 3 (u.2.f_nodes.map Zp)] kr kr kr kr nd rfl rfl } }
 {
 have a:=Zj a b4
 refine WA.skip ?_
 refine WA.join (fun s_=>∃(a3:Zr) (b0:Int),J s_ [(0,pt 0),(2,oi b0),(4,pt 104)] [(0,.box [.arr 1 a3.f_nodes.length,.pv (.int .i64 a3.f_first)]),(1,.arr 3 (a3.f_nodes.map Zp)),(104,bx (Zc v1))]∧ZgA R78 k v1 a3 b0=some r) ?_ ?_
 {
 rintro s_ ⟨a3,b0,he,a⟩
 refine Wj he ?_
 clear he
 refine WA.seq ?_
 refine Ws [] [(0,pt 0),(2,oi b0),(4,pt 104),(121,oi v1.f_Min),(122,oi 0)] [(0,.box [.arr 1 a3.f_nodes.length,.pv (.int .i64 a3.f_first)]),(1,.arr 3 (a3.f_nodes.map Zp)),(104,bx (Zc v1))] ?_
 refine WA.block ?_
 refine WA.loop (fun m s_=>∃(j:Zr) (a6:Int) (a2:Int),J s_ [(0,pt 0),(2,oi a6),(4,pt 104),(121,oi v1.f_Min),(122,oi a2)] [(0,.box [.arr 1 j.f_nodes.length,.pv (.int .i64 j.f_first)]),(1,.arr 3 (j.f_nodes.map Zp)),(104,bx (Zc v1))]∧ZgE R78 v1 m j a6 a2=some r) k ⟨a3,b0,0,jk,a⟩ ?_
 clear a
 rintro m4 s_ ⟨j,a6,a2,he,a⟩
 refine Wj he ?_
 clear he
 cases m4 with
 | zero=>cases a
 | succ m4=>
  obtain ⟨f3,c3⟩:∃g,g=ZgE R78 v1 m4:=⟨_,rfl⟩
  have a:Zfr R78 f3 v1 j a6 a2=some r:=by first | (rw [c3];exact a) | exact a
  refine Ws [] [(0,pt 0),(2,oi a6),(4,pt 104),(121,oi v1.f_Min),(122,oi a2),(123,ob (decide (a2<v1.f_Min)))] [(0,.box [.arr 1 j.f_nodes.length,.pv (.int .i64 j.f_first)]),(1,.arr 3 (j.f_nodes.map Zp)),(104,bx (Zc v1))] ?_
  refine WA.seq ?_
  refine WA.cond (b:=(decide (a2<v1.f_Min))) rfl (fun b8=>?_) (fun b8=>?_)
  {
 have a:=Zk a b8
 refine WA.skip ?_
 refine WA.seq ?_
 refine WA.block ?_
 obtain ⟨c8,e8,a⟩:=Zh a
 obtain ⟨p,e9,a⟩:=Zh a
 refine Wo [(3,.cells (Zc c8)),(6,.call [0,1] (oi p.1) [.box [.arr 1 p.2.f_nodes.length,.pv (.int .i64 p.2.f_first)],.arr 3 (p.2.f_nodes.map Zp)] [])] [(0,pt 0),(2,oi p.1),(4,pt 104),(121,oi v1.f_Min),(122,oi a2)] [(0,.box [.arr 1 p.2.f_nodes.length,.pv (.int .i64 p.2.f_first)]),(1,.arr 3 (p.2.f_nodes.map Zp)),(104,bx (Zc v1))] [idxL (Zm v1.f_L) 0=some (Zc c8),SM 78 [pt 0,tv (Zc c8),oi a6] [.box [.arr 1 j.f_nodes.length,.pv (.int .i64 j.f_first)],.arr 3 (j.f_nodes.map Zp)] (oi p.1) [.box [.arr 1 p.2.f_nodes.length,.pv (.int .i64 p.2.f_first)],.arr 3 (p.2.f_nodes.map Zp)],([0,1]:List Nat).Nodup] ⟨(ZR e8),(IH78 _ _ _ _ e9),nd,trivial⟩ ?_
 refine Wr [] [(0,pt 0),(2,oi p.1),(4,pt 104),(121,oi v1.f_Min),(122,oi (w64 (a2+1)))] [(0,.box [.arr 1 p.2.f_nodes.length,.pv (.int .i64 p.2.f_first)]),(1,.arr 3 (p.2.f_nodes.map Zp)),(104,bx (Zc v1))] ?_
 exact ⟨m4,zl_ _,p.2,p.1,(w64 (a2+1)),jk,by rw [c3] at a;exact a⟩ }
  {
 have a:=Zj a b8
 refine WA.exit ?_
 refine Ws [] [(6,oi a6)] [(0,.box [.arr 1 j.f_nodes.length,.pv (.int .i64 j.f_first)]),(1,.arr 3 (j.f_nodes.map Zp))] ?_
 refine WA.ret ?_
 obtain rfl:=zj_ a
 exact Zq (oi a6) [.box [.arr 1 j.f_nodes.length,.pv (.int .i64 j.f_first)],.arr 3 (j.f_nodes.map Zp)] kr kr kr kr nd rfl rfl } }
 {
 refine Ws [] [(0,pt 0),(2,oi h),(4,pt 104),(67,ob (decide (v1.f_Max<0)))] [(0,.box [.arr 1 v0.f_nodes.length,.pv (.int .i64 v0.f_first)]),(1,.arr 3 (v0.f_nodes.map Zp)),(104,bx (Zc v1))] ?_
 refine WA.cond (b:=(decide (v1.f_Max<0))) rfl (fun b6=>?_) (fun b6=>?_)
 {
 have a:=Zk a b6
 obtain ⟨d,e0,a⟩:=Zh a
 refine Wos [(2,.num 0),(4,.call [0,1] (oi d.1) [.box [.arr 1 d.2.f_nodes.length,.pv (.int .i64 d.2.f_first)],.arr 3 (d.2.f_nodes.map Zp)] [])] [(0,pt 0),(4,pt 104),(11,oi d.1)] [(0,.box [.arr 1 d.2.f_nodes.length,.pv (.int .i64 d.2.f_first)]),(1,.arr 3 (d.2.f_nodes.map Zp)),(104,bx (Zc v1))] [SM 105 [pt 0,tv (Zp (⟨([]:List Zb),false,([h]:List Int),true⟩:Zu))] [.box [.arr 1 v0.f_nodes.length,.pv (.int .i64 v0.f_first)],.arr 3 (v0.f_nodes.map Zp)] (oi d.1) [.box [.arr 1 d.2.f_nodes.length,.pv (.int .i64 d.2.f_first)],.arr 3 (d.2.f_nodes.map Zp)],([0,1]:List Nat).Nodup] ⟨(Zhb k _ _ _ e0),nd,trivial⟩ ?_
 obtain ⟨c6,e1,a⟩:=Zh a
 obtain ⟨c,e2,a⟩:=Zh a
 refine Wos [(3,.cells (Zc c6)),(6,.call [0,1] (oi c.1) [.box [.arr 1 c.2.f_nodes.length,.pv (.int .i64 c.2.f_first)],.arr 3 (c.2.f_nodes.map Zp)] [])] [(0,pt 0),(4,pt 104),(11,oi d.1),(12,oi c.1)] [(0,.box [.arr 1 c.2.f_nodes.length,.pv (.int .i64 c.2.f_first)]),(1,.arr 3 (c.2.f_nodes.map Zp)),(104,bx (Zc v1))] [idxL (Zm v1.f_L) 0=some (Zc c6),SM 78 [pt 0,tv (Zc c6),oi d.1] [.box [.arr 1 d.2.f_nodes.length,.pv (.int .i64 d.2.f_first)],.arr 3 (d.2.f_nodes.map Zp)] (oi c.1) [.box [.arr 1 c.2.f_nodes.length,.pv (.int .i64 c.2.f_first)],.arr 3 (c.2.f_nodes.map Zp)],([0,1]:List Nat).Nodup] ⟨(ZR e1),(IH78 _ _ _ _ e2),nd,trivial⟩ ?_
 refine WA.seq ?_
 obtain ⟨d0,a⟩:=Zo a
 obtain ⟨v,e3,a⟩:=Zh a
 obtain ⟨d3,a⟩:=Zo a
 obtain ⟨d1,a⟩:=Zo a
 obtain ⟨d2,a⟩:=Zo a
 obtain ⟨a4,e4,a⟩:=Zh a
 have z0:d.1<((c.2.f_nodes.length:Nat):Int):=(by have h_:=d0.2;(try simp only [zl,Zi] at h_ ⊢);omega)
 refine Wdm ((c.2.f_nodes.length,((c.2.f_nodes.map Zp).set (Int.toNat d.1) [.sl (a4.f_set.map Za),.bool a4.f_some,.sl ((v.f_next.map (eInt .i64)) ++ (([c.1]:List Int).map (eInt .i64)))])):Nat×(List (List PV))) ((c.2.f_nodes.set (Int.toNat d.1) ({ a4 with f_next:=(v.f_next ++ ([c.1]:List Int)),f_x:=false }:Zu)).length,((c.2.f_nodes.set (Int.toNat d.1) ({ a4 with f_next:=(v.f_next ++ ([c.1]:List Int)),f_x:=false }:Zu)).map Zp)) (fun m_=>([(0,pt 0),(4,pt 104),(11,oi d.1)],[(0,.box [.arr 1 m_.1,.pv (.int .i64 c.2.f_first)]),(1,.arr 3 m_.2),(104,bx (Zc v1))],[c.2.f_nodes.length=(c.2.f_nodes.map Zp).length,(0:Int)≤d.1,d.1<((c.2.f_nodes.length:Nat):Int),c.2.f_nodes.length=(c.2.f_nodes.map Zp).length,0<c.2.f_nodes.length,c.2.f_nodes.length=(c.2.f_nodes.map Zp).length,(c.2.f_nodes.map Zp)[Int.toNat d.1]?=some [.sl (v.f_set.map Za),.bool v.f_some,.slc (v.f_next.map (eInt .i64))],(v.f_next.map (eInt .i64)).length+(([c.1]:List Int).map (eInt .i64)).length≤1073741824,∀es,es∈(v.f_next.map (eInt .i64))→es.length=1,∀es,es∈(([c.1]:List Int).map (eInt .i64))→es.length=1,c.2.f_nodes.length=(c.2.f_nodes.map Zp).length,(0:Int)≤d.1,d.1<((c.2.f_nodes.length:Nat):Int),c.2.f_nodes.length=(c.2.f_nodes.map Zp).length,0<c.2.f_nodes.length,c.2.f_nodes.length=(c.2.f_nodes.map Zp).length,(c.2.f_nodes.map Zp)[Int.toNat d.1]?=some (Zp a4)])) (ZH (by first | (simp only [zl,Zi];done) | (simp only [zl,Zi];omega) | omega) (by first | (simp only [zr,Zey,Zm];done) | (simp only [zq,ZbG];done) | (simp only [zq,ZbG,Zp,cond];done))) [(12,.cells [.sl (v.f_set.map Za),.bool v.f_some,.slc (v.f_next.map (eInt .i64))]),(18,.cells (Zp a4))] ⟨zt,d0.1,z0,zt,(by omega),zt,(by have h_:=Zs (Zt Zp e3);simp only [Zp,d3,cond] at h_;exact h_),(by first | exact d1 | (simp only [List.length_map,Zi];exact d1)),(ZcU _ _ _ (fun _=>rfl)),(ZcU _ _ _ (fun _=>rfl)),zt,d2.1,z0,zt,(by omega),zt,(Zs (Zt _ e4)),trivial⟩ ?_
 refine Wr [] [(0,pt 0),(2,oi d.1),(4,pt 104)] [(0,.box [.arr 1 ((c.2.f_nodes.set (Int.toNat d.1) ({ a4 with f_next:=(v.f_next ++ ([c.1]:List Int)),f_x:=false }:Zu)).length),.pv (.int .i64 c.2.f_first)]),(1,.arr 3 ((c.2.f_nodes.set (Int.toNat d.1) ({ a4 with f_next:=(v.f_next ++ ([c.1]:List Int)),f_x:=false }:Zu)).map Zp)),(104,bx (Zc v1))] ?_
 exact ⟨({ c.2 with f_nodes:=(c.2.f_nodes.set (Int.toNat d.1) ({ a4 with f_next:=(v.f_next ++ ([c.1]:List Int)),f_x:=false }:Zu)) }:Zr),d.1,jk,a⟩ }
 {
 have a:=Zj a b6
 refine Ws [] [(0,pt 0),(2,oi h),(4,pt 104),(13,oi h)] [(0,.box [.arr 1 v0.f_nodes.length,.pv (.int .i64 v0.f_first)]),(1,.arr 3 (v0.f_nodes.map Zp)),(104,bx (Zc v1))] ?_
 refine Ws [] [(0,pt 0),(2,oi h),(4,pt 104),(13,oi h),(104,oi (w64 (v1.f_Max-v1.f_Min))),(105,oi 0)] [(0,.box [.arr 1 v0.f_nodes.length,.pv (.int .i64 v0.f_first)]),(1,.arr 3 (v0.f_nodes.map Zp)),(104,bx (Zc v1))] ?_
 refine WA.block ?_
 refine WA.loop (fun m s_=>∃(w:Zr) (a7:Int) (a1:Int),J s_ [(0,pt 0),(2,oi a7),(4,pt 104),(13,oi h),(104,oi (w64 (v1.f_Max-v1.f_Min))),(105,oi a1)] [(0,.box [.arr 1 w.f_nodes.length,.pv (.int .i64 w.f_first)]),(1,.arr 3 (w.f_nodes.map Zp)),(104,bx (Zc v1))]∧ZgD R78 k v1 h m w a7 a1=some r) k ⟨v0,h,0,jk,a⟩ ?_
 clear a
 rintro m2 s_ ⟨w,a7,a1,he,a⟩
 refine Wj he ?_
 clear he
 cases m2 with
 | zero=>cases a
 | succ m2=>
  obtain ⟨f2,c2⟩:∃g,g=ZgD R78 k v1 h m2:=⟨_,rfl⟩
  have a:Zfq R78 k f2 v1 h w a7 a1=some r:=by first | (rw [c2];exact a) | exact a
  refine Ws [] [(0,pt 0),(2,oi a7),(4,pt 104),(13,oi h),(104,oi (w64 (v1.f_Max-v1.f_Min))),(105,oi a1),(106,ob (decide (a1<(w64 (v1.f_Max-v1.f_Min)))))] [(0,.box [.arr 1 w.f_nodes.length,.pv (.int .i64 w.f_first)]),(1,.arr 3 (w.f_nodes.map Zp)),(104,bx (Zc v1))] ?_
  refine WA.seq ?_
  refine WA.cond (b:=(decide (a1<(w64 (v1.f_Max-v1.f_Min))))) rfl (fun b7=>?_) (fun b7=>?_)
  {
 have a:=Zk a b7
 refine WA.skip ?_
 refine WA.seq ?_
 refine WA.block ?_
 obtain ⟨c7,e5,a⟩:=Zh a
 obtain ⟨y,e6,a⟩:=Zh a
 obtain ⟨o,e7,a⟩:=Zh a
 refine Wo [(5,.cells (Zc c7)),(8,.call [0,1] (oi y.1) [.box [.arr 1 y.2.f_nodes.length,.pv (.int .i64 y.2.f_first)],.arr 3 (y.2.f_nodes.map Zp)] []),(11,.call [0,1] (oi o.1) [.box [.arr 1 o.2.f_nodes.length,.pv (.int .i64 o.2.f_first)],.arr 3 (o.2.f_nodes.map Zp)] [])] [(0,pt 0),(2,oi o.1),(4,pt 104),(13,oi h),(104,oi (w64 (v1.f_Max-v1.f_Min))),(105,oi a1)] [(0,.box [.arr 1 o.2.f_nodes.length,.pv (.int .i64 o.2.f_first)]),(1,.arr 3 (o.2.f_nodes.map Zp)),(104,bx (Zc v1))] [idxL (Zm v1.f_L) 0=some (Zc c7),SM 78 [pt 0,tv (Zc c7),oi a7] [.box [.arr 1 w.f_nodes.length,.pv (.int .i64 w.f_first)],.arr 3 (w.f_nodes.map Zp)] (oi y.1) [.box [.arr 1 y.2.f_nodes.length,.pv (.int .i64 y.2.f_first)],.arr 3 (y.2.f_nodes.map Zp)],([0,1]:List Nat).Nodup,SM 105 [pt 0,tv (Zp (⟨([]:List Zb),false,([h,y.1]:List Int),false⟩:Zu))] [.box [.arr 1 y.2.f_nodes.length,.pv (.int .i64 y.2.f_first)],.arr 3 (y.2.f_nodes.map Zp)] (oi o.1) [.box [.arr 1 o.2.f_nodes.length,.pv (.int .i64 o.2.f_first)],.arr 3 (o.2.f_nodes.map Zp)],([0,1]:List Nat).Nodup] ⟨(ZR e5),(IH78 _ _ _ _ e6),nd,(Zhb k _ _ _ e7),nd,trivial⟩ ?_
 refine Wr [] [(0,pt 0),(2,oi o.1),(4,pt 104),(13,oi h),(104,oi (w64 (v1.f_Max-v1.f_Min))),(105,oi (w64 (a1+1)))] [(0,.box [.arr 1 o.2.f_nodes.length,.pv (.int .i64 o.2.f_first)]),(1,.arr 3 (o.2.f_nodes.map Zp)),(104,bx (Zc v1))] ?_
 exact ⟨m2,zl_ _,o.2,o.1,(w64 (a1+1)),jk,by rw [c2] at a;exact a⟩ }
  {
 have a:=Zj a b7
 refine WA.exit ?_
 exact ⟨w,a7,jk,a⟩ } } } } } }
def F78:Nat→Zr→Zd→Int→Option (Int×Zr)
  | 0,_,_,_=>none
  | k+1,v0,v1,a=>Zle (F78 k) k v0 v1 a
theorem Zn7:∀(k:Nat),∀(v0:Zr) (v1:Zd) (a:Int) (r:Int×Zr),F78 k v0 v1 a=some r→SM 78 [pt 0,tv (Zc v1),oi a] [.box [.arr 1 v0.f_nodes.length,.pv (.int .i64 v0.f_first)],.arr 3 (v0.f_nodes.map Zp)] (oi r.1) [.box [.arr 1 r.2.f_nodes.length,.pv (.int .i64 r.2.f_first)],.arr 3 (r.2.f_nodes.map Zp)]
  | 0=>fun _ _ _ _ b=>by cases b
  | k+1=>fun v0 v1 a r b=>Zo1 (F78 k) (Zn7 k) k v0 v1 a r b
end Go.Proofs.YthilboheomikjaaGreatDoor
end
section
namespace Go.Proofs.YthilboheomikjaaGreatDoor
open Go.AL
set_option maxRecDepth 100000
def Zfs (R79:Zr→(List Int)→(List Bool)→Int→Option ((List Int)×(List Bool))) (f:(List Int)→(List Bool)→Int→Option ((List Int)×(List Bool))) (v0:Zr) (e:Zu) (d:List Int) (a:List Bool) (b:Int):Option ((List Int)×(List Bool)):=
  (cond (decide (b<(e.f_next.length:Int))) ((idxL e.f_next b).bind fun g=>(R79 v0 d a g).bind fun c=>if c.2.length=a.length then (f c.1 c.2 (w64 (b+1))) else none) (((some (d,a)))))
def Zd5 (R79:Zr→(List Int)→(List Bool)→Int→Option ((List Int)×(List Bool))) (v0:Zr) (a:Zu):Nat→(List Int)→(List Bool)→Int→Option ((List Int)×(List Bool))
  | 0,_,_,_=>none
  | e+1,b,c,d=>Zfs R79 (Zd5 R79 v0 a e) v0 a b c d
def Zi3 (R79:Zr→(List Int)→(List Bool)→Int→Option ((List Int)×(List Bool))) (k:Nat) (v0:Zr) (v1:List Int) (d:List Bool) (a:Int) (c:Zu) (b:Bool):Option ((List Int)×(List Bool)):=
  cond b ((Zd5 R79 v0 c k v1 (d.set (Int.toNat a) true) 0)) ((if v1.length+([a]:List Int).length≤1073741824 then (some ((v1 ++ ([a]:List Int)),(d.set (Int.toNat a) true))) else none))
def Zlf (R79:Zr→(List Int)→(List Bool)→Int→Option ((List Int)×(List Bool))) (k:Nat) (v0:Zr) (v1:List Int) (b:List Bool) (a:Int):Option ((List Int)×(List Bool)):=
  (if (0:Int)≤a∧a<(b.length:Int) then (idxL b a).bind fun d=>(cond d ((some (v1,b))) ((if (0:Int)≤a∧a<(b.length:Int) then (idxL b a).bind fun e=>(idxL v0.f_nodes a).bind fun c=>(cond (!c.f_some) ((Zi3 R79 k v0 v1 b a c (a != 0))) ((Zi3 R79 k v0 v1 b a c false))) else none))) else none)
theorem Zo2 (R79:Zr→(List Int)→(List Bool)→Int→Option ((List Int)×(List Bool))) (IH79:∀(v0:Zr) (v1:List Int) (f:List Bool) (d:Int) (r:(List Int)×(List Bool)),R79 v0 v1 f d=some r→∀{n1:Nat},n1=v1.length→∀{n2:Nat},n2=f.length→SM 79 [.val false [.vp (Zw v0)],ar 0 n1,ar 1 n2,oi d] [.arr 1 (v1.map (eInt .i64)),.arr 1 (f.map Zn)] (ar 0 r.1.length) [.arr 1 (r.1.map (eInt .i64)),.arr 1 (r.2.map Zn)]) (k:Nat) (v0:Zr) (v1:List Int) (f:List Bool) (d:Int) (r:(List Int)×(List Bool)) (c:Zlf R79 k v0 v1 f d=some r) {n1:Nat} (hn_n1:n1=v1.length) {n2:Nat} (hn_n2:n2=f.length):SM 79 [.val false [.vp (Zw v0)],ar 0 n1,ar 1 n2,oi d] [.arr 1 (v1.map (eInt .i64)),.arr 1 (f.map Zn)] (ar 0 r.1.length) [.arr 1 (r.1.map (eInt .i64)),.arr 1 (r.2.map Zn)]:=by
 refine Zz [0,1] Tryz.func79 rfl kr kr ?_
 show WA _ _ 52 _ _ _
 refine Ws [] [(0,.val false [.vp (Zw v0)]),(1,ar 0 n1),(2,ar 1 n2),(3,oi d)] [(0,.arr 1 (v1.map (eInt .i64))),(1,.arr 1 (f.map Zn))] ?_
 refine WA.seq ?_
 obtain ⟨x,c⟩:=Zo c
 obtain ⟨u,a4,c⟩:=Zh c
 refine Wos [(3,.cells [.bool u])] [(0,.val false [.vp (Zw v0)]),(1,ar 0 n1),(2,ar 1 n2),(3,oi d),(15,ob u)] [(0,.arr 1 (v1.map (eInt .i64))),(1,.arr 1 (f.map Zn))] [n2=(f.map Zn).length,(0:Int)≤d,d<((n2:Nat):Int),n2=(f.map Zn).length,(f.map Zn)[Int.toNat d]?=some [.bool u]] ⟨zt,x.1,(by have h_:=x.2;(try simp only [zl,Zi] at h_ ⊢);omega),zt,(Zs (Zt _ a4)),trivial⟩ ?_
 refine WA.cond (b:=u) rfl (fun p=>?_) (fun p=>?_)
 {
 have c:=Zk c p
 refine Ws [] [(8,ar 0 n1)] [(0,.arr 1 (v1.map (eInt .i64))),(1,.arr 1 (f.map Zn))] ?_
 refine WA.ret ?_
 obtain rfl:=zj_ c
 exact Zq (ar 0 n1) [.arr 1 (v1.map (eInt .i64)),.arr 1 (f.map Zn)] kr (by have h0_:n1=(v1:List _).length:=zt;rw [h0_] <;> rfl) kr kr nd rfl rfl }
 {
 have c:=Zj c p
 refine WA.skip ?_
 refine WA.seq ?_
 obtain ⟨y,c⟩:=Zo c
 obtain ⟨a3,a5,c⟩:=Zh c
 refine Wm (((f.map Zn).set (Int.toNat d) (Zn true)):(List (List PV))) ((f.set (Int.toNat d) true).map Zn) (fun m_=>([(0,.val false [.vp (Zw v0)]),(1,ar 0 n1),(2,ar 1 n2),(3,oi d)],[(0,.arr 1 (v1.map (eInt .i64))),(1,.arr 1 m_)],[n2=(f.map Zn).length,(0:Int)≤d,d<((n2:Nat):Int),n2=(f.map Zn).length,(f.map Zn)[Int.toNat d]?=some [.bool a3]])) (zm) [(3,.cells [.bool a3])] ⟨zt,y.1,(by have h_:=y.2;(try simp only [zl,Zi] at h_ ⊢);omega),zt,(Zs (Zt _ a5)),trivial⟩ ?_
 refine WA.seq ?_
 obtain ⟨a,a6,c⟩:=Zh c
 refine Wos [(5,.cells (ZK a)),(7,.obj 109)] [(0,.val false [.vp (Zw v0)]),(1,ar 0 n1),(2,ar 1 n2),(3,oi d),(9,pt 109)] [(0,.arr 1 (v1.map (eInt .i64))),(1,.arr 1 ((f.set (Int.toNat d) true).map Zn)),(109,bx (ZK a))] [idxL (v0.f_nodes.map ZK) d=some (ZK a)] ⟨(Zt _ a6),trivial⟩ ?_
 refine WA.join (fun s_=>∃(t:Bool),J s_ [(0,.val false [.vp (Zw v0)]),(1,ar 0 n1),(2,ar 1 n2),(3,oi d),(9,pt 109),(33,ob t)] [(0,.arr 1 (v1.map (eInt .i64))),(1,.arr 1 ((f.set (Int.toNat d) true).map Zn)),(109,bx (ZK a))]∧Zi3 R79 k v0 v1 f d a t=some r) ?_ ?_
 {
 rintro s_ ⟨t,he,c⟩
 refine Wj he ?_
 clear he
 refine WA.cond (b:=t) rfl (fun q=>?_) (fun q=>?_)
 {
 have c:=Zk c q
 refine WA.seq ?_
 refine WA.seq ?_
 refine Wm ((a.f_next.map (eInt .i64)).length:Int) (a.f_next.length:Int) (fun m_=>([(0,.val false [.vp (Zw v0)]),(1,ar 0 n1),(2,ar 1 n2),(35,one (.sl (a.f_next.map (eInt .i64)))),(36,oi m_),(37,oi 0)],[(0,.arr 1 (v1.map (eInt .i64))),(1,.arr 1 ((f.set (Int.toNat d) true).map Zn))],[])) ((by first | (simp only [zl,Zi];done) | (simp only [zl,Zi];omega) | omega)) [] trivial ?_
 refine WA.block ?_
 refine WA.loop (fun m s_=>∃(i:List Int) (j:List Bool) (l:Nat) (n:Nat) (h:Int),J s_ [(0,.val false [.vp (Zw v0)]),(1,ar 0 l),(2,ar 1 n),(35,one (.sl (a.f_next.map (eInt .i64)))),(36,oi (a.f_next.length:Int)),(37,oi h)] [(0,.arr 1 (i.map (eInt .i64))),(1,.arr 1 (j.map Zn))]∧l=(i:List _).length∧n=(j:List _).length∧Zd5 R79 v0 a m i j h=some r) k ⟨v1,(f.set (Int.toNat d) true),n1,n2,0,jk,zt,zt,c⟩ ?_
 clear c
 rintro m1 s_ ⟨i,j,l,n,h,he,b0,b1,c⟩
 refine Wj he ?_
 clear he
 cases m1 with
 | zero=>cases c
 | succ m1=>
  obtain ⟨a9,w⟩:∃g,g=Zd5 R79 v0 a m1:=⟨_,rfl⟩
  have c:Zfs R79 a9 v0 a i j h=some r:=by first | (rw [w];exact c) | exact c
  refine Ws [] [(0,.val false [.vp (Zw v0)]),(1,ar 0 l),(2,ar 1 n),(35,one (.sl (a.f_next.map (eInt .i64)))),(36,oi (a.f_next.length:Int)),(37,oi h),(38,ob (decide (h<(a.f_next.length:Int))))] [(0,.arr 1 (i.map (eInt .i64))),(1,.arr 1 (j.map Zn))] ?_
  refine WA.seq ?_
  refine WA.cond (b:=(decide (h<(a.f_next.length:Int)))) rfl (fun s=>?_) (fun s=>?_)
  {
 have c:=Zk c s
 refine WA.skip ?_
 refine WA.seq ?_
 refine WA.block ?_
 obtain ⟨v,a7,c⟩:=Zh c
 refine Wos [(0,.cells [.int .i64 v])] [(0,.val false [.vp (Zw v0)]),(1,ar 0 l),(2,ar 1 n),(11,oi v),(35,one (.sl (a.f_next.map (eInt .i64)))),(36,oi (a.f_next.length:Int)),(37,oi h)] [(0,.arr 1 (i.map (eInt .i64))),(1,.arr 1 (j.map Zn))] [idxL (a.f_next.map (eInt .i64)) h=some [.int .i64 v]] ⟨(Zt _ a7),trivial⟩ ?_
 obtain ⟨e,a8,c⟩:=Zh c
 obtain ⟨b2,c⟩:=Zo c
 refine Wo [(4,.call [0,1] (ar 0 e.1.length) [.arr 1 (e.1.map (eInt .i64)),.arr 1 (e.2.map Zn)] [])] [(0,.val false [.vp (Zw v0)]),(1,ar 0 e.1.length),(2,ar 1 n),(35,one (.sl (a.f_next.map (eInt .i64)))),(36,oi (a.f_next.length:Int)),(37,oi h)] [(0,.arr 1 (e.1.map (eInt .i64))),(1,.arr 1 (e.2.map Zn))] [SM 79 [.val false [.vp (Zw v0)],ar 0 l,ar 1 n,oi v] [.arr 1 (i.map (eInt .i64)),.arr 1 (j.map Zn)] (ar 0 e.1.length) [.arr 1 (e.1.map (eInt .i64)),.arr 1 (e.2.map Zn)],([0,1]:List Nat).Nodup] ⟨(IH79 _ _ _ _ _ a8 (n1:=l) zt (n2:=n) zt),nd,trivial⟩ ?_
 refine Wr [] [(0,.val false [.vp (Zw v0)]),(1,ar 0 e.1.length),(2,ar 1 n),(35,one (.sl (a.f_next.map (eInt .i64)))),(36,oi (a.f_next.length:Int)),(37,oi (w64 (h+1)))] [(0,.arr 1 (e.1.map (eInt .i64))),(1,.arr 1 (e.2.map Zn))] ?_
 exact ⟨m1,zl_ _,e.1,e.2,e.1.length,n,(w64 (h+1)),jk,zt,zt,by rw [w] at c;exact c⟩ }
  {
 have c:=Zj c s
 refine WA.exit ?_
 refine Ws [] [(8,ar 0 l)] [(0,.arr 1 (i.map (eInt .i64))),(1,.arr 1 (j.map Zn))] ?_
 refine WA.ret ?_
 obtain rfl:=zj_ c
 exact Zq (ar 0 l) [.arr 1 (i.map (eInt .i64)),.arr 1 (j.map Zn)] kr (by have h0_:l=(i:List _).length:=zt;rw [h0_] <;> rfl) kr kr nd rfl rfl } }
 {
 have c:=Zj c q
 refine WA.skip ?_
 refine WA.seq ?_
 obtain ⟨z,c⟩:=Zo c
 refine Wm (((v1.map (eInt .i64)) ++ (([d]:List Int).map (eInt .i64))):(List (List PV))) ((v1 ++ ([d]:List Int)).map (eInt .i64)) (fun m_=>([(8,ar 0 (n1+1))],[(0,.arr 1 m_),(1,.arr 1 ((f.set (Int.toNat d) true).map Zn))],[n1=(v1.map (eInt .i64)).length,(v1.map (eInt .i64)).length+(([d]:List Int).map (eInt .i64)).length≤1073741824,∀es,es∈(([d]:List Int).map (eInt .i64))→es.length=1])) (zm) [] ⟨zt,(by first | exact z | (simp only [List.length_map,Zi];exact z)),(ZcU _ _ _ (fun _=>rfl)),trivial⟩ ?_
 refine WA.ret ?_
 obtain rfl:=zj_ c
 exact Zq (ar 0 (n1+1)) [.arr 1 ((v1 ++ ([d]:List Int)).map (eInt .i64)),.arr 1 ((f.set (Int.toNat d) true).map Zn)] kr (by have h0_:(n1+1)=((v1 ++ ([d]:List Int)):List _).length:=zt;rw [h0_] <;> rfl) kr kr nd rfl rfl } }
 {
 rcases zo_ (!a.f_some) with o | o
 {
 have c:=Zk c o
 refine Wo [(3,.bool true)] [(0,.val false [.vp (Zw v0)]),(1,ar 0 n1),(2,ar 1 n2),(3,oi d),(9,pt 109),(33,ob (d != 0))] [(0,.arr 1 (v1.map (eInt .i64))),(1,.arr 1 ((f.set (Int.toNat d) true).map Zn)),(109,bx (ZK a))] [(!a.f_some)=true] ⟨o,trivial⟩ ?_
 exact ⟨(d != 0),jk,c⟩ }
 {
 have c:=Zj c o
 refine Wo [(3,.bool false)] [(0,.val false [.vp (Zw v0)]),(1,ar 0 n1),(2,ar 1 n2),(3,oi d),(9,pt 109),(33,ob false)] [(0,.arr 1 (v1.map (eInt .i64))),(1,.arr 1 ((f.set (Int.toNat d) true).map Zn)),(109,bx (ZK a))] [(!a.f_some)=false] ⟨o,trivial⟩ ?_
 exact ⟨false,jk,c⟩ } } }
def F79:Nat→Zr→(List Int)→(List Bool)→Int→Option ((List Int)×(List Bool))
  | 0,_,_,_,_=>none
  | k+1,v0,v1,a,b=>Zlf (F79 k) k v0 v1 a b
theorem ZlC:∀(k:Nat),∀(v0:Zr) (v1:List Int) (a:List Bool) (b:Int) (r:(List Int)×(List Bool)),F79 k v0 v1 a b=some r→∀{n1:Nat},n1=v1.length→∀{n2:Nat},n2=a.length→SM 79 [.val false [.vp (Zw v0)],ar 0 n1,ar 1 n2,oi b] [.arr 1 (v1.map (eInt .i64)),.arr 1 (a.map Zn)] (ar 0 r.1.length) [.arr 1 (r.1.map (eInt .i64)),.arr 1 (r.2.map Zn)]
  | 0=>fun _ _ _ _ _ c=>by cases c
  | k+1=>fun v0 v1 a b r c=>Zo2 (F79 k) (ZlC k) k v0 v1 a b r c
def Zfc (a:(List Int)→(List Bool)→Int→Option (List Int)) (b:Int) (c:List Int) (d:List Bool):Option (List Int):=
  a c d (w64 (b+1))
def Zck (k:Nat) (a:(List Int)→(List Bool)→Int→Option (List Int)) (v0:Zr) (g:Int) (d:List Int) (b:List Bool) (e:Int) (f:Bool):Option (List Int):=
  cond f ((idxL v0.f_nodes g).bind fun h=>(idxL h.f_next 0).bind fun i=>(F79 k v0 d b i).bind fun c=>if c.2.length=b.length then (Zfc a e c.1 c.2) else none) ((Zfc a e d b))
def ZdN (k:Nat) (e:(List Int)→(List Bool)→Int→Option (List Int)) (b:(List Int)→(List Bool)→Int→Option (List Int)) (v0:Zr) (i:Int) (v215:Int) (f:Int) (g:Zu) (c:List Int) (d:List Bool) (a:Int):Option (List Int):=
  (cond (decide (a<(g.f_set.length:Int))) ((idxL g.f_set a).bind fun h=>(cond (decide (i≥h.f_Lo)) ((Zck k b v0 f c d a (decide (i≤h.f_Hi)))) ((Zck k b v0 f c d a false)))) ((e c d (w64 (v215+1)))))
def ZbR (k:Nat) (a:(List Int)→(List Bool)→Int→Option (List Int)) (v0:Zr) (g:Int) (v215:Int) (b:Int) (c:Zu):Nat→(List Int)→(List Bool)→Int→Option (List Int)
  | 0,_,_,_=>none
  | h+1,d,e,f=>ZdN k a (ZbR k a v0 g v215 b c h) v0 g v215 b c d e f
def ZdM (k:Nat) (a:(List Int)→(List Bool)→Int→Option (List Int)) (v0:Zr) (v1:List Int) (f:Int) (b:List Int) (d:List Bool) (v215:Int):Option (List Int):=
  (cond (decide (v215<(v1.length:Int))) ((idxL v1 v215).bind fun c=>(idxL v0.f_nodes c).bind fun e=>(ZbR k a v0 f v215 c e k b d 0)) (((some b))))
def Zcl (k:Nat) (v0:Zr) (v1:List Int) (c:Int):Nat→(List Int)→(List Bool)→Int→Option (List Int)
  | 0,_,_,_=>none
  | d+1,a,b,v215=>ZdM k (Zcl k v0 v1 c d) v0 v1 c a b v215
def F56 (k:Nat) (v0:Zr) (v1:List Int) (a:Int):Option (List Int):=
  ((if (0:Int)≤(v0.f_nodes.length:Int)∧((v0.f_nodes.length:Int):Int)≤1073741824 then ((Zcl k v0 v1 a k ([]:List Int) (List.replicate (Int.toNat (v0.f_nodes.length:Int)) false) 0)) else none))
theorem ZqP (k:Nat) (v0:Zr) (v1:List Int) (f:Int) (r:List Int) (c:F56 k v0 v1 f=some r):SM 56 [.val false [.vp (Zw v0)],one (.sl (v1.map (eInt .i64))),oi f] [] (one (.sl (r.map (eInt .i64)))) []:=by
 refine Zz [] Tryz.func56 rfl kr kr ?_
 show WA _ _ 65 _ _ _
 refine Ws [] [(0,.val false [.vp (Zw v0)]),(1,one (.sl (v1.map (eInt .i64)))),(2,oi f)] [] ?_
 refine Ws [(0,.obj 107)] [(0,.val false [.vp (Zw v0)]),(1,one (.sl (v1.map (eInt .i64)))),(2,oi f),(7,ar 107 0)] [(107,.arr 1 (([]:List Int).map (eInt .i64)))] ?_
 refine WA.seq ?_
 obtain ⟨b4,c⟩:=Zo c
 refine Wm ((((v0.f_nodes.map ZK).length:Int),(List.replicate (Int.toNat ((v0.f_nodes.map ZK).length:Int)) (Zn false))):Int×(List (List PV))) ((v0.f_nodes.length:Int),((List.replicate (Int.toNat (v0.f_nodes.length:Int)) false).map Zn)) (fun m_=>([(0,.val false [.vp (Zw v0)]),(1,one (.sl (v1.map (eInt .i64)))),(2,oi f),(7,ar 107 0),(8,ar 118 (Int.toNat m_.1))],[(107,.arr 1 (([]:List Int).map (eInt .i64))),(118,.arr 1 m_.2)],[(m_.1:Int)=m_.1,(0:Int)≤m_.1,(m_.1:Int)≤1073741824])) (ZH (by first | (simp only [zl,Zi];done) | (simp only [zl,Zi];omega) | omega) zm) [(5,.obj 118)] ⟨rfl,b4.1,b4.2,trivial⟩ ?_
 refine WA.seq ?_
 refine WA.seq ?_
 refine Wm ((v1.map (eInt .i64)).length:Int) (v1.length:Int) (fun m_=>([(0,.val false [.vp (Zw v0)]),(2,oi f),(7,ar 107 0),(8,ar 118 (Int.toNat (v0.f_nodes.length:Int))),(19,one (.sl (v1.map (eInt .i64)))),(20,oi m_),(21,oi 0)],[(107,.arr 1 (([]:List Int).map (eInt .i64))),(118,.arr 1 ((List.replicate (Int.toNat (v0.f_nodes.length:Int)) false).map Zn))],[])) ((by first | (simp only [zl,Zi];done) | (simp only [zl,Zi];omega) | omega)) [] trivial ?_
 refine WA.block ?_
 refine WA.loop (fun m s_=>∃(l:List Int) (q:List Bool) (t:Nat) (v:Nat) (v215:Int),J s_ [(0,.val false [.vp (Zw v0)]),(2,oi f),(7,ar 107 t),(8,ar 118 v),(19,one (.sl (v1.map (eInt .i64)))),(20,oi (v1.length:Int)),(21,oi v215)] [(107,.arr 1 (l.map (eInt .i64))),(118,.arr 1 (q.map Zn))]∧t=(l:List _).length∧v=(q:List _).length∧Zcl k v0 v1 f m l q v215=some r) k ⟨([]:List Int),(List.replicate (Int.toNat (v0.f_nodes.length:Int)) false),0,(Int.toNat (v0.f_nodes.length:Int)),0,jk,zt,zt,c⟩ ?_
 clear c
 rintro m14 s_ ⟨l,q,t,v,v215,he,c1,c2,c⟩
 refine Wj he ?_
 clear he
 cases m14 with
 | zero=>cases c
 | succ m14=>
  obtain ⟨x,a6⟩:∃g,g=Zcl k v0 v1 f m14:=⟨_,rfl⟩
  have c:ZdM k x v0 v1 f l q v215=some r:=by first | (rw [a6];exact c) | exact c
  refine Ws [] [(0,.val false [.vp (Zw v0)]),(2,oi f),(7,ar 107 t),(8,ar 118 v),(19,one (.sl (v1.map (eInt .i64)))),(20,oi (v1.length:Int)),(21,oi v215),(22,ob (decide (v215<(v1.length:Int))))] [(107,.arr 1 (l.map (eInt .i64))),(118,.arr 1 (q.map Zn))] ?_
  refine WA.seq ?_
  refine WA.cond (b:=(decide (v215<(v1.length:Int)))) rfl (fun a8=>?_) (fun a8=>?_)
  {
 have c:=Zk c a8
 refine WA.skip ?_
 refine WA.seq ?_
 refine WA.block ?_
 obtain ⟨d,b5,c⟩:=Zh c
 refine Wos [(0,.cells [.int .i64 d])] [(0,.val false [.vp (Zw v0)]),(2,oi f),(7,ar 107 t),(8,ar 118 v),(10,oi d),(19,one (.sl (v1.map (eInt .i64)))),(20,oi (v1.length:Int)),(21,oi v215)] [(107,.arr 1 (l.map (eInt .i64))),(118,.arr 1 (q.map Zn))] [idxL (v1.map (eInt .i64)) v215=some [.int .i64 d]] ⟨(Zt _ b5),trivial⟩ ?_
 refine WA.seq ?_
 obtain ⟨a,b6,c⟩:=Zh c
 refine Wm ((a.f_set.map Za).length:Int) (a.f_set.length:Int) (fun m_=>([(0,.val false [.vp (Zw v0)]),(2,oi f),(7,ar 107 t),(8,ar 118 v),(10,oi d),(19,one (.sl (v1.map (eInt .i64)))),(20,oi (v1.length:Int)),(21,oi v215),(32,one (.sl (a.f_set.map Za))),(33,oi m_),(34,oi 0)],[(107,.arr 1 (l.map (eInt .i64))),(118,.arr 1 (q.map Zn))],[idxL (v0.f_nodes.map ZK) d=some (ZK a)])) ((by first | (simp only [zl,Zi];done) | (simp only [zl,Zi];omega) | omega)) [(5,.cells (ZK a))] ⟨(Zt _ b6),trivial⟩ ?_
 refine WA.block ?_
 refine WA.loop (fun m s_=>∃(h:List Int) (i:List Bool) (o:Nat) (j:Nat) (e:Int),J s_ [(0,.val false [.vp (Zw v0)]),(2,oi f),(7,ar 107 o),(8,ar 118 j),(10,oi d),(19,one (.sl (v1.map (eInt .i64)))),(20,oi (v1.length:Int)),(21,oi v215),(32,one (.sl (a.f_set.map Za))),(33,oi (a.f_set.length:Int)),(34,oi e)] [(107,.arr 1 (h.map (eInt .i64))),(118,.arr 1 (i.map Zn))]∧o=(h:List _).length∧j=(i:List _).length∧ZbR k x v0 f v215 d a m h i e=some r) k ⟨l,q,t,v,0,jk,zt,zt,c⟩ ?_
 clear c
 rintro m19 s_ ⟨h,i,o,j,e,he,c3,c4,c⟩
 refine Wj he ?_
 clear he
 cases m19 with
 | zero=>cases c
 | succ m19=>
  obtain ⟨a2,a7⟩:∃g,g=ZbR k x v0 f v215 d a m19:=⟨_,rfl⟩
  have c:ZdN k x a2 v0 f v215 d a h i e=some r:=by first | (rw [a7];exact c) | exact c
  refine Ws [] [(0,.val false [.vp (Zw v0)]),(2,oi f),(7,ar 107 o),(8,ar 118 j),(10,oi d),(19,one (.sl (v1.map (eInt .i64)))),(20,oi (v1.length:Int)),(21,oi v215),(32,one (.sl (a.f_set.map Za))),(33,oi (a.f_set.length:Int)),(34,oi e),(35,ob (decide (e<(a.f_set.length:Int))))] [(107,.arr 1 (h.map (eInt .i64))),(118,.arr 1 (i.map Zn))] ?_
  refine WA.seq ?_
  refine WA.cond (b:=(decide (e<(a.f_set.length:Int)))) rfl (fun a9=>?_) (fun a9=>?_)
  {
 have c:=Zk c a9
 refine WA.skip ?_
 refine WA.join (fun s_=>∃(y:List Int) (z:List Bool) (a3:Nat) (a4:Nat),J s_ [(0,.val false [.vp (Zw v0)]),(2,oi f),(7,ar 107 a3),(8,ar 118 a4),(10,oi d),(19,one (.sl (v1.map (eInt .i64)))),(20,oi (v1.length:Int)),(21,oi v215),(32,one (.sl (a.f_set.map Za))),(33,oi (a.f_set.length:Int)),(34,oi e)] [(107,.arr 1 (y.map (eInt .i64))),(118,.arr 1 (z.map Zn))]∧a3=(y:List _).length∧a4=(z:List _).length∧Zfc a2 e y z=some r) ?_ ?_
 {
 rintro s_ ⟨y,z,a3,a4,he,c5,c6,c⟩
 refine Wj he ?_
 clear he
 refine Wr [] [(0,.val false [.vp (Zw v0)]),(2,oi f),(7,ar 107 a3),(8,ar 118 a4),(10,oi d),(19,one (.sl (v1.map (eInt .i64)))),(20,oi (v1.length:Int)),(21,oi v215),(32,one (.sl (a.f_set.map Za))),(33,oi (a.f_set.length:Int)),(34,oi (w64 (e+1)))] [(107,.arr 1 (y.map (eInt .i64))),(118,.arr 1 (z.map Zn))] ?_
 exact ⟨m19,zl_ _,y,z,a3,a4,(w64 (e+1)),jk,zt,zt,by rw [a7] at c;exact c⟩ }
 {
 refine WA.block ?_
 obtain ⟨u,b7,c⟩:=Zh c
 refine Wos [(0,.cells (Za u)),(2,.obj 112)] [(0,.val false [.vp (Zw v0)]),(2,oi f),(7,ar 107 o),(8,ar 118 j),(10,oi d),(12,pt 112),(19,one (.sl (v1.map (eInt .i64)))),(20,oi (v1.length:Int)),(21,oi v215),(32,one (.sl (a.f_set.map Za))),(33,oi (a.f_set.length:Int)),(34,oi e)] [(107,.arr 1 (h.map (eInt .i64))),(112,bx (Za u)),(118,.arr 1 (i.map Zn))] [idxL (a.f_set.map Za) e=some (Za u)] ⟨(Zt _ b7),trivial⟩ ?_
 refine WA.join (fun s_=>∃(b1:Bool),J s_ [(0,.val false [.vp (Zw v0)]),(2,oi f),(7,ar 107 o),(8,ar 118 j),(10,oi d),(19,one (.sl (v1.map (eInt .i64)))),(20,oi (v1.length:Int)),(21,oi v215),(32,one (.sl (a.f_set.map Za))),(33,oi (a.f_set.length:Int)),(34,oi e),(47,ob b1)] [(107,.arr 1 (h.map (eInt .i64))),(118,.arr 1 (i.map Zn))]∧Zck k a2 v0 d h i e b1=some r) ?_ ?_
 {
 rintro s_ ⟨b1,he,c⟩
 refine Wj he ?_
 clear he
 refine WA.cond (b:=b1) rfl (fun b0=>?_) (fun b0=>?_)
 {
 have c:=Zk c b0
 obtain ⟨b2,b8,c⟩:=Zh c
 obtain ⟨b3,b9,c⟩:=Zh c
 obtain ⟨p,c0,c⟩:=Zh c
 obtain ⟨c7,c⟩:=Zo c
 refine Wo [(8,.cells (ZK b2)),(11,.cells [.int .i64 b3]),(13,.call [107,118] (ar 0 p.1.length) [.arr 1 (p.1.map (eInt .i64)),.arr 1 (p.2.map Zn)] [])] [(0,.val false [.vp (Zw v0)]),(2,oi f),(7,ar 107 p.1.length),(8,ar 118 j),(10,oi d),(19,one (.sl (v1.map (eInt .i64)))),(20,oi (v1.length:Int)),(21,oi v215),(32,one (.sl (a.f_set.map Za))),(33,oi (a.f_set.length:Int)),(34,oi e)] [(107,.arr 1 (p.1.map (eInt .i64))),(118,.arr 1 (p.2.map Zn))] [idxL (v0.f_nodes.map ZK) d=some (ZK b2),idxL (b2.f_next.map (eInt .i64)) 0=some [.int .i64 b3],SM 79 [.val false [.vp (Zw v0)],ar 0 o,ar 1 j,oi b3] [.arr 1 (h.map (eInt .i64)),.arr 1 (i.map Zn)] (ar 0 p.1.length) [.arr 1 (p.1.map (eInt .i64)),.arr 1 (p.2.map Zn)],([107,118]:List Nat).Nodup] ⟨(Zt _ b8),(Zt _ b9),(ZlC k _ _ _ _ _ c0 (n1:=o) zt (n2:=j) zt),nd,trivial⟩ ?_
 exact ⟨p.1,p.2,p.1.length,j,jk,zt,zt,c⟩ }
 {
 have c:=Zj c b0
 refine WA.skip ?_
 exact ⟨h,i,o,j,jk,zt,zt,c⟩ } }
 {
 rcases zo_ (decide (f≥u.f_Lo)) with w | w
 {
 have c:=Zk c w
 refine Wo [(4,.bool true)] [(0,.val false [.vp (Zw v0)]),(2,oi f),(7,ar 107 o),(8,ar 118 j),(10,oi d),(19,one (.sl (v1.map (eInt .i64)))),(20,oi (v1.length:Int)),(21,oi v215),(32,one (.sl (a.f_set.map Za))),(33,oi (a.f_set.length:Int)),(34,oi e),(47,ob (decide (f≤u.f_Hi)))] [(107,.arr 1 (h.map (eInt .i64))),(118,.arr 1 (i.map Zn))] [(decide (f≥u.f_Lo))=true] ⟨w,trivial⟩ ?_
 exact ⟨(decide (f≤u.f_Hi)),jk,c⟩ }
 {
 have c:=Zj c w
 refine Wo [(4,.bool false)] [(0,.val false [.vp (Zw v0)]),(2,oi f),(7,ar 107 o),(8,ar 118 j),(10,oi d),(19,one (.sl (v1.map (eInt .i64)))),(20,oi (v1.length:Int)),(21,oi v215),(32,one (.sl (a.f_set.map Za))),(33,oi (a.f_set.length:Int)),(34,oi e),(47,ob false)] [(107,.arr 1 (h.map (eInt .i64))),(118,.arr 1 (i.map Zn))] [(decide (f≥u.f_Lo))=false] ⟨w,trivial⟩ ?_
 exact ⟨false,jk,c⟩ } } } }
  {
 have c:=Zj c a9
 refine WA.exit ?_
 refine Wr [] [(0,.val false [.vp (Zw v0)]),(2,oi f),(7,ar 107 o),(8,ar 118 j),(19,one (.sl (v1.map (eInt .i64)))),(20,oi (v1.length:Int)),(21,oi (w64 (v215+1)))] [(107,.arr 1 (h.map (eInt .i64))),(118,.arr 1 (i.map Zn))] ?_
 exact ⟨m14,zl_ _,h,i,o,j,(w64 (v215+1)),jk,zt,zt,by rw [a6] at c;exact c⟩ } }
  {
 have c:=Zj c a8
 refine WA.exit ?_
 refine Ws [] [(6,ar 107 t)] [(107,.arr 1 (l.map (eInt .i64)))] ?_
 refine WA.freeze 107 6 (s:=1) (n:=t) (els:=(l.map (eInt .i64))) rfl rfl zt ?_
 refine Wk [(6,one (.sl (l.map (eInt .i64))))] [] ?_
 refine WA.ret ?_
 obtain rfl:=zj_ c
 exact Zq (one (.sl (l.map (eInt .i64)))) [] kr kr kr kr nd rfl rfl }
def Zfd (b:Int→Option Bool) (v1:List Int) (a:Int):Option Bool:=
  (cond (decide (a<(v1.length:Int))) ((idxL v1 a).bind fun c=>((cond (c == 0) ((some true)) ((b (w64 (a+1))))))) (((some false))))
def Zfe (v1:List Int):Nat→Int→Option Bool
  | 0,_=>none
  | b+1,a=>Zfd (Zfe v1 b) v1 a
def F57 (k:Nat) (v0:Zr) (v1:List Int):Option Bool:=
  ((Zfe v1 k 0))
theorem ZqQ (k:Nat) (v0:Zr) (v1:List Int) (r:Bool) (c:F57 k v0 v1=some r):SM 57 [.val false [.vp (Zw v0)],one (.sl (v1.map (eInt .i64)))] [] (ob r) []:=by
 refine Zz [] Tryz.func57 rfl kr kr ?_
 show WA _ _ 16 _ _ _
 refine Ws [] [(1,one (.sl (v1.map (eInt .i64))))] [] ?_
 refine WA.seq ?_
 refine WA.seq ?_
 refine Wm ((v1.map (eInt .i64)).length:Int) (v1.length:Int) (fun o=>([(7,one (.sl (v1.map (eInt .i64)))),(8,oi o),(9,oi 0)],[],[])) ((by first | (simp only [zl,Zi];done) | (simp only [zl,Zi];omega) | omega)) [] trivial ?_
 refine WA.block ?_
 refine WA.loop (fun m n=>∃(a:Int),J n [(7,one (.sl (v1.map (eInt .i64)))),(8,oi (v1.length:Int)),(9,oi a)] []∧Zfe v1 m a=some r) k ⟨0,jk,c⟩ ?_
 clear c
 rintro m0 n ⟨a,l,c⟩
 refine Wj l ?_
 clear l
 cases m0 with
 | zero=>cases c
 | succ m0=>
  obtain ⟨j,h⟩:∃g,g=Zfe v1 m0:=⟨_,rfl⟩
  have c:Zfd j v1 a=some r:=by first | (rw [h];exact c) | exact c
  refine Ws [] [(7,one (.sl (v1.map (eInt .i64)))),(8,oi (v1.length:Int)),(9,oi a),(10,ob (decide (a<(v1.length:Int))))] [] ?_
  refine WA.seq ?_
  refine WA.cond (b:=(decide (a<(v1.length:Int)))) rfl (fun e=>?_) (fun e=>?_)
  {
 have c:=Zk c e
 refine WA.skip ?_
 refine WA.seq ?_
 refine WA.block ?_
 obtain ⟨d,i,c⟩:=Zh c
 refine Wos [(0,.cells [.int .i64 d])] [(6,oi d),(7,one (.sl (v1.map (eInt .i64)))),(8,oi (v1.length:Int)),(9,oi a)] [] [idxL (v1.map (eInt .i64)) a=some [.int .i64 d]] ⟨(Zt _ i),trivial⟩ ?_
 refine Ws [] [(7,one (.sl (v1.map (eInt .i64)))),(8,oi (v1.length:Int)),(9,oi a),(14,ob (d == 0))] [] ?_
 refine WA.cond (b:=(d == 0)) rfl (fun f=>?_) (fun f=>?_)
 {
 have c:=Zk c f
 refine Ws [] [(4,ob true)] [] ?_
 refine WA.ret ?_
 obtain rfl:=zj_ c
 exact Zq (ob true) [] kr kr kr kr nd rfl rfl }
 {
 have c:=Zj c f
 refine WA.skip ?_
 refine Wr [] [(7,one (.sl (v1.map (eInt .i64)))),(8,oi (v1.length:Int)),(9,oi (w64 (a+1)))] [] ?_
 exact ⟨m0,zl_ _,(w64 (a+1)),jk,by rw [h] at c;exact c⟩ } }
  {
 have c:=Zj c e
 refine WA.exit ?_
 refine Ws [] [(4,ob false)] [] ?_
 refine WA.ret ?_
 obtain rfl:=zj_ c
 exact Zq (ob false) [] kr kr kr kr nd rfl rfl }
end Go.Proofs.YthilboheomikjaaGreatDoor
end
section
namespace Go.AL
variable {P:Program} {GL:List (Nat×List PV)} {w:World} {I:Nat→Prop} {G:Nat→Option Nat}
theorem ZeB {os:Objs} {id s n:Nat} {els:List (List PV)} {v:Value} (h3:Sr GL w I G os) (ho:look os id=some (.arr s els)) (hn:n=els.length) (hx:ATr w I G (shape os) (.val false [.arr id n]) v) :
    ∃I':Nat→Prop,Sr GL w I' G (ZN os id)∧ATr w I' G (shape (ZN os id)) (one (.sl els)) v∧ZM Any w w I I' G G (shape os) (shape (ZN os id))∧∀k,I' k→I k∨G id=some k:=by
  have hsub:∀k o,look (ZN os id) k=some o→look os k=some o:=fun k o h=>by
    rw [Zao] at h;split at h
    · cases h
    · exact h
  obtain ⟨s1,k1⟩:=h3.sub hsub
  let I':Nat→Prop:=fun b=>I b∨G id=some b
  have hI':∀k,I' k→k<w.heap.size:=fun k hk=>by
    rcases hk with hk | hk
    · exact h3.lt k hk
    · obtain ⟨_,cs,E,hh,_⟩:=h3.blk id _ k ho hk
      exact (Array.getElem?_eq_some_iff.1 hh).1
  have k2:ZM Any w w I I' G G (shape (ZN os id)) (shape (ZN os id)):=⟨fun _ _=>rfl,fun _ h=>.inl h,fun i s m _ hs=>⟨m,hs,Nat.le_refl _,fun _=>⟨rfl,fun _ _=>Nat.le_refl _⟩⟩⟩
  have s2:Sr GL w I' G (ZN os id):=by
    refine ⟨fun g ps hg=>?_,s1.none_,fun k o b q1 q2=>?_,s1.inj,hI'⟩
    · obtain ⟨r1,r2⟩:=h3.gl g ps hg
      exact ⟨.inl r1,fun j p hp=>by obtain ⟨u,hu,hr⟩:=r2 j p hp;exact ⟨u,hu,hr.mono (fun _ _=>rfl) (fun _ h=>.inl h)⟩⟩
    · obtain ⟨r1,cs,E,r2,r3,r4,r5⟩:=s1.blk k o b q1 q2
      refine ⟨fun h=>?_,cs,E,r2,r3,r4,fun i es j c e1 e2=>?_⟩
      · rcases h with h | h
        · exact r1 h
        · have:=h3.inj k id o _ b (hsub k o q1) ho q2 h
          subst this
          rw [Zao,if_pos rfl] at q1;cases q1
      · obtain ⟨v,hv,hr⟩:=r5 i es j c e1 e2
        exact ⟨v,hv,hr.mono k2 (AC.refs_any c)⟩
  refine ⟨I',s2,⟨_,rfl,?_⟩,k1.trans k2,fun k hk=>hk⟩
  show PVr w I' _ _
  have hv:=(ZF hx).2 _ _ (Z6 ho)
  have hv2:=hv.2 (by simp [Obj.els,hn])
  cases hb:G id with
  | none=>
    rw [hb] at hv2
    have:=h3.none_ id _ ho hb
    simp [Obj.els] at this
    subst this
    rw [hv2];exact .sl0 _ _
  | some b=>
    rw [hb] at hv2
    obtain ⟨c,e1,e2,e3⟩:=hv2
    obtain ⟨r1,cs,E,r2,r3,r4,r5⟩:=h3.blk id _ b ho hb
    rw [e1,hn]
    have hget:∀(i:Nat) (es:List PV),els[i]?=some es→(Obj.arr s els).els[i]?=some (pvL es):=fun i es h=>by simp [Obj.els,h]
    let vals:Nat→Nat→Value:=fun i j=>(cs[i*s+j]?).getD undef
    have hvv:∀(i:Nat) (es:List PV) (j:Nat) (p:PV),els[i]?=some es→es[j]?=some p→cs[i*s+j]?=some (vals i j)∧PVr w I p (vals i j):=by
      intro i es j p q1 q2
      obtain ⟨v,hv,hr⟩:=r5 i _ j (.pv p) (hget i es q1) (by simp [pvL,q2])
      have hv':cs[i*s+j]?=some v:=hv
      refine ⟨by simp [vals,hv'],?_⟩
      have:vals i j=v:=by simp [vals,hv']
      rw [this];exact hr
    refine .sl els b 0 c s vals (.inr hb) (by omega) (fun i es q=>by have:=r4 i _ (hget i es q);rw [Zbe] at this;exact this) (fun i es j p q1 q2=>?_) (fun i es j p q1 q2=>(hvv i es j p q1 q2).2.mono (fun _ _=>rfl) (fun _ h=>.inl h))
    have:=(hvv i es j p q1 q2).1
    simp only [World.cell?,r2];simpa using this
theorem ZgW {os:List Obj} {o:Obj} (k:Nat):look (ZD os) k=look (ZN (ZD (os ++ [o])) os.length) k:=by
  rw [Zao,ZJ,ZJ]
  by_cases h:k=os.length
  · subst h;simp
  · rw [if_neg h]
    rcases Nat.lt_or_ge k os.length with h' | h'
    · rw [List.getElem?_append_left h']
    · rw [List.getElem?_eq_none h',List.getElem?_append_right h',List.getElem?_eq_none (by simp;omega)]
theorem Zns {f:FuncId} {args:List AT} {os os':List Obj} {m n s:Nat} {els:List (List PV)} (hm:os'.length=m) (hm2:os.length≤m) (hn:n=els.length) (h:Sim P GL f args os (.val false [.arr m n]) (os' ++ [.arr s els])):Sim P GL f args os (one (.sl els)) os':=by
  intro w I G vs hs ha
  refine Calls.imp (h w I G vs hs ha) ?_
  rintro e w' ⟨v,I',G',rfl,e1,s1,x1,k1⟩
  subst hm
  have hl:look (ZD (os' ++ [Obj.arr s els])) os'.length=some (.arr s els):=by rw [ZJ];simp
  obtain ⟨I2,s2,x2,k2,hI⟩:=ZeB s1 hl hn x1
  have hlk:=fun k=>ZgW (os:=os') (o:=.arr s els) k
  have hsh:shape (ZD os')=shape (ZN (ZD (os' ++ [Obj.arr s els])) os'.length):=by funext k;simp only [shape,hlk]
  refine ⟨v,I2,G',rfl,⟨e1.size,e1.os,e1.tape,e1.output,e1.keep,fun k hk=>k2.imm k (e1.imm k hk),fun k hk=>?_,fun b ⟨k,o,h1,h2⟩=>?_⟩,s2.congr hlk,by rw [hsh];exact x2,?_⟩
  · rcases hI k hk with h | h
    · exact e1.inew k h
    · rcases e1.mnew k ⟨os'.length,_,hl,h⟩ with h | h
      · exact .inr (.inl h)
      · exact .inr (.inr h)
  · have h3:=hlk k
    rw [h1,Zao] at h3
    split at h3
    · cases h3
    · exact e1.mnew b ⟨k,o,h3.symm,h2⟩
  · rw [hsh];exact k1.trans (k2.weaken fun _ _=>trivial)
end Go.AL
end
section
namespace Go.AL
variable {D:List Deferred}
variable {P:Program} {GL:List (Nat×List PV)} {st:S} {w:World} {I:Nat→Prop} {G:Nat→Option Nat} {N:Nat} {F:Exit→S→Prop} {code:Code}
theorem Zen {os:Objs} {id k:Nat} {o:Obj} (h:look (ZN os id) k=some o):look os k=some o:=by
  rw [Zao] at h;split at h
  · cases h
  · exact h
theorem ZnI {os:Objs} {id:Nat} {o:Obj} (h3:Sr GL w I G os) (ho:look os id=some o) :
    Sr GL w (fun b=>I b∨G id=some b) G (ZN os id)∧ZM Any w w I (fun b=>I b∨G id=some b) G G (shape os) (shape (ZN os id)):=by
  obtain ⟨s1,k1⟩:=h3.sub (os':=ZN os id) fun k o h=>Zen h
  have k2:ZM Any w w I (fun b=>I b∨G id=some b) G G (shape (ZN os id)) (shape (ZN os id)):=⟨fun _ _=>rfl,fun _ h=>.inl h,fun i s m _ hs=>⟨m,hs,Nat.le_refl _,fun _=>⟨rfl,fun _ _=>Nat.le_refl _⟩⟩⟩
  refine ⟨⟨fun g ps hg=>?_,s1.none_,fun k o b q1 q2=>?_,s1.inj,fun k hk=>?_⟩,k1.trans k2⟩
  · obtain ⟨r1,r2⟩:=h3.gl g ps hg
    exact ⟨.inl r1,fun j p hp=>by obtain ⟨u,hu,hr⟩:=r2 j p hp;exact ⟨u,hu,hr.mono (fun _ _=>rfl) (fun _ h=>.inl h)⟩⟩
  · obtain ⟨r1,cs,E,r2,r3,r4,r5⟩:=s1.blk k o b q1 q2
    refine ⟨fun h=>?_,cs,E,r2,r3,r4,fun i es j c e1 e2=>?_⟩
    · rcases h with h | h
      · exact r1 h
      · have:=h3.inj k id o _ b (Zen q1) ho q2 h
        subst this
        rw [Zao,if_pos rfl] at q1;cases q1
    · obtain ⟨v,hv,hr⟩:=r5 i es j c e1 e2
      exact ⟨v,hv,hr.mono k2 (AC.refs_any c)⟩
  · rcases hk with hk | hk
    · exact h3.lt k hk
    · obtain ⟨_,cs,E,hh,_⟩:=h3.blk id _ k ho hk
      exact (Array.getElem?_eq_some_iff.1 hh).1
theorem Zl1 {os:Objs} {id a s n:Nat} {els:List (List PV)} {p:PV} {v:Value} (h3:Sr GL w I G os) (hne:id≠a) (hb:look os id=some (.box [.arr a n,.pv p])) (ha:look os a=some (.arr s els)) (hn:n=els.length)
    (hx:ATr w I G (shape os) (.val false [.ptr id 1 0 0]) v) :
    ∃I':Nat→Prop,Sr GL w I' G (ZN (ZN os a) id)∧ATr w I' G (shape (ZN (ZN os a) id)) (.val false [.vp [.sl els,p]]) v∧ZM Any w w I I' G G (shape os) (shape (ZN (ZN os a) id))∧∀k,I' k→I k∨G id=some k∨G a=some k:=by
  have hsh:=Z6 hb
  obtain ⟨⟨A,hA⟩,hp⟩:=ZF hx
  have hp:=(hp _ _ hsh).2 rfl
  cases hG:G id with
  | none=>have:=h3.none_ id _ hb hG;simp [Obj.els] at this
  | some b=>
    have hv:=hp b hG
    obtain ⟨q1,cs,E,q2,q3,q4,q5⟩:=h3.blk id _ b hb hG
    obtain ⟨u,hu,hur⟩:=q5 0 [.arr a n,.pv p] 0 (.arr a n) rfl rfl
    obtain ⟨u1,hu1,hur1⟩:=q5 0 [.arr a n,.pv p] 1 (.pv p) rfl rfl
    obtain ⟨I1,s1,x1,k1,hI1⟩:=ZeB h3 ha hn (v:=u) ⟨_,rfl,hur⟩
    have hb':look (ZN os a) id=some (.box [.arr a n,.pv p]):=by rw [Zao,if_neg hne];exact hb
    obtain ⟨s2,k2⟩:=ZnI s1 hb'
    refine ⟨_,s2,⟨_,rfl,b,0,by simpa using hv,.inr hG,fun j q hq=>?_⟩,k1.trans k2,fun k hk=>?_⟩
    · match j,hq with
      | 0,hq=>
        cases hq
        refine ⟨u,?_,PVr.mono (ZF x1) k2.heap k2.imm⟩
        simp only [World.cell?,q2];simpa using hu
      | 1,hq=>
        cases hq
        refine ⟨u1,?_,PVr.mono hur1 (k1.trans k2).heap (k1.trans k2).imm⟩
        simp only [World.cell?,q2];simpa using hu1
    · rcases hk with hk | hk
      · rcases hI1 k hk with h | h
        · exact .inl h
        · exact .inr (.inr h)
      · exact .inr (.inl (hG.symm.trans hk))
theorem WA.freezeM (id a t:Nat) {s n:Nat} {els:List (List PV)} {p:PV} (ht:look st.env t=some (.val false [.ptr id 1 0 0])) (hb:look st.os id=some (.box [.arr a n,.pv p])) (ha:look st.os a=some (.arr s els)) (hn:n=els.length)
    (hne:id≠a) (h:WA P GL N code ⟨(t,.val false [.vp [.sl els,p]]) :: st.env,ZN (ZN st.os a) id⟩ F):WA P GL N code st F:=fun D w0 I0 G0 os0 w I G c h1 h2 h3 h4=>by
  obtain ⟨I',s2,x2,k3,hI⟩:=Zl1 h3 hne hb ha hn (h4.slot t _ ht).2
  refine h D w0 I0 G0 os0 w I' G c ⟨h1.size,h1.os,h1.tape,h1.output,h1.keep,fun k hk=>k3.imm k (h1.imm k hk),fun k hk=>?_,fun b ⟨k,o,q1,q2⟩=>h1.mnew b ⟨k,o,Zen (Zen q1),q2⟩⟩ (h2.trans (k3.weaken fun _ _=>trivial)) s2
    ⟨h4.size,h4.defers,fun t' x hx=>?_⟩
  · have hm:∀k,Mine G st.os k→I0 k∨Mine G0 os0 k∨w0.heap.size≤k:=fun k hk=>by
      rcases h1.mnew k hk with h | h
      · exact .inr (.inl h)
      · exact .inr (.inr h)
    rcases hI k hk with hk | hk | hk
    · exact h1.inew k hk
    · exact hm k ⟨id,_,hb,hk⟩
    · exact hm k ⟨a,_,ha,hk⟩
  · rw [ZB] at hx
    split at hx
    · rename_i e;subst e;cases hx
      exact ⟨(h4.slot t _ ht).1,x2⟩
    · exact ⟨(h4.slot t' x hx).1,(h4.slot t' x hx).2.mono k3 (AT.refs_any x)⟩
def Zi5 (_:Nat):Prop:=False
theorem Zc3 {w':World} {I':Nat→Prop} {G':Nat→Option Nat} {sh sh':Sh} (hh:∀k,I k→w'.heap[k]?=w.heap[k]?) (hi:∀k,I k→I' k):ZM Zi5 w w' I I' G G' sh sh':=⟨hh,hi,fun _ _ _ h=>h.elim⟩
theorem ZnQ {f:FuncId} {p0 p3:AT} {n m s1 s2:Nat} {els els' l':List (List PV)} (hm:m=l'.length) (h0:p0.refs Zi5) (h3:p3.refs Zi5)
    (h:Sim P GL f [p0,.val false [.arr 0 0],.val false [.arr 1 n],p3] [.arr s1 [],.arr s2 els] (.val false [.arr 0 m]) [.arr s1 l',.arr s2 els']) :
    Sim P GL f [p0,one .nils,.val false [.arr 0 n],p3] [.arr s2 els] (one (.sl l')) [.arr s2 els']:=by
  intro w I G vs hs ha
  obtain ⟨v0,_,rfl,a0,v1,_,rfl,a1,v2,_,rfl,a2,v3,_,rfl,a3,rfl⟩:=ha
  let G2:Nat→Option Nat:=fun k=>if k=1 then G 0 else none
  have l1:∀k,look (ZD [Obj.arr s2 els]) k=if k=0 then some (Obj.arr s2 els) else none:=fun k=>by
    rw [ZJ];cases k with | zero=>rfl | succ k=>rfl
  have l2:∀(x y:Obj) k,look (ZD [x,y]) k=if k=0 then some x else if k=1 then some y else none:=fun x y k=>by
    rw [ZJ];match k with | 0=>rfl | 1=>rfl | k+2=>rfl
  have sr2:Sr GL w I G2 (ZD [.arr s1 [],.arr s2 els]):=by
    refine ⟨hs.gl,fun k o q g=>?_,fun k o b q g=>?_,fun k k' o o' b q1 q2 g1 g2=>?_,hs.lt⟩
    · rw [l2] at q
      by_cases e:k=0
      · rw [if_pos e] at q;cases q;rfl
      · rw [if_neg e] at q
        by_cases e1:k=1
        · rw [if_pos e1] at q;cases q;subst e1
          exact hs.none_ 0 _ (by rw [l1];rfl) g
        · rw [if_neg e1] at q;cases q
    · rw [l2] at q
      by_cases e1:k=1
      · subst e1
        cases q
        obtain ⟨r1,cs,E,r2,r3,r4,r5⟩:=hs.blk 0 _ b (by rw [l1];rfl) g
        refine ⟨r1,cs,E,r2,r3,r4,fun i es j c z1 z2=>?_⟩
        obtain ⟨v,hv,hr⟩:=r5 i es j c z1 z2
        refine ⟨v,hv,?_⟩
        simp only [Obj.els,List.getElem?_map] at z1
        cases hq:els[i]? with
        | none=>rw [hq] at z1;cases z1
        | some ps=>rw [hq] at z1;cases z1;obtain ⟨p,_,rfl⟩:=ZhM z2;exact hr
      · simp only [G2,if_neg e1] at g;cases g
    · have e1:k=1:=by
        by_cases e:k=1
        · exact e
        · simp only [G2,if_neg e] at g1;cases g1
      have e2:k'=1:=by
        by_cases e:k'=1
        · exact e
        · simp only [G2,if_neg e] at g2;cases g2
      rw [e1,e2]
  have k0:∀{I' G' sh sh'},(∀k,I k→I' k)→ZM Zi5 w w I I' G G' sh sh':=fun hi=>Zc3 (fun _ _=>rfl) hi
  have nil1:v1 = .slice none 0 0:=by
    obtain ⟨c,hc,hr⟩:=a1;cases hc;cases hr;rfl
  subst nil1
  have as2:As w I G2 (shape (ZD [.arr s1 [],.arr s2 els])) [p0,.val false [.arr 0 0],.val false [.arr 1 n],p3] [v0,.slice none 0 0,v2,v3]:=by
    refine ⟨v0,_,rfl,a0.mono (k0 fun _ h=>h) h0,_,_,rfl,⟨_,rfl,⟨_,_,rfl⟩,fun s m hsm=>⟨Nat.zero_le _,fun _=>rfl⟩⟩,v2,_,rfl,⟨_,rfl,?_⟩,v3,_,rfl,a3.mono (k0 fun _ h=>h) h3,rfl⟩
    obtain ⟨x1,x2⟩:=ZF a2
    refine ⟨x1,fun s m hsm=>?_⟩
    have e:shape (ZD [Obj.arr s2 els]) 0=some (s,m):=by
      simp only [shape,l2,l1] at hsm ⊢;exact hsm
    exact x2 s m e
  refine Calls.imp (h w I G2 _ sr2 as2) ?_
  rintro e w' ⟨v,I',G',rfl,e1,t1,x1,c1⟩
  have hl0:look (ZD [Obj.arr s1 l',Obj.arr s2 els']) 0=some (.arr s1 l'):=by rw [l2];rfl
  have hl1:look (ZD [Obj.arr s1 l',Obj.arr s2 els']) 1=some (.arr s2 els'):=by rw [l2];rfl
  obtain ⟨I2,t2,x2,c2,hI⟩:=ZeB t1 hl0 hm x1
  let G3:Nat→Option Nat:=fun k=>if k=0 then G' 1 else none
  have hd1:look (ZN (ZD [Obj.arr s1 l',Obj.arr s2 els']) 0) 1=some (.arr s2 els'):=by rw [Zao,if_neg (by omega)];exact hl1
  have m1:∀k,Mine G2 (ZD [.arr s1 [],.arr s2 els]) k→Mine G (ZD [.arr s2 els]) k:=fun k ⟨id,o,q1,q2⟩=>by
    by_cases e:id=1
    · subst e;exact ⟨0,_,by rw [l1];rfl,q2⟩
    · simp only [G2,if_neg e] at q2;cases q2
  have m2:∀k,Mine G (ZD [.arr s2 els]) k→Mine G2 (ZD [.arr s1 [],.arr s2 els]) k:=fun k ⟨id,o,q1,q2⟩=>by
    rw [l1] at q1
    by_cases e:id=0
    · subst e;exact ⟨1,_,by rw [l2];rfl,q2⟩
    · rw [if_neg e] at q1;cases q1
  have l3:∀k,look (ZD [Obj.arr s2 els']) k=if k=0 then some (Obj.arr s2 els') else none:=fun k=>by
    rw [ZJ];cases k with | zero=>rfl | succ k=>rfl
  have m3:∀k,Mine G3 (ZD [.arr s2 els']) k→Mine G' (ZD [Obj.arr s1 l',Obj.arr s2 els']) k:=fun k ⟨id,o,q1,q2⟩=>by
    rw [l3] at q1
    by_cases e:id=0
    · subst e;exact ⟨1,_,hl1,q2⟩
    · rw [if_neg e] at q1;cases q1
  have mm:∀k,Mine G' (ZD [Obj.arr s1 l',Obj.arr s2 els']) k→Mine G (ZD [.arr s2 els]) k∨w.heap.size≤k:=fun k hk=>(e1.mnew k hk).elim (fun h=>.inl (m1 k h)) .inr
  refine ⟨v,I2,G3,rfl,⟨e1.size,e1.os,e1.tape,e1.output,fun k h h'=>e1.keep k h fun q=>h' (m1 k q),fun k hk=>c2.imm k (e1.imm k hk),fun k hk=>?_,fun k hk=>mm k (m3 k hk)⟩,?_,x2.mono (Zc3 (fun _ _=>rfl) fun _ h=>h) ⟨trivial,trivial⟩,?_⟩
  · rcases hI k hk with h | h
    · rcases e1.inew k h with h | h | h
      · exact .inl h
      · exact .inr (.inl (m1 k h))
      · exact .inr (.inr h)
    · exact .inr (mm k ⟨0,_,hl0,h⟩)
  · refine ⟨t2.gl,fun k o q g=>?_,fun k o b q g=>?_,fun k k' o o' b q1 q2 g1 g2=>?_,t2.lt⟩
    · rw [l3] at q
      by_cases e:k=0
      · rw [if_pos e] at q;cases q;subst e
        exact t2.none_ 1 _ hd1 g
      · rw [if_neg e] at q;cases q
    · rw [l3] at q
      by_cases e:k=0
      · rw [if_pos e] at q;cases q;subst e
        obtain ⟨r1,cs,E,r2,r3,r4,r5⟩:=t2.blk 1 _ b hd1 g
        refine ⟨r1,cs,E,r2,r3,r4,fun i es j c z1 z2=>?_⟩
        obtain ⟨v,hv,hr⟩:=r5 i es j c z1 z2
        refine ⟨v,hv,?_⟩
        simp only [Obj.els,List.getElem?_map] at z1
        cases hq:els'[i]? with
        | none=>rw [hq] at z1;cases z1
        | some ps=>rw [hq] at z1;cases z1;obtain ⟨p,_,rfl⟩:=ZhM z2;exact hr
      · rw [if_neg e] at q;cases q
    · rw [l3] at q1 q2
      by_cases e:k=0
      · by_cases e':k'=0
        · rw [e,e']
        · rw [if_neg e'] at q2;cases q2
      · rw [if_neg e] at q1;cases q1
  · refine ⟨fun k hk=>c1.heap k hk,fun k hk=>c2.imm k (c1.imm k hk),fun k s m hk hsm=>?_⟩
    have hk0:k=0:=by simp only [List.length_cons,List.length_nil] at hk;omega
    subst hk0
    have e:shape (ZD [Obj.arr s1 l',Obj.arr s2 els']) 1=some (s,m):=by
      simp only [shape,l3,hl1] at hsm ⊢;exact hsm
    obtain ⟨m0,q1,q2,q3⟩:=c1.objs 1 s m (by simp) e
    refine ⟨m0,?_,q2,fun hm=>?_⟩
    · simp only [shape,l2,l1] at q1 ⊢;exact q1
    · exact q3 hm
end Go.AL
end
section
namespace Go.Proofs.YthilboheomikjaaGreatDoor
open Go.AL
set_option maxRecDepth 100000
def F53 (k:Nat) (v0:Zd):Option Zr:=
  (F78 k ⟨[⟨[],false,[],false⟩],0⟩ v0 0).bind fun y=>if y.2.f_nodes.all (fun n=>!n.f_x)=true then some ⟨y.2.f_nodes,y.1⟩ else none
theorem ZmI {l:List Zu} (h:l.all (fun n=>!n.f_x)=true):l.map Zp=l.map ZK:=by
  refine List.map_congr_left fun x hx=>?_
  have:=List.all_eq_true.1 h x hx
  simp only [Bool.not_eq_true'] at this
  simp only [Zp,ZK,this,cond]
theorem ZqN (k:Nat) (v0:Zd) (r:Zr) (hF:F53 k v0=some r):Sim Tryz.prog GL0 53 [.val true (pvL (Zc v0))] [] (.val false [.vp (Zw r)]) []:=by
  refine Zz [] Tryz.func53 rfl (by kernel_rfl) (by kernel_rfl) ?_
  show WA _ _ 18 _ _ _
  obtain ⟨y,hy,hF⟩:=Zh hF
  obtain ⟨hc,hF⟩:=Zo hF
  obtain rfl:=zj_ hF
  refine WA.seq ?_
  refine WA.reg [1] [101] [(0,.obj 101)] (env':=[(1,.val false [.ptr 101 1 0 0])]) (os':=[(101,.box (pvL (Zc v0)))]) (O:=[]) (by kernel_rfl) (sound _ _) trivial ?_
  refine WA.seq ?_
  refine WA.reg [1,3] [101,105] [(1,.obj 105)] (env':=[(1,.val false [.ptr 101 1 0 0]),(3,.val false [.ptr 105 1 0 0])]) (os':=[(101,.box (pvL (Zc v0))),(105,.box (pvL [.sl [],.int .i64 0]))]) (O:=[]) (by kernel_rfl) (sound _ _) trivial ?_
  refine WA.seq ?_
  refine WA.reg [1,3] [101,105,108] [(2,.obj 108)] (env':=[(1,.val false [.ptr 101 1 0 0]),(3,.val false [.ptr 105 1 0 0])]) (os':=[(101,.box (pvL (Zc v0))),(105,.box [.arr 108 1,.pv (.int .i64 0)]),(108,.arr 3 [[.sl [],.bool false,.sl []]])]) (O:=[]) (by kernel_rfl) (sound _ _) trivial ?_
  refine WA.seq ?_
  refine WA.reg [3] [105,108] [(3,.call [105,108] (one (.int .i64 y.1)) [.box [.arr 1 y.2.f_nodes.length,.pv (.int .i64 y.2.f_first)],.arr 3 (y.2.f_nodes.map Zp)] [])] (env':=[(3,.val false [.ptr 105 1 0 0])]) (os':=[(105,.box [.arr 108 y.2.f_nodes.length,.pv (.int .i64 y.1)]),(108,.arr 3 (y.2.f_nodes.map Zp))])
    (O:=[Sim Tryz.prog GL0 78 [.val false [.ptr 0 1 0 0],.val true (pvL (Zc v0)),one (.int .i64 0)] [.box [.arr 1 1,.pv (.int .i64 0)],.arr 3 [[.sl [],.bool false,.sl []]]] (one (.int .i64 y.1)) [.box [.arr 1 y.2.f_nodes.length,.pv (.int .i64 y.2.f_first)],.arr 3 (y.2.f_nodes.map Zp)],([105,108]:List Nat).Nodup]) (by kernel_rfl) (sound _ _) ⟨Zn7 k _ _ _ _ hy,by decide,trivial⟩ ?_
  refine WA.seq ?_
  refine WA.reg [2] [105,108] [] (env':=[(2,.val false [.ptr 105 1 0 0])]) (os':=[(105,.box [.arr 108 y.2.f_nodes.length,.pv (.int .i64 y.1)]),(108,.arr 3 (y.2.f_nodes.map Zp))]) (O:=[]) (by kernel_rfl) (sound _ _) trivial ?_
  refine WA.freezeM 105 108 2 (s:=3) (n:=y.2.f_nodes.length) (els:=y.2.f_nodes.map Zp) (p:=.int .i64 y.1) rfl rfl rfl (by rw [List.length_map]) (by decide) ?_
  rw [ZmI hc]
  refine WA.ret ?_
  exact Zq (.val false [.vp (Zw ⟨y.2.f_nodes,y.1⟩)]) [] (by kernel_rfl) (by kernel_rfl) (by kernel_rfl) (by kernel_rfl) (by decide) rfl rfl
def F54 (k:Nat) (v0:Zr):Option (List Int):=
  if (v0.f_nodes.length:Int)≤1073741824 then (F79 k v0 [] (List.replicate v0.f_nodes.length false) v0.f_first).bind fun y=>some y.1 else none
theorem ZqO (k:Nat) (v0:Zr) (r:List Int) (hF:F54 k v0=some r):Sim Tryz.prog GL0 54 [.val false [.vp (Zw v0)]] [] (one (.sl (r.map (eInt .i64)))) []:=by
  refine Zz [] Tryz.func54 rfl (by kernel_rfl) (by kernel_rfl) ?_
  show WA _ _ 15 _ _ _
  obtain ⟨hc,hF⟩:=Zo hF
  obtain ⟨y,hy,hF⟩:=Zh hF
  obtain rfl:=zj_ hF
  refine WA.seq ?_
  refine WA.reg [0] [] [] (env':=[(0,.val false [.vp (Zw v0)])]) (os':=[]) (O:=[]) (by kernel_rfl) (sound _ _) trivial ?_
  refine WA.seq ?_
  have hl:(List.replicate (Int.toNat ((v0.f_nodes.map ZK).length:Int)) [PV.bool false])=(List.replicate v0.f_nodes.length false).map Zn:=by
    rw [List.length_map,Int.toNat_natCast,List.map_replicate];rfl
  have hn:Int.toNat ((v0.f_nodes.map ZK).length:Int)=(List.replicate v0.f_nodes.length false).length:=by simp
  refine WA.regD (by kernel_rfl) [2] [] [(6,.obj 109),(11,.call [109] (one (.sl (y.1.map (eInt .i64)))) [.arr 1 (y.2.map Zn)] [])] (env':=[(2,one (.sl (y.1.map (eInt .i64))))]) (os':=[])
    (O:=[((v0.f_nodes.map ZK).length:Int)=(v0.f_nodes.map ZK).length,(0:Int)≤((v0.f_nodes.map ZK).length:Int),((v0.f_nodes.map ZK).length:Int)≤1073741824,
      Sim Tryz.prog GL0 79 [.val false [.vp (Zw v0)],one .nils,.val false [.arr 0 (Int.toNat ((v0.f_nodes.map ZK).length:Int))],one (.int .i64 v0.f_first)] [.arr 1 (List.replicate (Int.toNat ((v0.f_nodes.map ZK).length:Int)) [PV.bool false])] (one (.sl (y.1.map (eInt .i64)))) [.arr 1 (y.2.map Zn)],([109]:List Nat).Nodup])
    (by kernel_rfl) (by kernel_rfl) (sound _ _) ⟨rfl,by omega,by simpa using hc,?_,by decide,trivial⟩ ?_
  · rw [hl]
    exact ZnQ (List.length_map _).symm ⟨trivial,trivial⟩ ⟨trivial,trivial⟩ (ZlC k _ _ _ _ _ hy (n1:=0) rfl hn)
  · refine WA.ret ?_
    exact Zq (one (.sl (y.1.map (eInt .i64)))) [] (by kernel_rfl) (by kernel_rfl) (by kernel_rfl) (by kernel_rfl) (by decide) rfl rfl
end Go.Proofs.YthilboheomikjaaGreatDoor
end
section
namespace Go.Proofs.YthilboheomikjaaGreatDoor
open Go.AL Go.Lib
set_option maxRecDepth 100000
def inR (l:List Zb) (c:Int):Prop:=∃r∈l,r.f_Lo≤c∧c≤r.f_Hi
def Pow (P:List Int→Prop):Nat→List Int→Prop
  | 0,w=>w=[]
  | n+1,w=>∃u v,w=u ++ v∧P u∧Pow P n v
mutual
def Lang:Zd→List Int→Prop
  | ⟨k,st,l,mn,mx⟩=>fun w=>(k=1∧∃c,w=[c]∧inR st c)∨(k=2∧LSeq l w)∨(k=3∧LAlt l w)∨(k=4∧∃n:Nat,mn≤n∧(mx<0∨(n:Int)≤mx)∧Pow (LHd l) n w)
def LSeq:List Zd→List Int→Prop
  | []=>fun w=>w=[]
  | x :: l=>fun w=>∃u v,w=u ++ v∧Lang x u∧LSeq l v
def LAlt:List Zd→List Int→Prop
  | []=>fun _=>False
  | x :: l=>fun w=>Lang x w∨LAlt l w
def LHd:List Zd→List Int→Prop
  | []=>fun _=>False
  | x :: _=>fun w=>Lang x w
end
def WF0 (r:Zd):Prop:=(r.f_Kind=1∨r.f_Kind=2∨r.f_Kind=3∨r.f_Kind=4)∧(r.f_Kind=4→r.f_L.length=1∧0≤r.f_Min∧r.f_Min≤20∧r.f_Max≤20∧(r.f_Max = -1∨r.f_Min≤r.f_Max))∧r.f_Set.length≤1000∧r.f_L.length≤1000
mutual
def WF:Zd→Prop
  | ⟨k,st,l,mn,mx⟩=>WF0 ⟨k,st,l,mn,mx⟩∧WFL l
def WFL:List Zd→Prop
  | []=>True
  | x :: l=>WF x∧WFL l
end
mutual
def fu:Zd→Nat
  | ⟨k,st,l,mn,mx⟩=>1+max (l.length+30) (fuL l)
def fuL:List Zd→Nat
  | []=>0
  | x :: l=>max (fu x) (fuL l)
end
mutual
def cnt:Zd→Nat
  | ⟨k,st,l,mn,mx⟩=>if k=1 then 1 else if k=2 then cntL l else if k=3 then cntL l+1 else if mx<0 then (mn.toNat+1)*cntL l+1 else mx.toNat*cntL l+(mx-mn).toNat
def cntL:List Zd→Nat
  | []=>0
  | x :: l=>cnt x+cntL l
end
inductive Acc (N:List Zu):Nat→Nat→List Int→Prop
  | fin (n:Nat):Acc N n 0 []
  | set {n i:Nat} {x:Zu} {c:Int} {t:Nat} {w:List Int}:N[i]?=some x→x.f_some=true→inR x.f_set c→x.f_next=[(t:Int)]→Acc N n t w→Acc N (n+1) i (c :: w)
  | eps {n i:Nat} {x:Zu} {t:Nat} {w:List Int}:i≠0→N[i]?=some x→x.f_some=false→(t:Int)∈x.f_next→Acc N n t w→Acc N (n+1) i w
theorem Acc.mono {N:List Zu} {n i:Nat} {w:List Int} (h:Acc N n i w):∀{m:Nat},n≤m→Acc N m i w:=by
  induction h with
  | fin n=>exact fun _=>.fin _
  | set h1 h2 h3 h4 _ ih=>intro m hm;obtain ⟨m,rfl⟩:∃q,m=q+1:=⟨m-1,by omega⟩;exact .set h1 h2 h3 h4 (ih (by omega))
  | eps h0 h1 h2 h3 _ ih=>intro m hm;obtain ⟨m,rfl⟩:∃q,m=q+1:=⟨m-1,by omega⟩;exact .eps h0 h1 h2 h3 (ih (by omega))
theorem Acc.inv {N:List Zu} {n i:Nat} {w:List Int} (h:Acc N n i w):(i=0∧w=[])∨
    (∃m x c t v,n=m+1∧w=c :: v∧N[i]?=some x∧x.f_some=true∧inR x.f_set c∧x.f_next=[((t:Nat):Int)]∧Acc N m t v)∨
    (∃m x t,n=m+1∧i≠0∧N[i]?=some x∧x.f_some=false∧((t:Nat):Int)∈x.f_next∧Acc N m t w):=by
  cases h with
  | fin=>exact .inl ⟨rfl,rfl⟩
  | set h1 h2 h3 h4 h5=>exact .inr (.inl ⟨_,_,_,_,_,rfl,rfl,h1,h2,h3,h4,h5⟩)
  | eps h0 h1 h2 h3 h4=>exact .inr (.inr ⟨_,_,_,rfl,h0,h1,h2,h3,h4⟩)
def Good (n:Nat) (x:Zu):Prop:=x.f_x=false∧(∀t∈x.f_next,∃j:Nat,t=(j:Int)∧j<n)∧(x.f_some=true→∃t,x.f_next=[t])∧(x.f_some=false→x.f_set=[])∧x.f_next.length≤1000∧x.f_set.length≤1000
def ZaQ (a b:Nat) (N M:List Zu):Prop:=∀i,a≤i→i<b→M[i]?=N[i]?
structure Z7 (N N':List Zu) (f z:Nat) (P:List Int→Prop) (c:Nat):Prop where
  le:N.length≤N'.length
  cnt:N'.length≤N.length+c
  old:∀i,i<N.length→N'[i]?=N[i]?
  good:∀i x,N.length≤i→N'[i]?=some x→Good N'.length x
  lt:f<N'.length
  sound:∀M,ZaQ N.length N'.length N' M→∀n w,Acc M n f w→∃u v m,w=u ++ v∧P u∧m≤n∧Acc M m z v
  full:∀M,ZaQ N.length N'.length N' M→∀u v m,P u→Acc M m z v→∃n,Acc M n f (u ++ v)
theorem Good.mono {n m:Nat} {x:Zu} (h:Good n x) (hm:n≤m):Good m x:=
  ⟨h.1,fun t ht=>by obtain ⟨j,e,hj⟩:=h.2.1 t ht;exact ⟨j,e,Nat.lt_of_lt_of_le hj hm⟩,h.2.2⟩
theorem Z7.refl {N:List Zu} {z:Nat} (h:z<N.length):Z7 N N z z (fun w=>w=[]) 0:=
  ⟨Nat.le_refl _,Nat.le_refl _,fun _ _=>rfl,fun i x hi hx=>by have:=(List.getElem?_eq_some_iff.1 hx).1;omega,h,fun M _ n w ha=>⟨[],w,n,rfl,rfl,Nat.le_refl _,ha⟩,
    fun M _ u v m hu ha=>by subst hu;exact ⟨m,ha⟩⟩
def Cat (P Q:List Int→Prop) (w:List Int):Prop:=∃u v,w=u ++ v∧P u∧Q v
theorem Z7.comp {N N1 N2:List Zu} {f1 f2 z:Nat} {P Q:List Int→Prop} {c d:Nat} (h:Z7 N N1 f1 z P c) (g:Z7 N1 N2 f2 f1 Q d):Z7 N N2 f2 z (Cat Q P) (c+d):=by
  have ag:∀M,ZaQ N.length N2.length N2 M→ZaQ N.length N1.length N1 M∧ZaQ N1.length N2.length N2 M:=fun M hM=>
    ⟨fun i h1 h2=>by rw [hM i h1 (Nat.lt_of_lt_of_le h2 g.le),g.old i h2],fun i h1 h2=>hM i (Nat.le_trans h.le h1) h2⟩
  refine ⟨Nat.le_trans h.le g.le,by have:=h.cnt;have:=g.cnt;omega,fun i hi=>by rw [g.old i (Nat.lt_of_lt_of_le hi h.le),h.old i hi],fun i x hi hx=>?_,g.lt,fun M hM n w ha=>?_,fun M hM u v m hu ha=>?_⟩
  · rcases Nat.lt_or_ge i N1.length with hl | hl
    · rw [g.old i hl] at hx;exact (h.good i x hi hx).mono g.le
    · exact g.good i x hl hx
  · obtain ⟨a1,a2⟩:=ag M hM
    obtain ⟨u,v,m,rfl,hq,hm,hv⟩:=g.sound M a2 n w ha
    obtain ⟨u',v',m',rfl,hp,hm',hv'⟩:=h.sound M a1 m v hv
    exact ⟨u ++ u',v',m',(List.append_assoc ..).symm,⟨u,u',rfl,hq,hp⟩,Nat.le_trans hm' hm,hv'⟩
  · obtain ⟨a1,a2⟩:=ag M hM
    obtain ⟨p,q,rfl,hp,hq⟩:=hu
    obtain ⟨n1,h1⟩:=h.full M a1 q v m hq ha
    obtain ⟨n2,h2⟩:=g.full M a2 p (q ++ v) n1 hp h1
    exact ⟨n2,by rw [List.append_assoc];exact h2⟩
theorem Z7.congr {N N':List Zu} {f z:Nat} {P Q:List Int→Prop} {c d:Nat} (h:Z7 N N' f z P c) (hq:∀w,P w↔Q w) (hd:c≤d):Z7 N N' f z Q d:=
  ⟨h.le,Nat.le_trans h.cnt (by omega),h.old,h.good,h.lt,fun M hM n w ha=>by obtain ⟨u,v,m,e,hu,r⟩:=h.sound M hM n w ha;exact ⟨u,v,m,e,(hq u).1 hu,r⟩,fun M hM u v m hu ha=>h.full M hM u v m ((hq u).2 hu) ha⟩
theorem Zha {k:Nat} {N:List Zu} {fst:Int} {x:Zu} (h:N.length+1≤1073741824):F105 k ⟨N,fst⟩ x=some ((N.length:Int),⟨N ++ [x],fst⟩):=by
  unfold F105
  simp only [List.length_append,List.length_cons,List.length_nil,Nat.zero_add]
  rw [if_pos h,Zv (by omega) (by omega)]
  congr 2;omega
theorem Zi8 {N:List Zu} {x:Zu} {M:List Zu} (h:ZaQ N.length (N ++ [x]).length (N ++ [x]) M):M[N.length]?=some x:=by
  rw [h N.length (Nat.le_refl _) (by simp)];simp
theorem Zod {N:List Zu} {z:Nat} {s:List Zb} (hs:s.length≤1000) (h:z<N.length) (h0:1≤N.length):Z7 N (N ++ [⟨s,true,[(z:Int)],false⟩]) N.length z (fun w=>∃c,w=[c]∧inR s c) 1:=by
  refine ⟨by simp,by simp,fun i hi=>List.getElem?_append_left hi,fun i x hi hx=>?_,by simp,fun M hM n w ha=>?_,fun M hM u v m hu ha=>?_⟩
  · have:i=N.length:=by have:=(List.getElem?_eq_some_iff.1 hx).1;simp at this;omega
    subst this
    simp at hx;subst hx
    exact ⟨rfl,(fun t ht=>by simp at ht;exact ⟨z,ht,by simp;omega⟩),(fun _=>⟨_,rfl⟩),(fun h=>by cases h),by simp,hs⟩
  · have hx:=Zi8 hM
    rcases ha.inv with ⟨e,_⟩ | ⟨m,x,c,t,v,rfl,rfl,h1,h2,h3,h4,h5⟩ | ⟨m,x,t,rfl,_,h1,h2,h3,_⟩
    · omega
    · rw [hx] at h1;cases h1
      simp only [List.cons.injEq,and_true,Int.natCast_inj] at h4
      subst h4
      exact ⟨[c],v,m,rfl,⟨c,rfl,h3⟩,Nat.le_succ _,h5⟩
    · rw [hx] at h1;cases h1;cases h2
  · obtain ⟨c,rfl,hc⟩:=hu
    exact ⟨m+1,.set (Zi8 hM) rfl hc rfl ha⟩
theorem Zj0 {M:List Zu} {N:List Zu} {next:List Int} (h0:1≤N.length) (hx:M[N.length]?=some ⟨[],false,next,false⟩) {n:Nat} {w:List Int} (ha:Acc M n N.length w):∃m t,n=m+1∧((t:Nat):Int)∈next∧Acc M m t w:=by
  rcases ha.inv with ⟨e,_⟩ | ⟨m,x,c,t,v,rfl,rfl,h1,h2,h3,h4,h5⟩ | ⟨m,x,t,rfl,_,h1,h2,h3,h4⟩
  · omega
  · rw [hx] at h1;cases h1;cases h2
  · rw [hx] at h1;cases h1;exact ⟨m,t,rfl,h3,h4⟩
theorem Zdj {a b c:Nat} {N M:List Zu} {x:Zu} (hb:b≤N.length) (h:ZaQ a c (N ++ [x]) M) (hc:b≤c):ZaQ a b N M:=fun i h1 h2=>by
  rw [h i h1 (by omega),List.getElem?_append_left (by omega)]
theorem Znf {t a b:Nat}:((t:Nat):Int)∈[(a:Int),(b:Int)]↔t=a∨t=b:=by
  simp only [List.mem_cons,List.not_mem_nil,or_false];omega
theorem Zqs {t a:Nat}:((t:Nat):Int)∈[(a:Int)]↔t=a:=by
  simp only [List.mem_cons,List.not_mem_nil,or_false];omega
theorem Zoc {N N1:List Zu} {f b:Nat} {Q:List Int→Prop} {c:Nat} (h0:1≤N.length) (hb:b<N.length) (h:Z7 N N1 f b Q c) :
    Z7 N (N1 ++ [⟨[],false,[(b:Int),(f:Int)],false⟩]) N1.length b (fun w=>w=[]∨Q w) (c+1):=by
  have hle:=h.le
  refine ⟨by simp;omega,by have:=h.cnt;simp;omega,fun i hi=>by rw [List.getElem?_append_left (by omega),h.old i hi],fun i x hi hx=>?_,by simp,fun M hM n w ha=>?_,fun M hM u v m hu ha=>?_⟩
  · rcases Nat.lt_or_ge i N1.length with hl | hl
    · rw [List.getElem?_append_left hl] at hx;exact (h.good i x hi hx).mono (by simp)
    · have:i=N1.length:=by have:=(List.getElem?_eq_some_iff.1 hx).1;simp at this;omega
      subst this
      simp at hx;subst hx
      have:=h.lt
      exact ⟨rfl,(fun t ht=>by simp at ht;rcases ht with rfl | rfl;exact ⟨b,rfl,by simp;omega⟩;exact ⟨f,rfl,by simp;omega⟩),(fun h=>by cases h),(fun _=>rfl),by simp,by simp⟩
  · have hx:M[N1.length]?=some ⟨[],false,[(b:Int),(f:Int)],false⟩:=by rw [hM _ hle (by simp)];simp
    obtain ⟨m,t,rfl,ht,hv⟩:=Zj0 (N:=N1) (by omega) hx ha
    rcases Znf.1 ht with rfl | rfl
    · exact ⟨[],w,m,rfl,.inl rfl,by omega,hv⟩
    · obtain ⟨u,v,m',e,hq,hm,hv⟩:=h.sound M (Zdj (Nat.le_refl _) hM (by simp)) m w hv
      exact ⟨u,v,m',e,.inr hq,by omega,hv⟩
  · have hx:M[N1.length]?=some ⟨[],false,[(b:Int),(f:Int)],false⟩:=by rw [hM _ hle (by simp)];simp
    rcases hu with rfl | hu
    · exact ⟨m+1,.eps (by omega) hx rfl (by simp) ha⟩
    · obtain ⟨n,hn⟩:=h.full M (Zdj (Nat.le_refl _) hM (by simp)) u v m hu ha
      exact ⟨n+1,.eps (by omega) hx rfl (by simp) hn⟩
structure Side (N N':List Zu) (fs:List Int) (z:Nat) (P:List Int→Prop) (c:Nat):Prop where
  le:N.length≤N'.length
  cnt:N'.length≤N.length+c
  old:∀i,i<N.length→N'[i]?=N[i]?
  good:∀i x,N.length≤i→N'[i]?=some x→Good N'.length x
  lt:∀t∈fs,∃j:Nat,t=(j:Int)∧j<N'.length
  sound:∀M,ZaQ N.length N'.length N' M→∀n w (j:Nat),(j:Int)∈fs→Acc M n j w→∃u v m,w=u ++ v∧P u∧m≤n∧Acc M m z v
  full:∀M,ZaQ N.length N'.length N' M→∀u v m,P u→Acc M m z v→∃(j:Nat) (n:Nat),(j:Int)∈fs∧Acc M n j (u ++ v)
theorem Side.nil (N:List Zu) (z:Nat):Side N N [] z (fun _=>False) 0:=
  ⟨Nat.le_refl _,Nat.le_refl _,fun _ _=>rfl,fun i x hi hx=>by have:=(List.getElem?_eq_some_iff.1 hx).1;omega,fun _ h=>by simp at h,fun _ _ _ _ _ h=>by simp at h,fun _ _ _ _ _ h=>h.elim⟩
theorem Side.snoc {N N1 N2:List Zu} {fs:List Int} {f z:Nat} {P Q:List Int→Prop} {c d:Nat} (h:Side N N1 fs z P c) (g:Z7 N1 N2 f z Q d):Side N N2 (fs ++ [(f:Int)]) z (fun w=>P w∨Q w) (c+d):=by
  have ag:∀M,ZaQ N.length N2.length N2 M→ZaQ N.length N1.length N1 M∧ZaQ N1.length N2.length N2 M:=fun M hM=>
    ⟨fun i h1 h2=>by rw [hM i h1 (Nat.lt_of_lt_of_le h2 g.le),g.old i h2],fun i h1 h2=>hM i (Nat.le_trans h.le h1) h2⟩
  refine ⟨Nat.le_trans h.le g.le,by have:=h.cnt;have:=g.cnt;omega,fun i hi=>by rw [g.old i (Nat.lt_of_lt_of_le hi h.le),h.old i hi],fun i x hi hx=>?_,fun t ht=>?_,fun M hM n w j hj ha=>?_,fun M hM u v m hu ha=>?_⟩
  · rcases Nat.lt_or_ge i N1.length with hl | hl
    · rw [g.old i hl] at hx;exact (h.good i x hi hx).mono g.le
    · exact g.good i x hl hx
  · rcases List.mem_append.1 ht with ht | ht
    · obtain ⟨j,e,hj⟩:=h.lt t ht;exact ⟨j,e,Nat.lt_of_lt_of_le hj g.le⟩
    · simp at ht;exact ⟨f,ht,g.lt⟩
  · obtain ⟨a1,a2⟩:=ag M hM
    rcases List.mem_append.1 hj with hj | hj
    · obtain ⟨u,v,m,e,hu,r⟩:=h.sound M a1 n w j hj ha;exact ⟨u,v,m,e,.inl hu,r⟩
    · have hj:=Zqs.1 hj;subst hj
      obtain ⟨u,v,m,e,hu,r⟩:=g.sound M a2 n w ha;exact ⟨u,v,m,e,.inr hu,r⟩
  · obtain ⟨a1,a2⟩:=ag M hM
    rcases hu with hu | hu
    · obtain ⟨j,n,hj,hn⟩:=h.full M a1 u v m hu ha;exact ⟨j,n,List.mem_append.2 (.inl hj),hn⟩
    · obtain ⟨n,hn⟩:=g.full M a2 u v m hu ha;exact ⟨f,n,by simp,hn⟩
theorem Side.close {N N1:List Zu} {fs:List Int} {z:Nat} {P:List Int→Prop} {c:Nat} (h0:1≤N.length) (hl:fs.length≤1000) (h:Side N N1 fs z P c):Z7 N (N1 ++ [⟨[],false,fs,false⟩]) N1.length z P (c+1):=by
  have hle:=h.le
  refine ⟨by simp;omega,by have:=h.cnt;simp;omega,fun i hi=>by rw [List.getElem?_append_left (by omega),h.old i hi],fun i x hi hx=>?_,by simp,fun M hM n w ha=>?_,fun M hM u v m hu ha=>?_⟩
  · rcases Nat.lt_or_ge i N1.length with hl | hl
    · rw [List.getElem?_append_left hl] at hx;exact (h.good i x hi hx).mono (by simp)
    · have:i=N1.length:=by have:=(List.getElem?_eq_some_iff.1 hx).1;simp at this;omega
      subst this
      simp at hx;subst hx
      exact ⟨rfl,(fun t ht=>by obtain ⟨j,e,hj⟩:=h.lt t ht;exact ⟨j,e,by simp;omega⟩),(fun h=>by cases h),(fun _=>rfl),by assumption,by simp⟩
  · have hx:M[N1.length]?=some ⟨[],false,fs,false⟩:=by rw [hM _ hle (by simp)];simp
    obtain ⟨m,t,rfl,ht,hv⟩:=Zj0 (N:=N1) (by omega) hx ha
    obtain ⟨u,v,m',e,hq,hm,hv⟩:=h.sound M (Zdj (Nat.le_refl _) hM (by simp)) m w t ht hv
    exact ⟨u,v,m',e,hq,by omega,hv⟩
  · have hx:M[N1.length]?=some ⟨[],false,fs,false⟩:=by rw [hM _ hle (by simp)];simp
    obtain ⟨j,n,hj,hn⟩:=h.full M (Zdj (Nat.le_refl _) hM (by simp)) u v m hu ha
    exact ⟨n+1,.eps (by omega) hx rfl hj hn⟩
theorem Znx {N N2:List Zu} {f z:Nat} {P:List Int→Prop} {c:Nat} (h0:1≤N.length) (hz:z<N.length) (h:Z7 (N ++ [⟨[],false,[(z:Int)],true⟩]) N2 f N.length P c) :
    Z7 N (N2.set N.length ⟨[],false,[(z:Int),(f:Int)],false⟩) N.length z (fun w=>∃n,Pow P n w) (c+1):=by
  have hle:=h.le
  simp only [List.length_append,List.length_cons,List.length_nil] at hle
  have hlt:=h.lt
  have hl:(N2.set N.length ⟨[],false,[(z:Int),(f:Int)],false⟩).length=N2.length:=List.length_set
  have at_:∀M,ZaQ N.length N2.length (N2.set N.length ⟨[],false,[(z:Int),(f:Int)],false⟩) M→M[N.length]?=some ⟨[],false,[(z:Int),(f:Int)],false⟩:=fun M hM=>by
    rw [hM _ (Nat.le_refl _) (by omega),List.getElem?_set,if_pos rfl,if_pos (by omega)]
  have ag:∀M,ZaQ N.length N2.length (N2.set N.length ⟨[],false,[(z:Int),(f:Int)],false⟩) M→ZaQ (N ++ [(⟨[],false,[(z:Int)],true⟩:Zu)]).length N2.length N2 M:=fun M hM i h1 h2=>by
    simp only [List.length_append,List.length_cons,List.length_nil] at h1
    rw [hM i (by omega) h2,List.getElem?_set,if_neg (by omega)]
  refine ⟨by rw [hl];omega,by rw [hl];have:=h.cnt;simp only [List.length_append,List.length_cons,List.length_nil] at this;omega,fun i hi=>?_,fun i x hi hx=>?_,by rw [hl];omega,fun M hM=>?_,fun M hM u v m hu ha=>?_⟩
  · rw [List.getElem?_set,if_neg (by omega),h.old i (by simp;omega),List.getElem?_append_left hi]
  · rw [hl]
    rw [List.getElem?_set] at hx
    split at hx
    · rw [if_pos (by omega)] at hx;cases hx
      exact ⟨rfl,(fun t ht=>by simp at ht;rcases ht with rfl | rfl;exact ⟨z,rfl,by omega⟩;exact ⟨f,rfl,hlt⟩),(fun h=>by cases h),(fun _=>rfl),by simp,by simp⟩
    · exact h.good i x (by simp;omega) hx
  · rw [hl] at hM
    intro n
    induction n using Nat.strongRecOn with
    | ind n ih=>
      intro w ha
      obtain ⟨m,t,rfl,ht,hv⟩:=Zj0 h0 (at_ M hM) ha
      rcases Znf.1 ht with rfl | rfl
      · exact ⟨[],w,m,rfl,⟨0,rfl⟩,by omega,hv⟩
      · obtain ⟨u,v,m',rfl,hp,hm,hv⟩:=h.sound M (ag M hM) m w hv
        obtain ⟨u',v',m2,rfl,⟨k,hk⟩,hm2,hv2⟩:=ih m' (by omega) v hv
        exact ⟨u ++ u',v',m2,(List.append_assoc ..).symm,⟨k+1,u,u',rfl,hp,hk⟩,by omega,hv2⟩
  · rw [hl] at hM
    obtain ⟨k,hk⟩:=hu
    induction k generalizing u with
    | zero=>cases hk;exact ⟨m+1,.eps (t:=z) (by omega) (at_ M hM) rfl (by simp) ha⟩
    | succ k ih=>
      obtain ⟨u1,u2,rfl,hp,hk⟩:=hk
      obtain ⟨n1,h1⟩:=ih u2 hk
      obtain ⟨n2,h2⟩:=h.full M (ag M hM) u1 (u2 ++ v) n1 hp h1
      exact ⟨n2+1,.eps (t:=f) (by omega) (at_ M hM) rfl (by simp) (by rw [List.append_assoc];exact h2)⟩
end Go.Proofs.YthilboheomikjaaGreatDoor
end
section
namespace Go.Proofs.YthilboheomikjaaGreatDoor
open Go.AL Go.Lib
set_option maxRecDepth 100000
def ZfI (R:Zr→Zd→Int→Option (Int×Zr)) (x:Zd):Prop:=
  ∀(N:List Zu) (fst:Int) (z:Nat),z<N.length→1≤N.length→N.length+cnt x≤1073741824→∃N' f,R ⟨N,fst⟩ x (z:Int)=some (((f:Nat):Int),⟨N',fst⟩)∧Z7 N N' f z (Lang x) (cnt x)
theorem ZmD (a b:List Zd):cntL (a ++ b)=cntL a+cntL b:=by
  induction a with
  | nil=>simp [cntL]
  | cons x a ih=>simp only [List.cons_append,cntL,ih];omega
theorem Zkw {l:List Zd} {j:Nat} (h:j<l.length):cntL (l.take (j+1))=cntL (l.take j)+cnt l[j]:=by
  rw [List.take_succ_eq_append_getElem h,ZmD];simp [cntL]
theorem Zn9 {l:List Zd} {j:Nat} (h:j<l.length) (w:List Int):Cat (Lang l[j]) (LSeq (l.drop (j+1))) w↔LSeq (l.drop j) w:=by
  rw [List.drop_eq_getElem_cons h];exact Iff.rfl
theorem ZhR:∀(a b:List Zd) (w:List Int),LAlt (a ++ b) w↔LAlt a w∨LAlt b w
  | [],b,w=>by simp [LAlt]
  | x :: a,b,w=>by
    have:=ZhR a b w
    simp only [List.cons_append,LAlt,this,or_assoc]
theorem Zkp {l:List Zd} {j:Nat} (h:j<l.length) (w:List Int):(LAlt (l.take j) w∨Lang l[j] w)↔LAlt (l.take (j+1)) w:=by
  rw [List.take_succ_eq_append_getElem h,ZhR];simp [LAlt]
theorem Zmu {R:Zr→Zd→Int→Option (Int×Zr)} {v1:Zd} {fst:Int} {z:Nat} {N:List Zu} (hR:∀x∈v1.f_L,ZfI R x) (h0:1≤N.length) (hlen:v1.f_L.length≤1000) :
    ∀(j m:Nat) (Nj:List Zu) (t c:Nat),j≤v1.f_L.length→j<m→Z7 N Nj t z (LSeq (v1.f_L.drop j)) c→Nj.length+cntL (v1.f_L.take j)≤1073741824→
      ∃N' f,ZgB R v1 m ⟨Nj,fst⟩ (t:Int) ((j:Int)-1)=some (((f:Nat):Int),⟨N',fst⟩)∧Z7 N N' f z (LSeq v1.f_L) (c+cntL (v1.f_L.take j))
  | 0,m+1,Nj,t,c,hj,hm,hA,hb=>by
    refine ⟨Nj,t,?_,by simpa [cntL] using hA⟩
    show Zfo _ _ _ _ _ _=_
    unfold Zfo
    rw [df (by omega)];rfl
  | j+1,m+1,Nj,t,c,hj,hm,hA,hb=>by
    have hjl:j<v1.f_L.length:=by omega
    rw [Zkw hjl] at hb
    have hle:=hA.le
    obtain ⟨N1,f1,e1,A1⟩:=hR _ (List.getElem_mem hjl) Nj fst t hA.lt (by omega) (by omega)
    obtain ⟨N',f,e2,A2⟩:=Zmu hR h0 hlen j m N1 f1 (c+cnt v1.f_L[j]) (by omega) (by omega) ((hA.comp A1).congr (fun w=>Zn9 hjl w) (Nat.le_refl _)) (by have:=A1.cnt;omega)
    refine ⟨N',f,?_,A2.congr (fun _=>Iff.rfl) (by rw [Zkw hjl];omega)⟩
    show Zfo _ _ _ _ _ _=_
    unfold Zfo
    rw [show ((j+1:Nat):Int)-1=(j:Int) by omega,dt (by omega),Zdf hjl]
    simp only [cond,zb_,e1]
    rw [Zv (by omega) (by omega)];exact e2
theorem ZlH {R:Zr→Zd→Int→Option (Int×Zr)} {v1:Zd} {fst:Int} {z k:Nat} {N:List Zu} (hR:∀x∈v1.f_L,ZfI R x) (h0:1≤N.length) (hz:z<N.length) (hlen:v1.f_L.length≤1000) :
    ∀(d j m:Nat) (Nj:List Zu) (fs:List Int) (c:Nat),j+d=v1.f_L.length→d<m→fs.length=j→Side N Nj fs z (LAlt (v1.f_L.take j)) c→c+cntL (v1.f_L.drop j)+1+N.length≤1073741824→
      ∃N' f,ZgC R k v1 (z:Int) m ⟨Nj,fst⟩ fs (j:Int)=some (((f:Nat):Int),⟨N',fst⟩)∧Z7 N N' f z (LAlt v1.f_L) (c+cntL (v1.f_L.drop j)+1)
  | 0,j,m+1,Nj,fs,c,hj,hm,hf,hA,hb=>by
    have hj':j=v1.f_L.length:=by omega
    subst hj'
    have hc:=hA.cnt
    refine ⟨_,Nj.length,?_,((hA.close h0 (by omega))).congr (fun w=>by rw [List.take_length]) (by omega)⟩
    show Zfp _ _ _ _ _ _ _ _=_
    unfold Zfp
    rw [df (by omega)]
    simp only [cond]
    rw [Zha (by omega)];rfl
  | d+1,j,m+1,Nj,fs,c,hj,hm,hf,hA,hb=>by
    have hjl:j<v1.f_L.length:=by omega
    have hd:cntL (v1.f_L.drop j)=cnt v1.f_L[j]+cntL (v1.f_L.drop (j+1)):=by rw [List.drop_eq_getElem_cons hjl];rfl
    rw [hd] at hb
    have hc:=hA.cnt;have hle:=hA.le
    obtain ⟨N1,f1,e1,A1⟩:=hR _ (List.getElem_mem hjl) Nj fst z (by omega) (by omega) (by omega)
    obtain ⟨N',f,e2,A2⟩:=ZlH (fst:=fst) (k:=k) hR h0 hz hlen d (j+1) m N1 (fs ++ [(f1:Int)]) (c+cnt v1.f_L[j]) (by omega) (by omega) (by simp [hf]) (by
      have:=hA.snoc A1
      exact ⟨this.le,this.cnt,this.old,this.good,this.lt,fun M hM n w q hq ha=>by obtain ⟨u,v,mm,e,hu,r⟩:=this.sound M hM n w q hq ha;exact ⟨u,v,mm,e,(Zkp hjl u).1 hu,r⟩,
        fun M hM u v mm hu ha=>this.full M hM u v mm ((Zkp hjl u).2 hu) ha⟩) (by omega)
    refine ⟨N',f,?_,A2.congr (fun _=>Iff.rfl) (by omega)⟩
    show Zfp _ _ _ _ _ _ _ _=_
    unfold Zfp
    rw [dt (by omega),Zdf hjl]
    simp only [cond,zb_,e1]
    rw [if_pos (by simp;omega),Zv (by omega) (by omega)];exact e2
theorem Zfu {P:List Int→Prop} (a b:Nat) (w:List Int):Cat (Pow P a) (Pow P b) w↔Pow P (a+b) w:=by
  induction a generalizing w with
  | zero=>
    rw [Nat.zero_add]
    exact ⟨fun ⟨u,v,e,hu,hv⟩=>by cases hu;subst e;exact hv,fun h=>⟨[],w,rfl,rfl,h⟩⟩
  | succ a ih=>
    rw [show a+1+b=(a+b)+1 by omega]
    constructor
    · rintro ⟨u,v,rfl,⟨u1,u2,rfl,h1,h2⟩,hv⟩
      exact ⟨u1,u2 ++ v,List.append_assoc ..,h1,(ih _).1 ⟨u2,v,rfl,h2,hv⟩⟩
    · rintro ⟨u,v,rfl,h1,h2⟩
      obtain ⟨v1,v2,rfl,h3,h4⟩:=(ih _).2 h2
      exact ⟨u ++ v1,v2,(List.append_assoc ..).symm,⟨u,v1,rfl,h1,h3⟩,h4⟩
theorem Zo4 {P Q:List Int→Prop} (a:Nat) (w:List Int):Cat P (Cat (Pow P a) Q) w↔Cat (Pow P (a+1)) Q w:=by
  constructor
  · rintro ⟨u,v,rfl,h1,v1,v2,rfl,h2,h3⟩
    exact ⟨u ++ v1,v2,(List.append_assoc ..).symm,⟨u,v1,rfl,h1,h2⟩,h3⟩
  · rintro ⟨u,v,rfl,⟨u1,u2,rfl,h1,h2⟩,h3⟩
    exact ⟨u1,u2 ++ v,List.append_assoc ..,h1,u2,v,rfl,h2,h3⟩
theorem Zim {R:Zr→Zd→Int→Option (Int×Zr)} {v1 x:Zd} {fst:Int} {z:Nat} {N:List Zu} {Q:List Int→Prop} (hx:idxL v1.f_L 0=some x) (hR:ZfI R x) (h0:1≤N.length) (hm0:0≤v1.f_Min) (hm1:v1.f_Min≤20) :
    ∀(d i m:Nat) (Ni:List Zu) (t c:Nat),(i:Int)+d=v1.f_Min→d<m→Z7 N Ni t z (Cat (Pow (Lang x) i) Q) c→Ni.length+d*cnt x≤1073741824→
      ∃N' f,ZgE R v1 m ⟨Ni,fst⟩ (t:Int) (i:Int)=some (((f:Nat):Int),⟨N',fst⟩)∧Z7 N N' f z (Cat (Pow (Lang x) v1.f_Min.toNat) Q) (c+d*cnt x)
  | 0,i,m+1,Ni,t,c,hi,hm,hA,hb=>by
    have e:v1.f_Min.toNat=i:=by omega
    rw [e]
    refine ⟨Ni,t,?_,by simpa using hA⟩
    show Zfr _ _ _ _ _ _=_
    unfold Zfr
    rw [df (by omega)];rfl
  | d+1,i,m+1,Ni,t,c,hi,hm,hA,hb=>by
    have hle:=hA.le
    rw [Nat.add_mul,Nat.one_mul] at hb
    obtain ⟨N1,f1,e1,A1⟩:=hR Ni fst t hA.lt (by omega) (by omega)
    obtain ⟨N',f,e2,A2⟩:=Zim hx hR h0 hm0 hm1 d (i+1) m N1 f1 (c+cnt x) (by omega) (by omega) ((hA.comp A1).congr (fun w=>Zo4 i w) (Nat.le_refl _)) (by have:=A1.cnt;omega)
    refine ⟨N',f,?_,A2.congr (fun _=>Iff.rfl) (by rw [Nat.add_mul,Nat.one_mul];omega)⟩
    show Zfr _ _ _ _ _ _=_
    unfold Zfr
    rw [dt (by omega),hx]
    simp only [cond,zb_,e1]
    rw [Zv (by omega) (by omega)];exact e2
def Zel (P:List Int→Prop) (j:Nat) (w:List Int):Prop:=∃n,n≤j∧Pow P n w
theorem Znu {P:List Int→Prop} (j:Nat) (w:List Int):(w=[]∨Cat P (Zel P j) w)↔Zel P (j+1) w:=by
  constructor
  · rintro (rfl | ⟨u,v,rfl,h1,n,hn,h2⟩)
    · exact ⟨0,by omega,rfl⟩
    · exact ⟨n+1,by omega,u,v,rfl,h1,h2⟩
  · rintro ⟨n,hn,h⟩
    cases n with
    | zero=>exact .inl h
    | succ n=>obtain ⟨u,v,rfl,h1,h2⟩:=h;exact .inr ⟨u,v,rfl,h1,n,by omega,h2⟩
theorem Zl7 {R:Zr→Zd→Int→Option (Int×Zr)} {v1 x:Zd} {fst:Int} {z k:Nat} {N:List Zu} (hx:idxL v1.f_L 0=some x) (hR:ZfI R x) (h0:1≤N.length) (hz:z<N.length) (hm0:0≤v1.f_Min) (hm1:v1.f_Min≤20) (hm2:v1.f_Max≤20) (hm3:v1.f_Min≤v1.f_Max) (hk:21≤k) :
    ∀(d j m:Nat) (Nj:List Zu) (t c:Nat),(j:Int)+d=v1.f_Max-v1.f_Min→d<m→Z7 N Nj t z (Zel (Lang x) j) c→Nj.length+d*(cnt x+1)+v1.f_Min.toNat*cnt x≤1073741824→
      ∃N' f,ZgD R k v1 (z:Int) m ⟨Nj,fst⟩ (t:Int) (j:Int)=some (((f:Nat):Int),⟨N',fst⟩)∧Z7 N N' f z (Cat (Pow (Lang x) v1.f_Min.toNat) (Zel (Lang x) (v1.f_Max-v1.f_Min).toNat)) (c+d*(cnt x+1)+v1.f_Min.toNat*cnt x)
  | 0,j,m+1,Nj,t,c,hj,hm,hA,hb=>by
    have e:(v1.f_Max-v1.f_Min).toNat=j:=by omega
    rw [e]
    have A0:Z7 N Nj t z (Cat (Pow (Lang x) 0) (Zel (Lang x) j)) c:=hA.congr (fun w=>⟨fun h=>⟨[],w,rfl,rfl,h⟩,fun ⟨u,v,e,hu,hv⟩=>by cases hu;subst e;exact hv⟩) (Nat.le_refl _)
    obtain ⟨N',f,e2,A2⟩:=Zim (fst:=fst) hx hR h0 hm0 hm1 v1.f_Min.toNat 0 k Nj t c (by omega) (by omega) A0 (by omega)
    refine ⟨N',f,?_,A2.congr (fun _=>Iff.rfl) (by omega)⟩
    show Zfq _ _ _ _ _ _ _ _=_
    unfold Zfq ZgA
    rw [Zv (by omega) (by omega),df (by omega)];exact e2
  | d+1,j,m+1,Nj,t,c,hj,hm,hA,hb=>by
    have hle:=hA.le
    rw [Nat.add_mul,Nat.one_mul] at hb
    obtain ⟨N1,f1,e1,A1⟩:=hR Nj fst t hA.lt (by omega) (by omega)
    have hc1:=A1.cnt
    have A3:=Zoc h0 hz (hA.comp A1)
    obtain ⟨N',f,e2,A2⟩:=Zl7 hx hR h0 hz hm0 hm1 hm2 hm3 hk d (j+1) m _ _ (c+cnt x+1) (by omega) (by omega) (A3.congr (fun w=>Znu j w) (Nat.le_refl _)) (by simp;omega)
    refine ⟨N',f,?_,A2.congr (fun _=>Iff.rfl) (by rw [Nat.add_mul,Nat.one_mul];omega)⟩
    show Zfq _ _ _ _ _ _ _ _=_
    unfold Zfq
    rw [Zv (x:=v1.f_Max-v1.f_Min) (by omega) (by omega),dt (by omega),hx]
    simp only [cond,zb_,e1]
    rw [Zha (by omega)]
    simp only [zb_]
    rw [Zv (by omega) (by omega)];exact e2
theorem Zqn {l:List Zd} {x:Zd} (h:x∈l):fu x≤fuL l:=by
  induction l with
  | nil=>cases h
  | cons y l ih=>
    simp only [fuL]
    rcases List.mem_cons.1 h with rfl | h
    · omega
    · have:=ih h;omega
theorem Zm1 {l:List Zd} {x:Zd} (hw:WFL l) (h:x∈l):WF x:=by
  induction l with
  | nil=>cases h
  | cons y l ih=>
    rcases List.mem_cons.1 h with rfl | h
    · exact hw.1
    · exact ih hw.2 h
theorem Zlj {a b:Int} (h:a=b):(a == b)=true:=by simpa using h
theorem Zli {a b:Int} (h:a≠b):(a == b)=false:=by simpa using h
theorem ZcR (k:Int) (st:List Zb) (l:List Zd) (mn mx:Int) (w:List Int):Lang ⟨k,st,l,mn,mx⟩ w↔(k=1∧∃c,w=[c]∧inR st c)∨(k=2∧LSeq l w)∨(k=3∧LAlt l w)∨(k=4∧∃n:Nat,mn≤n∧(mx<0∨(n:Int)≤mx)∧Pow (LHd l) n w):=by rw [Lang]
theorem Znv {P:List Int→Prop} (w:List Int):w=[]↔Zel P 0 w:=by
  constructor
  · intro h;exact ⟨0,Nat.le_refl _,h⟩
  · rintro ⟨n,hn,h⟩
    have:n=0:=by omega
    rw [this] at h;exact h
theorem Zgd {x:Zd} {st:List Zb} {mn mx:Int} (w:List Int):Lang ⟨4,st,[x],mn,mx⟩ w↔∃n:Nat,mn≤n∧(mx<0∨(n:Int)≤mx)∧Pow (Lang x) n w:=by
  rw [ZcR]
  constructor
  · rintro (⟨h,_⟩ | ⟨h,_⟩ | ⟨h,_⟩ | ⟨_,h⟩)
    · cases h
    · cases h
    · cases h
    · exact h
  · exact fun h=>.inr (.inr (.inr ⟨rfl,h⟩))
theorem Zob:∀(k:Nat) (r:Zd),k≤1048576→WF r→fu r≤k→ZfI (F78 k) r
  | 0,⟨kd,st,l,mn,mx⟩,_,_,hf=>by simp only [fu] at hf;omega
  | k+1,⟨kd,st,l,mn,mx⟩,hk,hw,hf=>by
    intro N fst z hz h0 hb
    simp only [fu] at hf
    obtain ⟨⟨hkd,h4,hst,hll⟩,hwl⟩:=hw
    simp only [] at hkd h4 hst hll
    have hsub:∀x∈l,ZfI (F78 k) x:=fun x hx=>Zob k x (by omega) (Zm1 hwl hx) (by have:=Zqn hx;omega)
    show ∃N' f,Zle (F78 k) k ⟨N,fst⟩ ⟨kd,st,l,mn,mx⟩ (z:Int)=_∧_
    unfold Zle
    simp only [cnt] at hb ⊢
    by_cases k1:kd=1
    · subst k1
      simp only [if_true] at hb ⊢
      refine ⟨_,N.length,?_,(Zod (s:=st) hst hz h0).congr (fun w=>?_) (Nat.le_refl _)⟩
      · rw [Zlj rfl]
        simp only [cond]
        rw [Zha (by omega)];rfl
      · rw [ZcR]
        exact ⟨fun h=>.inl ⟨rfl,h⟩,fun h=>by
          rcases h with ⟨_,h⟩ | ⟨h,_⟩ | ⟨h,_⟩ | ⟨h,_⟩
          · exact h
          all_goals cases h⟩
    rw [Zli k1]
    simp only [cond,if_neg k1] at hb ⊢
    by_cases k2:kd=2
    · subst k2
      rw [Zlj rfl]
      simp only [if_true] at hb ⊢
      have hl:(w64 ((l.length:Int)-1))=(l.length:Int)-1:=Zv (by omega) (by omega)
      rw [hl]
      obtain ⟨N',f,e,A⟩:=Zmu (v1:=⟨2,st,l,mn,mx⟩) (fst:=fst) hsub h0 (by show l.length≤_;omega) l.length k N z 0 (Nat.le_refl _) (by omega) (by
        show Z7 N N z z (LSeq (l.drop l.length)) 0
        rw [List.drop_length];exact Z7.refl hz) (by show _+cntL (l.take l.length)≤_;rw [List.take_length];omega)
      refine ⟨N',f,e,A.congr (fun w=>?_) (by show 0+cntL (l.take l.length)≤_;rw [List.take_length];omega)⟩
      show LSeq l w↔Lang _ w
      rw [ZcR]
      exact ⟨fun h=>.inr (.inl ⟨rfl,h⟩),fun h=>by
          rcases h with ⟨h,_⟩ | ⟨_,h⟩ | ⟨h,_⟩ | ⟨h,_⟩
          · cases h
          · exact h
          all_goals cases h⟩
    rw [Zli k2]
    simp only [if_neg k2] at hb ⊢
    by_cases k3:kd=3
    · subst k3
      rw [Zlj rfl]
      simp only [if_true] at hb ⊢
      obtain ⟨N',f,e,A⟩:=ZlH (v1:=⟨3,st,l,mn,mx⟩) (fst:=fst) (k:=k) hsub h0 hz (by show l.length≤_;omega) l.length 0 k N [] 0 (by show 0+l.length=l.length;omega) (by omega) rfl (by
        show Side N N [] z (LAlt (l.take 0)) 0
        exact Side.nil N z) (by show 0+cntL (l.drop 0)+1+N.length≤_;rw [List.drop_zero];omega)
      refine ⟨N',f,e,A.congr (fun w=>?_) (by show 0+cntL (l.drop 0)+1≤_;rw [List.drop_zero];omega)⟩
      show LAlt l w↔Lang _ w
      rw [ZcR]
      exact ⟨fun h=>.inr (.inr (.inl ⟨rfl,h⟩)),fun h=>by
          rcases h with ⟨h,_⟩ | ⟨h,_⟩ | ⟨_,h⟩ | ⟨h,_⟩
          · cases h
          · cases h
          · exact h
          all_goals cases h⟩
    rw [Zli k3]
    simp only [if_neg k3] at hb ⊢
    have k4:kd=4:=by omega
    subst k4
    obtain ⟨hl1,hm0,hm1,hm2,hm3⟩:=h4 rfl
    obtain ⟨x,rfl⟩:∃x,l=[x]:=by
      match l,hl1 with
      | [x],_=>exact ⟨x,rfl⟩
    have hx:ZfI (F78 k) x:=hsub x (by simp)
    have hi:idxL [x] 0=some x:=rfl
    simp only [cntL,Nat.add_zero] at hb ⊢
    by_cases km:mx<0
    · rw [dt km]
      simp only [if_pos km] at hb ⊢
      rw [Nat.add_mul,Nat.one_mul] at hb ⊢
      rw [Zha (by omega)]
      simp only [zb_,hi]
      obtain ⟨N2,f,e,A⟩:=hx (N ++ [⟨[],false,[(z:Int)],true⟩]) fst N.length (by simp) (by simp) (by simp;omega)
      have hle:=A.le;have hct:=A.cnt
      simp only [List.length_append,List.length_cons,List.length_nil] at hle hct
      have hat:N2[N.length]?=some ⟨[],false,[(z:Int)],true⟩:=by rw [A.old N.length (by simp)];simp
      rw [e]
      simp only [zb_]
      rw [if_pos ⟨by omega,by omega⟩,Zy,hat]
      simp only [zb_]
      rw [if_pos trivial,if_pos (by simp),if_pos ⟨by omega,by omega⟩]
      have S:=Znx h0 hz A
      have A0:Z7 N (N2.set N.length ⟨[],false,[(z:Int),(f:Int)],false⟩) N.length z (Cat (Pow (Lang x) 0) (fun w=>∃n,Pow (Lang x) n w)) (cnt x+1):=S.congr (fun w=>⟨fun h=>⟨[],w,rfl,rfl,h⟩,fun ⟨u,v,e,hu,hv⟩=>by cases hu;subst e;exact hv⟩) (Nat.le_refl _)
      obtain ⟨N',f',e2,A2⟩:=Zim (v1:=⟨4,st,[x],mn,mx⟩) (fst:=fst) hi hx h0 hm0 hm1 mn.toNat 0 k _ _ _ (by show ((0:Nat):Int)+mn.toNat=mn;omega) (by omega) A0 (by rw [List.length_set];omega)
      refine ⟨N',f',?_,A2.congr (fun w=>?_) (by omega)⟩
      · unfold ZgA
        rw [Int.toNat_natCast]
        exact e2
      · rw [Zgd]
        constructor
        · rintro ⟨u,v,rfl,hu,n,hn⟩
          exact ⟨mn.toNat+n,by omega,.inl km,(Zfu _ _ _).1 ⟨u,v,rfl,hu,hn⟩⟩
        · rintro ⟨n,hn,_,h⟩
          have:n=mn.toNat+(n-mn.toNat):=by omega
          rw [this] at h
          obtain ⟨u,v,e,hu,hv⟩:=(Zfu _ _ _).2 h
          exact ⟨u,v,e,hu,_,hv⟩
    · rw [df km]
      simp only [if_neg km] at hb ⊢
      have hm3':mn≤mx:=by rcases hm3 with h | h;omega;exact h
      have hsplit:mx.toNat*cnt x+(mx-mn).toNat=(mx-mn).toNat*(cnt x+1)+mn.toNat*cnt x:=by
        have:mx.toNat=(mx-mn).toNat+mn.toNat:=by omega
        rw [this,Nat.add_mul,Nat.mul_add,Nat.mul_one];omega
      rw [hsplit] at hb ⊢
      have A0:Z7 N N z z (Zel (Lang x) 0) 0:=(Z7.refl hz).congr (fun w=>Znv w) (Nat.le_refl _)
      obtain ⟨N',f',e2,A2⟩:=Zl7 (v1:=⟨4,st,[x],mn,mx⟩) (fst:=fst) (k:=k) hi hx h0 hz hm0 hm1 hm2 hm3' (by omega) (mx-mn).toNat 0 k N z 0 (by show ((0:Nat):Int)+(mx-mn).toNat=mx-mn;omega) (by omega) A0 (by show _+_*_+mn.toNat*_≤_;omega)
      refine ⟨N',f',e2,A2.congr (fun w=>?_) (by show 0+_+mn.toNat*_≤_;omega)⟩
      rw [Zgd]
      show Cat (Pow (Lang x) mn.toNat) (Zel (Lang x) (mx-mn).toNat) w↔_
      constructor
      · rintro ⟨u,v,rfl,hu,n,hn,hv⟩
        exact ⟨mn.toNat+n,by omega,.inr (by omega),(Zfu _ _ _).1 ⟨u,v,rfl,hu,hv⟩⟩
      · rintro ⟨n,hn,h2,h⟩
        have:n=mn.toNat+(n-mn.toNat):=by omega
        rw [this] at h
        obtain ⟨u,v,e,hu,hv⟩:=(Zfu _ _ _).2 h
        exact ⟨u,v,e,hu,_,by omega,hv⟩
end Go.Proofs.YthilboheomikjaaGreatDoor
end
section
namespace Go.Proofs.YthilboheomikjaaGreatDoor
open Go.AL Go.Lib
set_option maxRecDepth 100000
def Stop (N:List Zu) (i:Nat):Prop:=∃x,N[i]?=some x∧(x.f_some=true∨i=0)
def Eps (N:List Zu) (i:Nat) (x:Zu):Prop:=N[i]?=some x∧x.f_some=false∧i≠0
inductive Zcy (N:List Zu):Nat→Nat→Prop
  | refl (i:Nat):Zcy N i i
  | step {i t j:Nat} {x:Zu}:Eps N i x→(t:Int)∈x.f_next→Zcy N t j→Zcy N i j
def Sn (s:List Bool) (i:Nat):Prop:=s[i]?=some true
structure ZjR (N:List Zu) (i:Nat) (s:List Bool) (o:List Int) (s':List Bool) (o':List Int):Prop where
  len:s'.length=s.length
  mono:∀j,Sn s j→Sn s' j
  here:Sn s' i
  new:∀j,Sn s' j→Sn s j∨Zcy N i j
  out:∃d,o'=o ++ d∧∀t∈d,∃j:Nat,t=(j:Int)∧Stop N j∧Sn s' j∧Zcy N i j
  stop:∀j,Sn s' j→¬Sn s j→Stop N j→(j:Int)∈o'
  eps:∀j,Sn s' j→¬Sn s j→∀x,Eps N j x→∀t∈x.f_next,∃q:Nat,t=(q:Int)∧Sn s' q
  size:o'.length+s'.count false≤o.length+s.count false
structure Mach (N:List Zu):Prop where
  good:∀(i:Nat) (x:Zu),N[i]?=some x→Good N.length x
  zero:∃x,N[0]?=some x∧x.f_some=false∧x.f_set=[]
  big:N.length≤536870912
theorem Zj4 {s:List Bool} {i:Nat} (h:s[i]?=some false):(s.set i true).count false+1=s.count false:=by
  obtain ⟨hl,he⟩:=List.getElem?_eq_some_iff.1 h
  rw [List.count_set hl,he]
  have:0<s.count false:=List.count_pos_iff.2 (by rw [←he];exact List.getElem_mem hl)
  simp;omega
theorem Zrg {s:List Bool} {i j:Nat} (hi:i<s.length):Sn (s.set i true) j↔Sn s j∨j=i:=by
  unfold Sn
  rw [List.getElem?_set]
  by_cases e:i=j
  · subst e;simp [hi]
  · rw [if_neg e];constructor
    · exact .inl
    · rintro (h | h);exact h;exact absurd h.symm e
theorem Zjc {N:List Zu} {R:Zr→List Int→List Bool→Int→Option (List Int×List Bool)} {fst:Int} {x:Zu} {u:Nat} (hM:Mach N) (hx:∀t∈x.f_next,∃j:Nat,t=(j:Int)∧j<N.length)
    (hR:∀(s:List Bool) (o:List Int) (i:Nat),i<N.length→s.length=N.length→s.count false≤u→o.length+s.count false≤1073741823→∃o' s',R ⟨N,fst⟩ o s (i:Int)=some (o',s')∧ZjR N i s o s' o') (hn:x.f_next.length≤1048576) :
    ∀(d i m:Nat) (s:List Bool) (o:List Int),i+d=x.f_next.length→d<m→s.length=N.length→s.count false≤u→o.length+s.count false≤1073741823→
      ∃o' s',Zd5 R ⟨N,fst⟩ x m o s (i:Int)=some (o',s')∧s'.length=s.length∧(∀j,Sn s j→Sn s' j)∧(∀t∈x.f_next.drop i,∃q:Nat,t=(q:Int)∧Sn s' q)∧
        (∀j,Sn s' j→Sn s j∨∃t:Nat,(t:Int)∈x.f_next∧Zcy N t j)∧(∃dd,o'=o ++ dd∧∀t∈dd,∃j:Nat,t=(j:Int)∧Stop N j∧Sn s' j∧∃t:Nat,(t:Int)∈x.f_next∧Zcy N t j)∧
        (∀j,Sn s' j→¬Sn s j→Stop N j→(j:Int)∈o')∧(∀j,Sn s' j→¬Sn s j→∀y,Eps N j y→∀t∈y.f_next,∃q:Nat,t=(q:Int)∧Sn s' q)∧o'.length+s'.count false≤o.length+s.count false
  | 0,i,m+1,s,o,hi,hm,hs,hu,ho=>by
    refine ⟨o,s,?_,rfl,fun _ h=>h,fun t ht=>?_,fun j h=>.inl h,⟨[],by simp,fun t ht=>by cases ht⟩,fun j h h'=>absurd h h',fun j h h'=>absurd h h',Nat.le_refl _⟩
    · show Zfs _ _ _ _ _ _ _=_
      unfold Zfs
      rw [df (by omega)];rfl
    · rw [List.drop_eq_nil_of_le (by omega)] at ht;cases ht
  | d+1,i,m+1,s,o,hi,hm,hs,hu,ho=>by
    have hil:i<x.f_next.length:=by omega
    obtain ⟨j,ej,hj⟩:=hx _ (List.getElem_mem hil)
    obtain ⟨o1,s1,e1,C1⟩:=hR s o j hj hs hu ho
    have hz:=C1.size
    have hc:s1.count false≤s.count false:=by
      have:o1.length≥o.length:=by obtain ⟨dd,e,_⟩:=C1.out;rw [e];simp
      omega
    obtain ⟨o2,s2,e2,g1,g2,g3,g4,g5,g6,g7,g8⟩:=Zjc hM hx hR hn d (i+1) m s1 o1 (by omega) (by omega) (by rw [C1.len,hs]) (by omega) (by omega)
    have hmem:(j:Int)∈x.f_next:=by rw [←ej];exact List.getElem_mem hil
    refine ⟨o2,s2,?_,by rw [g1,C1.len],fun q h=>g2 q (C1.mono q h),fun t ht=>?_,fun q h=>?_,?_,fun q h h' hst=>?_,fun q h h' y hy t ht=>?_,by omega⟩
    · show Zfs _ _ _ _ _ _ _=_
      unfold Zfs
      rw [dt (by omega),Zdf hil]
      simp only [cond,zb_,ej,e1]
      rw [if_pos (by rw [C1.len]),Zv (by omega) (by omega)];exact e2
    · rw [List.drop_eq_getElem_cons hil] at ht
      rcases List.mem_cons.1 ht with rfl | ht
      · exact ⟨j,ej,g2 j C1.here⟩
      · exact g3 t ht
    · rcases g4 q h with h | h
      · rcases C1.new q h with h | h
        · exact .inl h
        · exact .inr ⟨j,hmem,h⟩
      · exact .inr h
    · obtain ⟨d1,f1,f2⟩:=C1.out
      obtain ⟨d2,f3,f4⟩:=g5
      refine ⟨d1 ++ d2,by rw [f3,f1,List.append_assoc],fun t ht=>?_⟩
      rcases List.mem_append.1 ht with ht | ht
      · obtain ⟨q,a,b,c,e⟩:=f2 t ht;exact ⟨q,a,b,g2 q c,j,hmem,e⟩
      · exact f4 t ht
    · by_cases hq:Sn s1 q
      · have:=C1.stop q hq h' hst
        obtain ⟨d2,f3,_⟩:=g5
        rw [f3];exact List.mem_append.2 (.inl this)
      · exact g6 q h hq hst
    · by_cases hq:Sn s1 q
      · obtain ⟨p,a,b⟩:=C1.eps q hq h' y hy t ht;exact ⟨p,a,g2 p b⟩
      · exact g7 q h hq y hy t ht
theorem Zic {N:List Zu} {fst:Int} (hM:Mach N):∀(k u:Nat) (s:List Bool) (o:List Int) (i:Nat),i<N.length→s.length=N.length→s.count false≤u→u+1002≤k→o.length+s.count false≤1073741823→
    ∃o' s',F79 k ⟨N,fst⟩ o s (i:Int)=some (o',s')∧ZjR N i s o s' o'
  | 0,u,s,o,i,hi,hs,hu,hk,ho=>by omega
  | k+1,u,s,o,i,hi,hs,hu,hk,ho=>by
    have hsi:i<s.length:=by omega
    have hnode:=List.getElem?_eq_getElem hi
    show ∃o' s',Zlf (F79 k) k ⟨N,fst⟩ o s (i:Int)=_∧_
    unfold Zlf
    rw [if_pos ⟨by omega,by omega⟩,Zdf hsi]
    simp only [zb_]
    cases hv:s[i] with
    | true=>
      refine ⟨o,s,rfl,rfl,fun _ h=>h,by unfold Sn;rw [List.getElem?_eq_getElem hsi,hv],fun j h=>.inl h,⟨[],by simp,fun t ht=>by cases ht⟩,fun j h h'=>absurd h h',fun j h h'=>absurd h h',Nat.le_refl _⟩
    | false=>
      have hcs:=Zj4 (s:=s) (i:=i) (by rw [List.getElem?_eq_getElem hsi,hv])
      simp only [cond]
      rw [if_pos ⟨by omega,by omega⟩,Zdf hi]
      simp only [zb_]
      unfold Zi3
      rw [Int.toNat_natCast]
      have hsn:∀j,Sn (s.set i true) j↔Sn s j∨j=i:=fun j=>Zrg hsi
      have hnot:¬Sn s i:=by unfold Sn;rw [List.getElem?_eq_getElem hsi,hv];intro h;cases h
      by_cases hst:N[i].f_some=true∨i=0
      ·
        have hfin:(match (!N[i].f_some) with
            | true=>match ((i:Int) != 0) with
              | true=>Zd5 (F79 k) ⟨N,fst⟩ N[i] k o (s.set i true) 0
              | false=>if o.length + [(i:Int)].length≤1073741824 then some (o ++ [(i:Int)],s.set i true) else none
            | false=>match false with
              | true=>Zd5 (F79 k) ⟨N,fst⟩ N[i] k o (s.set i true) 0
              | false=>if o.length + [(i:Int)].length≤1073741824 then some (o ++ [(i:Int)],s.set i true) else none)=some (o ++ [(i:Int)],s.set i true):=by
          have hle:o.length + [(i:Int)].length≤1073741824:=by simp;omega
          rcases hst with h | h
          · rw [h];simp only [Bool.not_true];rw [if_pos hle]
          · subst h
            have h00:(((0:Nat):Int) != 0)=false:=rfl
            cases N[0].f_some
            · simp only [Bool.not_false];rw [h00];simp only [];rw [if_pos hle]
            · simp only [Bool.not_true];rw [if_pos hle]
        refine ⟨o ++ [(i:Int)],s.set i true,hfin,by simp,fun j h=>(hsn j).2 (.inl h),(hsn i).2 (.inr rfl),fun j h=>?_,⟨[(i:Int)],rfl,fun t ht=>?_⟩,fun j h h' _=>?_,fun j h h' x hx=>?_,by simp;omega⟩
        · rcases (hsn j).1 h with h | rfl
          · exact .inl h
          · exact .inr (.refl _)
        · simp at ht;exact ⟨i,ht,⟨_,hnode,hst⟩,(hsn i).2 (.inr rfl),.refl _⟩
        · rcases (hsn j).1 h with h | rfl
          · exact absurd h h'
          · simp
        · rcases (hsn j).1 h with h | rfl
          · exact absurd h h'
          · rw [hx.1] at hnode;cases hnode
            rcases hst with h1 | h1
            · rw [hx.2.1] at h1;cases h1
            · exact absurd h1 hx.2.2
      ·
        have h1:N[i].f_some=false:=by cases h:N[i].f_some with | true=>exact absurd (.inl h) hst | false=>rfl
        have h2:i≠0:=fun h=>hst (.inr h)
        have hE:Eps N i N[i]:=⟨hnode,h1,h2⟩
        have hG:=hM.good i _ hnode
        have hnx:=hG.2.2.2.2.1
        obtain ⟨o',s',e,g1,g2,g3,g4,g5,g6,g7,g8⟩:=Zjc (R:=F79 k) (fst:=fst) (u:=u-1) hM hG.2.1 (fun s o q hq hs' hu' ho'=>Zic hM k (u-1) s o q hq hs' hu' (by omega) ho') (by omega)
          N[i].f_next.length 0 k (s.set i true) o (by omega) (by omega) (by simp [hs]) (by omega) (by omega)
        refine ⟨o',s',?_,by rw [g1];simp,fun j h=>g2 j ((hsn j).2 (.inl h)),g2 i ((hsn i).2 (.inr rfl)),fun j h=>?_,?_,fun j h h' hs2=>?_,fun j h h' x hx t ht=>?_,by omega⟩
        · rw [h1]
          have:((i:Int) != 0)=true:=by rw [bne_iff_ne];omega
          simp only [Bool.not_false];rw [this];exact e
        · rcases g4 j h with h | ⟨t,ht,hr⟩
          · rcases (hsn j).1 h with h | rfl
            · exact .inl h
            · exact .inr (.refl _)
          · exact .inr (.step hE ht hr)
        · obtain ⟨dd,f1,f2⟩:=g5
          exact ⟨dd,f1,fun t ht=>by obtain ⟨j,a,b,c,q,hq,hr⟩:=f2 t ht;exact ⟨j,a,b,c,.step hE hq hr⟩⟩
        · by_cases hq:Sn (s.set i true) j
          · rcases (hsn j).1 hq with hq | rfl
            · exact absurd hq h'
            · obtain ⟨x,hx,hx'⟩:=hs2
              rw [hnode] at hx;cases hx;exact absurd hx' hst
          · exact g6 j h hq hs2
        · by_cases hq:Sn (s.set i true) j
          · rcases (hsn j).1 hq with hq | rfl
            · exact absurd hq h'
            · rw [hx.1] at hnode;cases hnode
              exact g3 t (by rw [List.drop_zero];exact ht)
          · exact g7 j h hq x hx t ht
end Go.Proofs.YthilboheomikjaaGreatDoor
end
section
namespace Go.Proofs.YthilboheomikjaaGreatDoor
open Go.AL
set_option maxRecDepth 100000
def ZiI (k:Nat) (e:(List Int)→Int→Option Bool) (v1:List UInt8) (c:Zr) (b:List Int) (a:Int):Option Bool:=
  (cond (decide (a<(v1.length:Int))) ((F55 k v1 a).bind fun d=>(F56 k c b d.1).bind fun f=>(e f (w64 (a+d.2)))) ((F57 k c b).bind fun g=>(some g)))
def Zgo (k:Nat) (v1:List UInt8) (a:Zr):Nat→(List Int)→Int→Option Bool
  | 0,_,_=>none
  | d+1,b,c=>ZiI k (Zgo k v1 a d) v1 a b c
def Zgn (k:Nat) (v0:Zd) (v1:List UInt8) (b:Bool):Option Bool:=
  cond b ((some false)) ((F53 k v0).bind fun a=>(F54 k a).bind fun c=>((Zgo k v1 a k c 0)))
def F31 (k:Nat) (v0:Zd) (v1:List UInt8):Option Bool:=
  (F30 k v0).bind fun a=>cond (!a) ((Zgn k v0 v1 true)) ((F49 k v1).bind fun b=>(Zgn k v0 v1 (!b)))
theorem Zaw (k:Nat) (v0:Zd) (v1:List UInt8) (r:Bool) (a:F31 k v0 v1=some r):SM 31 [tv (Zc v0),one (.str v1)] [] (ob r) []:=by
 refine Zz [] Tryz.func31 rfl kr kr ?_
 show WA _ _ 42 _ _ _
 refine Ws [(0,.obj 102)] [(1,one (.str v1)),(2,pt 102)] [(102,bx (Zc v0))] ?_
 refine WA.seq ?_
 refine WA.join (fun w=>∃(p:Bool),J w [(1,one (.str v1)),(2,pt 102),(17,ob p)] [(102,bx (Zc v0))]∧Zgn k v0 v1 p=some r) ?_ ?_
 {
 rintro w ⟨p,v,a⟩
 refine Wj v ?_
 clear v
 refine WA.cond (b:=p) rfl (fun n=>?_) (fun n=>?_)
 {
 have a:=Zk a n
 refine Ws [] [(4,ob false)] [] ?_
 refine WA.ret ?_
 obtain rfl:=zj_ a
 exact Zq (ob false) [] kr kr kr kr nd rfl rfl }
 {
 have a:=Zj a n
 refine WA.skip ?_
 obtain ⟨c,y,a⟩:=Zh a
 refine Wos [(1,.callR [] (.val false [.vp (Zw c)]))] [(1,one (.str v1)),(5,.val false [.vp (Zw c)])] [] [SM 53 [tv (Zc v0)] [] (.val false [.vp (Zw c)]) [],([]:List Nat).Nodup] ⟨(ZqN k _ _ y),nd,trivial⟩ ?_
 obtain ⟨j,z,a⟩:=Zh a
 refine Wos [(1,.callR [] (one (.sl (j.map (eInt .i64)))))] [(1,one (.str v1)),(5,.val false [.vp (Zw c)]),(6,one (.sl (j.map (eInt .i64))))] [] [SM 54 [.val false [.vp (Zw c)]] [] (one (.sl (j.map (eInt .i64)))) [],([]:List Nat).Nodup] ⟨(ZqO k _ _ z),nd,trivial⟩ ?_
 refine WA.seq ?_
 refine Ws [] [(1,one (.str v1)),(5,.val false [.vp (Zw c)]),(6,one (.sl (j.map (eInt .i64)))),(7,oi 0)] [] ?_
 refine WA.block ?_
 refine WA.loop (fun m w=>∃(f:List Int) (d:Int),J w [(1,one (.str v1)),(5,.val false [.vp (Zw c)]),(6,one (.sl (f.map (eInt .i64)))),(7,oi d)] []∧Zgo k v1 c m f d=some r) k ⟨j,0,jk,a⟩ ?_
 clear a
 rintro m1 w ⟨f,d,v,a⟩
 refine Wj v ?_
 clear v
 cases m1 with
 | zero=>cases a
 | succ m1=>
  obtain ⟨a3,t⟩:∃g,g=Zgo k v1 c m1:=⟨_,rfl⟩
  have a:ZiI k a3 v1 c f d=some r:=by first | (rw [t];exact a) | exact a
  refine WA.seq ?_
  refine Ws [] [(1,one (.str v1)),(5,.val false [.vp (Zw c)]),(6,one (.sl (f.map (eInt .i64)))),(7,oi d),(25,ob (decide (d<(v1.length:Int))))] [] ?_
  refine WA.cond (b:=(decide (d<(v1.length:Int)))) rfl (fun o=>?_) (fun o=>?_)
  {
 have a:=Zk a o
 refine WA.skip ?_
 refine WA.block ?_
 obtain ⟨e,a0,a⟩:=Zh a
 refine Wos [(2,.callR [] (.tup [(false,[.pv (.int .i64 e.1)]),(false,[.pv (.int .i64 e.2)])]))] [(1,one (.str v1)),(5,.val false [.vp (Zw c)]),(6,one (.sl (f.map (eInt .i64)))),(7,oi d),(8,oi e.1),(9,oi e.2)] [] [SM 55 [one (.str v1),oi d] [] (.tup [(false,[.pv (.int .i64 e.1)]),(false,[.pv (.int .i64 e.2)])]) [],([]:List Nat).Nodup] ⟨(Zly k _ _ _ a0),nd,trivial⟩ ?_
 obtain ⟨l,a1,a⟩:=Zh a
 refine Wos [(3,.callR [] (one (.sl (l.map (eInt .i64)))))] [(1,one (.str v1)),(5,.val false [.vp (Zw c)]),(6,one (.sl (l.map (eInt .i64)))),(7,oi d),(9,oi e.2)] [] [SM 56 [.val false [.vp (Zw c)],one (.sl (f.map (eInt .i64))),oi e.1] [] (one (.sl (l.map (eInt .i64)))) [],([]:List Nat).Nodup] ⟨(ZqP k _ _ _ _ a1),nd,trivial⟩ ?_
 refine Wr [] [(1,one (.str v1)),(5,.val false [.vp (Zw c)]),(6,one (.sl (l.map (eInt .i64)))),(7,oi (w64 (d+e.2)))] [] ?_
 exact ⟨m1,zl_ _,l,(w64 (d+e.2)),jk,by rw [t] at a;exact a⟩ }
  {
 have a:=Zj a o
 refine WA.exit ?_
 obtain ⟨s,a2,a⟩:=Zh a
 refine Wos [(2,.callR [] (ob s))] [(4,ob s)] [] [SM 57 [.val false [.vp (Zw c)],one (.sl (f.map (eInt .i64)))] [] (ob s) [],([]:List Nat).Nodup] ⟨(ZqQ k _ _ _ a2),nd,trivial⟩ ?_
 refine WA.ret ?_
 obtain rfl:=zj_ a
 exact Zq (ob s) [] kr kr kr kr nd rfl rfl } } }
 {
 obtain ⟨h,u,a⟩:=Zh a
 rcases zo_ (!h) with i | i
 {
 have a:=Zk a i
 refine Wo [(1,.callR [] (ob h)),(3,.bool true)] [(1,one (.str v1)),(2,pt 102),(17,ob true)] [(102,bx (Zc v0))] [SM 30 [tv (Zc v0)] [] (ob h) [],([]:List Nat).Nodup,(!h)=true] ⟨(Zn1 k _ _ u),nd,i,trivial⟩ ?_
 exact ⟨true,jk,a⟩ }
 {
 have a:=Zj a i
 obtain ⟨q,x,a⟩:=Zh a
 refine Wo [(1,.callR [] (ob h)),(3,.bool false),(5,.callR [] (ob q))] [(1,one (.str v1)),(2,pt 102),(17,ob (!q))] [(102,bx (Zc v0))] [SM 30 [tv (Zc v0)] [] (ob h) [],([]:List Nat).Nodup,(!h)=false,SM 49 [one (.str v1)] [] (ob q) [],([]:List Nat).Nodup] ⟨(Zn1 k _ _ u),nd,i,(ZiV k _ _ x),nd,trivial⟩ ?_
 exact ⟨(!q),jk,a⟩ } }
end Go.Proofs.YthilboheomikjaaGreatDoor
end
section
namespace Go.Proofs.YthilboheomikjaaGreatDoor
open Go.AL Go.Lib
set_option maxRecDepth 100000
structure Zba (N:List Zu) (T:Nat→Prop) (s:List Bool) (o:List Int):Prop where
  len:s.length=N.length
  root:∀t,T t→Sn s t
  new:∀j,Sn s j→∃t,T t∧Zcy N t j
  out:∀t∈o,∃j:Nat,t=(j:Int)∧Stop N j∧∃r,T r∧Zcy N r j
  stop:∀j,Sn s j→Stop N j→(j:Int)∈o
  eps:∀j,Sn s j→∀x,Eps N j x→∀t∈x.f_next,∃q:Nat,t=(q:Int)∧Sn s q
  size:o.length+s.count false≤N.length
theorem ZjL (n j:Nat):¬Sn (List.replicate n false) j:=by
  unfold Sn
  rw [List.getElem?_replicate];split <;> simp
theorem Zba.nil (N:List Zu):Zba N (fun _=>False) (List.replicate N.length false) []:=
  ⟨by simp,fun _ h=>h.elim,fun j h=>absurd h (ZjL _ _),fun _ h=>by simp at h,fun j h=>absurd h (ZjL _ _),fun j h=>absurd h (ZjL _ _),by simp⟩
theorem Zba.close {N:List Zu} {T:Nat→Prop} {s s':List Bool} {o o':List Int} {i:Nat} (h:Zba N T s o) (c:ZjR N i s o s' o'):Zba N (fun t=>T t∨t=i) s' o':=by
  refine ⟨by rw [c.len,h.len],fun t ht=>?_,fun j hj=>?_,fun t ht=>?_,fun j hj hst=>?_,fun j hj x hx t ht=>?_,by have:=c.size;have:=h.size;omega⟩
  · rcases ht with ht | rfl
    · exact c.mono t (h.root t ht)
    · exact c.here
  · rcases c.new j hj with hj | hj
    · obtain ⟨t,a,b⟩:=h.new j hj;exact ⟨t,.inl a,b⟩
    · exact ⟨i,.inr rfl,hj⟩
  · obtain ⟨d,e,hd⟩:=c.out
    rw [e] at ht
    rcases List.mem_append.1 ht with ht | ht
    · obtain ⟨j,a,b,r,e,f⟩:=h.out t ht;exact ⟨j,a,b,r,.inl e,f⟩
    · obtain ⟨j,a,b,_,e⟩:=hd t ht;exact ⟨j,a,b,i,.inr rfl,e⟩
  · by_cases hs:Sn s j
    · obtain ⟨d,e,_⟩:=c.out
      rw [e];exact List.mem_append.2 (.inl (h.stop j hs hst))
    · exact c.stop j hj hs hst
  · by_cases hs:Sn s j
    · obtain ⟨q,a,b⟩:=h.eps j hs x hx t ht;exact ⟨q,a,c.mono q b⟩
    · exact c.eps j hj hs x hx t ht
theorem Zcy.acc {N:List Zu} {i j:Nat} (h:Zcy N i j) {n:Nat} {w:List Int} (ha:Acc N n j w):∃m,Acc N m i w:=by
  induction h with
  | refl i=>exact ⟨n,ha⟩
  | step hE ht _ ih=>obtain ⟨m,hm⟩:=ih ha;exact ⟨m+1,.eps hE.2.2 hE.1 hE.2.1 ht hm⟩
theorem ZkD {N:List Zu} {T:Nat→Prop} {s:List Bool} {o:List Int} (hM:Mach N) (h:Zba N T s o) (w:List Int):(∃t,T t∧∃n,Acc N n t w)↔∃j:Nat,(j:Int)∈o∧∃n,Acc N n j w:=by
  have key:∀(n j:Nat),Sn s j→Acc N n j w→∃q:Nat,(q:Int)∈o∧∃n,Acc N n q w:=by
    intro n
    induction n using Nat.strongRecOn with
    | ind n ih=>
      intro j hj ha
      rcases ha.inv with ⟨e,_⟩ | ⟨m,x,c,t,v,rfl,rfl,h1,h2,h3,h4,h5⟩ | ⟨m,x,t,rfl,h0,h1,h2,h3,h4⟩
      · subst e
        obtain ⟨x,hx,_⟩:=hM.zero
        exact ⟨0,h.stop 0 hj ⟨x,hx,.inr rfl⟩,n,ha⟩
      · exact ⟨j,h.stop j hj ⟨x,h1,.inl h2⟩,_,ha⟩
      · obtain ⟨q,e,hq⟩:=h.eps j hj x ⟨h1,h2,h0⟩ t h3
        have:t=q:=by omega
        subst this
        exact ih m (by omega) t hq h4
  constructor
  · rintro ⟨t,ht,n,ha⟩;exact key n t (h.root t ht) ha
  · rintro ⟨j,hj,n,ha⟩
    obtain ⟨j',e,_,r,hr,hre⟩:=h.out _ hj
    have:j=j':=by omega
    subst this
    exact ⟨r,hr,hre.acc ha⟩
def Zlg (N:List Zu) (l:List Int):Prop:=∀t∈l,∃j:Nat,t=(j:Int)∧Stop N j
theorem Stop.lt {N:List Zu} {j:Nat} (h:Stop N j):j<N.length:=by
  obtain ⟨x,hx,_⟩:=h;exact (List.getElem?_eq_some_iff.1 hx).1
theorem Zbo {N:List Zu} {T T':Nat→Prop} {s:List Bool} {o:List Int} (h:Zba N T s o) (e:∀t,T t↔T' t):Zba N T' s o:=
  ⟨h.len,fun t ht=>h.root t ((e t).2 ht),fun j hj=>by obtain ⟨t,a,b⟩:=h.new j hj;exact ⟨t,(e t).1 a,b⟩,fun t ht=>by obtain ⟨j,a,b,r,c,d⟩:=h.out t ht;exact ⟨j,a,b,r,(e r).1 c,d⟩,h.stop,h.eps,h.size⟩
theorem Zo8 {k:Nat} {N:List Zu} {f:Nat} (hM:Mach N) (hf:f<N.length) (hk:N.length+1002≤k):∃o s,F54 k ⟨N,f⟩=some o∧Zba N (fun t=>t=f) s o:=by
  have hb:=hM.big
  obtain ⟨o,s,e,c⟩:=Zic (fst:=f) hM k N.length (List.replicate N.length false) [] f hf (by simp) (by simp) hk (by simp;omega)
  refine ⟨o,s,?_,Zbo ((Zba.nil N).close c) (fun t=>⟨fun h=>h.elim (fun h=>h.elim) id,.inr⟩)⟩
  unfold F54
  rw [if_pos (by show (N.length:Int)≤_;omega)]
  show (F79 k ⟨N,f⟩ [] (List.replicate N.length false) (f:Int)).bind _=_
  rw [e];rfl
theorem Zkl {k:Nat} {N:List Zu} {fst:Int} {c:Int} {j:Nat} {x:Zu} (hM:Mach N) (hk:N.length+1002≤k) (hx:N[j]?=some x) {kont:List Int→List Bool→Int→Option (List Int)} {v215:Int} :
    ∀(d i m:Nat) (T:Nat→Prop) (s:List Bool) (o:List Int),i+d=x.f_set.length→d<m→Zba N T s o→
      ∃o' s',ZbR k kont ⟨N,fst⟩ c v215 (j:Int) x m o s (i:Int)=kont o' s' (w64 (v215+1))∧Zba N (fun t=>T t∨(inR (x.f_set.drop i) c∧x.f_next=[(t:Int)])) s' o'
  | 0,i,m+1,T,s,o,hi,hm,hF=>by
    refine ⟨o,s,?_,Zbo hF fun t=>⟨.inl,fun h=>h.elim id fun ⟨⟨r,hr,_⟩,_⟩=>by rw [List.drop_eq_nil_of_le (by omega)] at hr;cases hr⟩⟩
    show ZdN _ _ _ _ _ _ _ _ _ _ _=_
    unfold ZdN
    rw [df (by omega)];rfl
  | d+1,i,m+1,T,s,o,hi,hm,hF=>by
    have hil:i<x.f_set.length:=by omega
    have hb:=hM.big
    have hG:=hM.good j x hx
    show ∃o' s',ZdN _ _ _ _ _ _ _ _ _ _ _=_∧_
    unfold ZdN
    rw [dt (by omega),Zdf hil]
    simp only [cond,zb_]
    have hd:=List.drop_eq_getElem_cons hil
    by_cases hc:c≥x.f_set[i].f_Lo∧c≤x.f_set[i].f_Hi
    · rw [dt hc.1,dt hc.2]
      have hsome:x.f_some=true:=by
        cases h:x.f_some with
        | true=>rfl
        | false=>have:=hG.2.2.2.1 h;rw [this] at hil;simp at hil
      obtain ⟨t,ht⟩:=hG.2.2.1 hsome
      obtain ⟨q,rfl,hq⟩:=hG.2.1 t (by rw [ht];simp)
      have hfs:=hF.size
      obtain ⟨o1,s1,e1,c1⟩:=Zic (fst:=fst) hM k N.length s o q hq hF.len (by omega) hk (by omega)
      obtain ⟨o2,s2,e2,F2⟩:=Zkl (fst:=fst) (c:=c) hM hk hx (kont:=kont) (v215:=v215) d (i+1) m _ s1 o1 (by omega) (by omega) (hF.close c1)
      refine ⟨o2,s2,?_,Zbo F2 fun t=>?_⟩
      · simp only [Zck,cond]
        rw [Zy,hx]
        simp only [zb_,ht]
        rw [show idxL [(q:Int)] 0=some (q:Int) from rfl]
        simp only [zb_,e1]
        rw [if_pos c1.len]
        unfold Zfc
        rw [Zv (by have:=hG.2.2.2.2.2;omega) (by have:=hG.2.2.2.2.2;omega)];exact e2
      · rw [hd]
        constructor
        · rintro ((h | rfl) | ⟨⟨r,hr,h2⟩,h3⟩)
          · exact .inl h
          · exact .inr ⟨⟨_,List.mem_cons_self,hc⟩,ht⟩
          · exact .inr ⟨⟨r,List.mem_cons_of_mem _ hr,h2⟩,h3⟩
        · rintro (h | ⟨_,h3⟩)
          · exact .inl (.inl h)
          · rw [ht] at h3;simp at h3;exact .inl (.inr (by omega))
    · obtain ⟨o2,s2,e2,F2⟩:=Zkl (fst:=fst) (c:=c) hM hk hx (kont:=kont) (v215:=v215) d (i+1) m T s o (by omega) (by omega) hF
      refine ⟨o2,s2,?_,Zbo F2 fun t=>?_⟩
      · have:(match decide (c≥x.f_set[i].f_Lo) with
            | true=>Zck k (ZbR k kont ⟨N,fst⟩ c v215 (j:Int) x m) ⟨N,fst⟩ (j:Int) o s (i:Int) (decide (c≤x.f_set[i].f_Hi))
            | false=>Zck k (ZbR k kont ⟨N,fst⟩ c v215 (j:Int) x m) ⟨N,fst⟩ (j:Int) o s (i:Int) false)=Zck k (ZbR k kont ⟨N,fst⟩ c v215 (j:Int) x m) ⟨N,fst⟩ (j:Int) o s (i:Int) false:=by
          by_cases h1:c≥x.f_set[i].f_Lo
          · rw [dt h1,df (fun h2=>hc ⟨h1,h2⟩)]
          · rw [df h1]
        refine this.trans ?_
        simp only [Zck,Zfc,cond]
        rw [Zv (by have:=hG.2.2.2.2.2;omega) (by have:=hG.2.2.2.2.2;omega)];exact e2
      · rw [hd]
        constructor
        · rintro (h | ⟨⟨r,hr,h2⟩,h3⟩)
          · exact .inl h
          · exact .inr ⟨⟨r,List.mem_cons_of_mem _ hr,h2⟩,h3⟩
        · rintro (h | ⟨⟨r,hr,h2⟩,h3⟩)
          · exact .inl h
          · rcases List.mem_cons.1 hr with rfl | hr
            · exact absurd h2 hc
            · exact .inr ⟨⟨r,hr,h2⟩,h3⟩
def Zri (N:List Zu) (l:List Int) (c:Int) (t:Nat):Prop:=∃(j:Nat) (x:Zu),(j:Int)∈l∧N[j]?=some x∧inR x.f_set c∧x.f_next=[(t:Int)]
theorem Zmz {k:Nat} {N:List Zu} {fst:Int} {l:List Int} {c:Int} (hM:Mach N) (hk:N.length+1002≤k) (hl:Zlg N l) (hlk:l.length≤536870912) :
    ∀(d i m:Nat) (T:Nat→Prop) (s:List Bool) (o:List Int),i+d=l.length→d<m→Zba N T s o→
      ∃o' s',Zcl k ⟨N,fst⟩ l c m o s (i:Int)=some o'∧Zba N (fun t=>T t∨Zri N (l.drop i) c t) s' o'
  | 0,i,m+1,T,s,o,hi,hm,hF=>by
    refine ⟨o,s,?_,Zbo hF fun t=>⟨.inl,fun h=>h.elim id fun ⟨j,x,hj,_⟩=>by rw [List.drop_eq_nil_of_le (by omega)] at hj;cases hj⟩⟩
    show ZdM _ _ _ _ _ _ _ _=_
    unfold ZdM
    rw [df (by omega)];rfl
  | d+1,i,m+1,T,s,o,hi,hm,hF=>by
    have hil:i<l.length:=by omega
    obtain ⟨j,ej,hst⟩:=hl _ (List.getElem_mem hil)
    obtain ⟨x,hx,_⟩:=hst
    have hG:=hM.good j x hx
    obtain ⟨o1,s1,e1,F1⟩:=Zkl (fst:=fst) (c:=c) hM hk hx (kont:=Zcl k ⟨N,fst⟩ l c m) (v215:=(i:Int)) x.f_set.length 0 k T s o (by omega) (by have:=hG.2.2.2.2.2;omega) hF
    obtain ⟨o2,s2,e2,F2⟩:=Zmz hM hk hl hlk d (i+1) m _ s1 o1 (by omega) (by omega) F1
    refine ⟨o2,s2,?_,Zbo F2 fun t=>?_⟩
    · show ZdM _ _ _ _ _ _ _ _=_
      unfold ZdM
      rw [dt (by omega),Zdf hil]
      simp only [cond,zb_,ej]
      rw [Zy,hx]
      simp only [zb_]
      rw [show ZbR k (Zcl k ⟨N,fst⟩ l c m) ⟨N,fst⟩ c (i:Int) (j:Int) x k o s 0=_ from e1,Zv (by omega) (by omega)];exact e2
    · rw [List.drop_eq_getElem_cons hil,List.drop_zero,ej]
      constructor
      · rintro ((h | ⟨h1,h2⟩) | ⟨j',x',h1,h2⟩)
        · exact .inl h
        · exact .inr ⟨j,x,by simp,hx,h1,h2⟩
        · exact .inr ⟨j',x',List.mem_cons_of_mem _ h1,h2⟩
      · rintro (h | ⟨j',x',h1,h2,h3,h4⟩)
        · exact .inl (.inl h)
        · rcases List.mem_cons.1 h1 with h1 | h1
          · have:j'=j:=by omega
            subst this
            rw [hx] at h2;cases h2
            exact .inl (.inr ⟨h3,h4⟩)
          · exact .inr ⟨j',x',h1,h2,h3,h4⟩
theorem ZqE {k:Nat} {N:List Zu} {fst:Int} {l:List Int} {c:Int} (hM:Mach N) (hk:N.length+1002≤k) (hl:Zlg N l) (hlk:l.length<k) (hlb:l.length≤536870912) :
    ∃o,F56 k ⟨N,fst⟩ l c=some o∧Zlg N o∧o.length≤N.length∧∀w,(∃j:Nat,(j:Int)∈l∧∃n,Acc N n j (c :: w))↔∃j:Nat,(j:Int)∈o∧∃n,Acc N n j w:=by
  have hb:=hM.big
  obtain ⟨o,s,e,F⟩:=Zmz (fst:=fst) (c:=c) hM hk hl hlb l.length 0 k _ _ _ (by omega) hlk (Zba.nil N)
  refine ⟨o,?_,fun t ht=>by obtain ⟨j,a,b,_⟩:=F.out t ht;exact ⟨j,a,b⟩,by have:=F.size;omega,fun w=>?_⟩
  · unfold F56
    rw [if_pos ⟨by omega,by show (N.length:Int)≤_;omega⟩]
    show Zcl k ⟨N,fst⟩ l c k [] (List.replicate (Int.toNat (N.length:Int)) false) 0=_
    rw [Int.toNat_natCast];exact e
  · rw [←ZkD hM F w]
    constructor
    · rintro ⟨j,hj,n,ha⟩
      obtain ⟨j',ej,hst⟩:=hl _ hj
      have:j=j':=by omega
      subst this
      obtain ⟨y,hy,hy2⟩:=hst
      rcases ha.inv with ⟨_,e⟩ | ⟨m,x,c',t,v,rfl,e,h1,h2,h3,h4,h5⟩ | ⟨m,x,t,rfl,h0,h1,h2,h3,h4⟩
      · cases e
      · cases e
        exact ⟨t,.inr ⟨j,x,hj,h1,h3,h4⟩,m,h5⟩
      · rw [hy] at h1;cases h1
        rcases hy2 with h | h
        · rw [h] at h2;cases h2
        · exact absurd h h0
    · rintro ⟨t,h | ⟨j,x,hj,hx,hc,hn⟩,n,ha⟩
      · exact h.elim
      · have hG:=hM.good j x hx
        have hs:x.f_some=true:=by
          cases h:x.f_some with
          | true=>rfl
          | false=>obtain ⟨r,hr,_⟩:=hc;rw [hG.2.2.2.1 h] at hr;cases hr
        exact ⟨j,hj,n+1,.set hx hs hc hn ha⟩
theorem ZkC {l:List Int} (hl:l.length≤1073741824):∀(d i m:Nat),i+d=l.length→d<m→Zfe l m (i:Int)=some (decide ((0:Int)∈l.drop i))
  | 0,i,m+1,hi,hm=>by
    show Zfd _ _ _=_
    unfold Zfd
    rw [df (by omega),List.drop_eq_nil_of_le (by omega)];rfl
  | d+1,i,m+1,hi,hm=>by
    have hil:i<l.length:=by omega
    show Zfd _ _ _=_
    unfold Zfd
    rw [dt (by omega),Zdf hil]
    simp only [cond,zb_]
    rw [List.drop_eq_getElem_cons hil]
    by_cases h:l[i]=0
    · rw [Zlj h,h];simp
    · rw [Zli h]
      simp only []
      rw [Zv (by omega) (by omega),show (i:Int)+1=((i+1:Nat):Int) by omega,ZkC hl d (i+1) m (by omega) (by omega)]
      congr 1
      have:(0:Int)∈l[i] :: l.drop (i+1)↔(0:Int)∈l.drop (i+1):=⟨fun hh=>(List.mem_cons.1 hh).elim (fun e=>absurd e.symm h) id,List.mem_cons_of_mem _⟩
      exact decide_eq_decide.2 this.symm
theorem ZpC {N:List Zu} {j n:Nat} (h:Stop N j):Acc N n j []↔j=0:=by
  constructor
  · intro ha
    obtain ⟨y,hy,hy2⟩:=h
    rcases ha.inv with ⟨e,_⟩ | ⟨m,x,c',t,v,rfl,e,h1,h2,h3,h4,h5⟩ | ⟨m,x,t,rfl,h0,h1,h2,h3,h4⟩
    · exact e
    · cases e
    · rw [hy] at h1;cases h1
      rcases hy2 with h | h
      · rw [h] at h2;cases h2
      · exact h
  · rintro rfl;exact .fin _
theorem Zjq {k:Nat} {N:List Zu} {fst:Int} {s:List UInt8} (hM:Mach N) (hk:N.length+1002≤k) (hs:s.length≤4611686018427387904):∀(m i:Nat) (l:List Int),i≤s.length→s.length-i<m→validD (s.drop i)=true→Zlg N l→l.length≤N.length→
    ∃b,Zgo k s ⟨N,fst⟩ m l (i:Int)=some b∧(b=true↔∃j:Nat,(j:Int)∈l∧∃n,Acc N n j (pts (s.drop i)))
  | 0,i,l,_,h,_,_,_=>by omega
  | m+1,i,l,hi,h,hv,hl,hll=>by
    have hb:=hM.big
    show ∃b,ZiI _ _ _ _ _ _=_∧_
    unfold ZiI
    rcases Nat.lt_or_ge i s.length with hil | hil
    · have hne:s.drop i≠[]:=fun h=>by have:=congrArg List.length h;rw [List.length_drop] at this;simp at this;omega
      obtain ⟨hbad,hv'⟩:=ZjQ hne hv
      have hle:=decodeL_le _ hne
      rw [List.length_drop] at hle
      have hw:=decodeL_width (s.drop i)
      rw [dt (by omega),Zlx hil hs]
      simp only [cond,zb_,nxt,if_neg hbad]
      obtain ⟨o,e,ho,hol,hacc⟩:=ZqE (fst:=fst) (c:=((decodeL (s.drop i)).1:Int)) hM hk hl (by omega) (by omega)
      rw [e]
      simp only [zb_]
      rw [Zv (by omega) (by omega),show (i:Int)+((decodeL (s.drop i)).2:Nat)=((i+(decodeL (s.drop i)).2:Nat):Int) by omega]
      obtain ⟨b,hb1,hb2⟩:=Zjq (fst:=fst) hM hk hs m (i+(decodeL (s.drop i)).2) o (by omega) (by omega) (by rw [←List.drop_drop];exact hv') ho hol
      refine ⟨b,hb1,hb2.trans ?_⟩
      rw [Zis hne,←List.drop_drop]
      exact (hacc _).symm
    · have hd:s.drop i=[]:=List.drop_eq_nil_of_le hil
      rw [df (by omega),hd,Znk]
      simp only [cond]
      refine ⟨decide ((0:Int)∈l),?_,?_⟩
      · have:=ZkC (l:=l) (by omega) l.length 0 k (by omega) (by omega)
        unfold F57
        rw [show Zfe l k 0=_ from this,List.drop_zero];rfl
      · rw [decide_eq_true_iff]
        constructor
        · intro h;exact ⟨0,h,0,.fin _⟩
        · rintro ⟨j,hj,n,ha⟩
          obtain ⟨j',e,hst⟩:=hl _ hj
          have:j=j':=by omega
          subst this
          have:=(ZpC hst).1 ha
          subst this;exact hj
theorem ZnF {k:Nat} {r:Zd} (hk:k≤1048576) (hw:WF r) (hf:fu r≤k) (hc:cnt r≤268435456) :
    ∃(N:List Zu) (f:Nat),F53 k r=some ⟨N,f⟩∧Mach N∧f<N.length∧N.length≤1+cnt r∧∀w,(∃n,Acc N n f w)↔Lang r w:=by
  obtain ⟨N,f,e,A⟩:=Zob k r hk hw hf [⟨[],false,[],false⟩] 0 0 (by simp) (by simp) (by simp;omega)
  have hle:=A.le;have hct:=A.cnt
  simp only [List.length_cons,List.length_nil] at hle hct
  have h0:N[0]?=some ⟨[],false,[],false⟩:=by rw [A.old 0 (by simp)];rfl
  have hgood:∀(i:Nat) (x:Zu),N[i]?=some x→Good N.length x:=fun i x hx=>by
    cases i with
    | zero=>rw [h0] at hx;cases hx;exact ⟨rfl,(fun t h=>by cases h),(fun h=>by cases h),(fun _=>rfl),by simp,by simp⟩
    | succ i=>exact A.good (i+1) x (by simp) hx
  refine ⟨N,f,?_,⟨hgood,⟨_,h0,rfl,rfl⟩,by omega⟩,A.lt,by omega,fun w=>?_⟩
  · unfold F53
    rw [show F78 k ⟨[⟨[],false,[],false⟩],0⟩ r 0=_ from e]
    simp only [zb_]
    rw [if_pos]
    rw [List.all_eq_true]
    intro x hx
    obtain ⟨i,hi⟩:=List.mem_iff_getElem?.1 hx
    rw [(hgood i x hi).1];rfl
  · have ag:ZaQ [(⟨[],false,[],false⟩:Zu)].length N.length N N:=fun i _ _=>rfl
    constructor
    · rintro ⟨n,ha⟩
      obtain ⟨u,v,m,rfl,hu,_,hv⟩:=A.sound N ag n w ha
      have:v=[]:=by
        rcases hv.inv with ⟨_,e⟩ | ⟨m,x,c',t,v,rfl,e,h1,h2,h3,h4,h5⟩ | ⟨m,x,t,rfl,h0',_⟩
        · exact e
        · rw [h0] at h1;cases h1;cases h2
        · exact absurd rfl h0'
      subst this
      rw [List.append_nil];exact hu
    · intro h
      obtain ⟨n,hn⟩:=A.full N ag w [] 0 h (.fin _)
      rw [List.append_nil] at hn
      exact ⟨n,hn⟩
theorem Zpj {k:Nat} {r:Zd} {s:List UInt8} (hk:k≤1048576) (hw:WF r) (hf:fu r≤k) (hc:cnt r+1003≤k) (hs:s.length<k) (hm:F30 k r=some true) (hv:validD s=true) :
    ∃b,F31 k r s=some b∧(b=true↔Lang r (pts s)):=by
  obtain ⟨N,f,e1,hM,hfl,hN,hacc⟩:=ZnF (k:=k) hk hw hf (by omega)
  obtain ⟨o,ss,e2,F⟩:=Zo8 (k:=k) hM hfl (by omega)
  have hfs:=F.size
  obtain ⟨b,e3,hb⟩:=Zjq (k:=k) (fst:=f) (s:=s) hM (by omega) (by omega) k 0 o (Nat.zero_le _) (by omega) (by rw [List.drop_zero];exact hv) (fun t ht=>by obtain ⟨j,a,b,_⟩:=F.out t ht;exact ⟨j,a,b⟩) (by omega)
  refine ⟨b,?_,hb.trans ?_⟩
  · unfold F31
    rw [hm]
    simp only [zb_,Bool.not_true,cond,F49,F72]
    rw [if_pos (by omega)]
    simp only [zb_,hv,Bool.not_true,Zgn,cond,e1,e2]
    exact e3
  · rw [List.drop_zero,←ZkD hM F,←hacc]
    constructor
    · rintro ⟨t,rfl,h⟩;exact h
    · intro h;exact ⟨f,rfl,h⟩
theorem Zos {k:Nat} {r:Zd} {s:List UInt8} (hs:s.length≤9223372036854775807) {m:Bool} (hm:F30 k r=some m) (hv:validD s=false):F31 k r s=some false:=by
  unfold F31
  rw [hm]
  cases m
  · rfl
  · simp only [zb_,Bool.not_true,cond,F49,F72]
    rw [if_pos hs]
    simp only [zb_,hv];rfl
end Go.Proofs.YthilboheomikjaaGreatDoor
end
section
namespace Go.Proofs.YthilboheomikjaaGreatDoor
open Go.AL Go.Lib
set_option maxRecDepth 100000
theorem Zo6:((List.range 256).all fun y=>ZA .and .u8 (y:Int) 192 == ((y / 64*64:Nat):Int) && ZA .and .u8 (y:Int) 63 == ((y % 64:Nat):Int) && ZA .and .i64 (w64 (y:Int)) 31 == ((y % 32:Nat):Int) &&
    ZA .and .i64 (w64 (y:Int)) 15 == ((y % 16:Nat):Int) && ZA .and .i64 (w64 (y:Int)) 7 == ((y % 8:Nat):Int) && w64 (y:Int) == (y:Int) && w64 ((y % 64:Nat):Int) == ((y % 64:Nat):Int))=true:=by kernel_rfl
theorem ZlL {y:Nat} (h:y<256):ZA .and .u8 (y:Int) 192=((y / 64*64:Nat):Int)∧ZA .and .u8 (y:Int) 63=((y % 64:Nat):Int)∧ZA .and .i64 (w64 (y:Int)) 31=((y % 32:Nat):Int)∧
    ZA .and .i64 (w64 (y:Int)) 15=((y % 16:Nat):Int)∧ZA .and .i64 (w64 (y:Int)) 7=((y % 8:Nat):Int)∧w64 (y:Int)=(y:Int)∧w64 ((y % 64:Nat):Int)=((y % 64:Nat):Int):=by
  have:=List.all_eq_true.1 Zo6 y (List.mem_range.2 h)
  simp only [Bool.and_eq_true,beq_iff_eq] at this
  obtain ⟨⟨⟨⟨⟨⟨a,b⟩,c⟩,d⟩,e⟩,f⟩,g⟩:=this
  exact ⟨a,b,c,d,e,f,g⟩
theorem ZkB {s:List UInt8} {i j:Nat} (h:i+j<s.length):idxL s ((i:Int)+(j:Int))=some ((s.drop i).getD j 0):=by
  rw [show (i:Int)+(j:Int)=((i+j:Nat):Int) by omega,Zy]
  simp [List.getD,List.getElem?_drop,List.getElem?_eq_getElem h]
theorem Zlz (k:Nat) (c:Int):F67 k c=some (decide (ZI c)):=by
  unfold F67 Zfg ZI
  by_cases h1:c≥0 <;> by_cases h2:c≤1114111 <;> by_cases h3:c<55296 <;> by_cases h4:c > 57343 <;> simp [h1,h2,h3,h4] <;> omega
theorem ZdS {k:Nat} {s:List UInt8} {i size:Nat} {least:Int} {m:Nat} {c:Int} {j:Nat} (hj:j<size) (hs:size≤4) (hb:i+size≤s.length) (hc:0≤c) (hc2:c<1048576) (hl:s.length≤4611686018427387904) :
    Zc7 k s i size least (m+1) c j=if ((s.drop i).getD j 0).toNat / 64=2 then Zc7 k s i size least m (c*64+((((s.drop i).getD j 0).toNat % 64:Nat):Int)) ((j+1:Nat):Int) else some (-1,1):=by
  have hy:=ZbS (s.drop i) j
  obtain ⟨e1,e2,_,_,_,_,e7⟩:=ZlL hy
  show Ze7 _ _ _ _ _ _ _ _=_
  unfold Ze7
  rw [dt (by omega),Zv (x:=(i:Int)+(j:Int)) (by omega) (by omega),ZkB (by omega)]
  simp only [cond,zb_]
  generalize ((s.drop i).getD j 0).toNat=y at *
  rw [e1,e2,e7]
  by_cases h:y / 64=2
  · rw [if_pos h,h,show (((2*64:Nat):Int) != 128)=false from rfl]
    simp only []
    rw [Zv (x:=c*64) (by omega) (by omega),Zv (by omega) (by omega),Zv (by omega) (by omega)]
    rfl
  · have:(((y / 64*64:Nat):Int) != 128)=true:=by rw [bne_iff_ne];omega
    rw [this,if_neg h]
theorem Zl4 {k:Nat} {s:List UInt8} {i size:Nat} {least:Int} {m:Nat} {c:Int}:Zc7 k s i size least (m+1) c size=if c<least∨¬ZI c then some (-1,1) else some (c,(size:Int)):=by
  show Ze7 _ _ _ _ _ _ _ _=_
  unfold Ze7 ZiU
  rw [df (by omega)]
  simp only [cond,Zlz,zb_]
  by_cases h:c<least
  · rw [dt h,if_pos (.inl h)]
  · rw [df h]
    by_cases hp:ZI c
    · rw [dt hp,if_neg (by simp [h,hp])];rfl
    · rw [df hp,if_pos (.inr hp)];rfl
theorem nxtN (l:List UInt8):nxt l=if (decodeN l.length (l.getD 0 0).toNat (l.getD 1 0).toNat (l.getD 2 0).toNat (l.getD 3 0).toNat)=((65533,1):Nat×Nat) then ((-1,1):Int×Int) else
    (((decodeN l.length (l.getD 0 0).toNat (l.getD 1 0).toNat (l.getD 2 0).toNat (l.getD 3 0).toNat).1:Int),((decodeN l.length (l.getD 0 0).toNat (l.getD 1 0).toNat (l.getD 2 0).toNat (l.getD 3 0).toNat).2:Int)):=by
  unfold nxt
  rw [←decodeL_N]
  have:bad l↔decodeL l=(65533,1):=⟨fun ⟨a,b⟩=>Prod.ext a b,fun h=>⟨by rw [h],by rw [h]⟩⟩
  by_cases h:decodeL l=(65533,1)
  · rw [if_pos h,if_pos (this.2 h)]
  · rw [if_neg h,if_neg (fun q=>h (this.1 q))]
theorem Zii {k:Nat} {s:List UInt8} {i size:Nat} {c least:Int} (h:s.length<i+size) (hl:s.length≤4611686018427387904) (hi:i<s.length) (hsz:size≤4):Zbz k s i c size least=some (-1,1):=by
  unfold Zbz
  rw [Zv (by omega) (by omega),dt (by omega)];rfl
theorem Zj8 {k:Nat} {s:List UInt8} {i size:Nat} {c least:Int} (h:i+size≤s.length) (hl:s.length≤4611686018427387904):Zbz k s i c size least=Zc7 k s i size least k c 1:=by
  unfold Zbz
  rw [Zv (by omega) (by omega),df (by omega)];rfl
def fin (D:Int) (least:Int) (size:Int):Option (Int×Int):=if D<least∨¬ZI D then some (-1,1) else some (D,size)
theorem j4_2 {k:Nat} {s:List UInt8} {i:Nat} {c least:Int} (hc:0≤c) (hc2:c<32) (hl:s.length≤4611686018427387904) (hi:i<s.length) :
    Zbz (k+5) s i c 2 least=if 1<s.length-i∧((s.drop i).getD 1 0).toNat / 64=2 then fin (c*64+((((s.drop i).getD 1 0).toNat % 64:Nat):Int)) least 2 else some (-1,1):=by
  by_cases l1:i+2≤s.length
  · refine (Zj8 (size:=2) l1 hl).trans ((ZdS (size:=2) (j:=1) (m:=k+4) (by omega) (by omega) l1 hc (by omega) hl).trans ?_)
    by_cases c1:((s.drop i).getD 1 0).toNat / 64=2
    · rw [if_pos c1,if_pos ⟨by omega,c1⟩];exact Zl4
    · rw [if_neg c1,if_neg (fun h=>c1 h.2)]
  · rw [if_neg (fun h=>by omega)];exact Zii (size:=2) (by omega) hl hi (by omega)
theorem j4_3 {k:Nat} {s:List UInt8} {i:Nat} {c least:Int} (hc:0≤c) (hc2:c<32) (hl:s.length≤4611686018427387904) (hi:i<s.length) :
    Zbz (k+5) s i c 3 least=if (1<s.length-i∧((s.drop i).getD 1 0).toNat / 64=2)∧(2<s.length-i∧((s.drop i).getD 2 0).toNat / 64=2) then
      fin ((c*64+((((s.drop i).getD 1 0).toNat % 64:Nat):Int))*64+((((s.drop i).getD 2 0).toNat % 64:Nat):Int)) least 3 else some (-1,1):=by
  by_cases l1:i+3≤s.length
  · refine (Zj8 (size:=3) l1 hl).trans ((ZdS (size:=3) (j:=1) (m:=k+4) (by omega) (by omega) l1 hc (by omega) hl).trans ?_)
    by_cases c1:((s.drop i).getD 1 0).toNat / 64=2
    · rw [if_pos c1]
      refine (ZdS (size:=3) (j:=2) (m:=k+3) (by omega) (by omega) l1 (by omega) (by omega) hl).trans ?_
      by_cases c2:((s.drop i).getD 2 0).toNat / 64=2
      · rw [if_pos c2,if_pos ⟨⟨by omega,c1⟩,by omega,c2⟩];exact Zl4
      · rw [if_neg c2,if_neg (fun h=>c2 h.2.2)]
    · rw [if_neg c1,if_neg (fun h=>c1 h.1.2)]
  · rw [if_neg (fun h=>by omega)];exact Zii (size:=3) (by omega) hl hi (by omega)
theorem j4_4 {k:Nat} {s:List UInt8} {i:Nat} {c least:Int} (hc:0≤c) (hc2:c<16) (hl:s.length≤4611686018427387904) (hi:i<s.length) :
    Zbz (k+5) s i c 4 least=if (1<s.length-i∧((s.drop i).getD 1 0).toNat / 64=2)∧(2<s.length-i∧((s.drop i).getD 2 0).toNat / 64=2)∧(3<s.length-i∧((s.drop i).getD 3 0).toNat / 64=2) then
      fin (((c*64+((((s.drop i).getD 1 0).toNat % 64:Nat):Int))*64+((((s.drop i).getD 2 0).toNat % 64:Nat):Int))*64+((((s.drop i).getD 3 0).toNat % 64:Nat):Int)) least 4 else some (-1,1):=by
  by_cases l1:i+4≤s.length
  · refine (Zj8 (size:=4) l1 hl).trans ((ZdS (size:=4) (j:=1) (m:=k+4) (by omega) (by omega) l1 hc (by omega) hl).trans ?_)
    by_cases c1:((s.drop i).getD 1 0).toNat / 64=2
    · rw [if_pos c1]
      refine (ZdS (size:=4) (j:=2) (m:=k+3) (by omega) (by omega) l1 (by omega) (by omega) hl).trans ?_
      by_cases c2:((s.drop i).getD 2 0).toNat / 64=2
      · rw [if_pos c2]
        refine (ZdS (size:=4) (j:=3) (m:=k+2) (by omega) (by omega) l1 (by omega) (by omega) hl).trans ?_
        by_cases c3:((s.drop i).getD 3 0).toNat / 64=2
        · rw [if_pos c3,if_pos ⟨⟨by omega,c1⟩,⟨by omega,c2⟩,by omega,c3⟩];exact Zl4
        · rw [if_neg c3,if_neg (fun h=>c3 h.2.2.2)]
      · rw [if_neg c2,if_neg (fun h=>c2 h.2.1.2)]
    · rw [if_neg c1,if_neg (fun h=>c1 h.1.2)]
  · rw [if_neg (fun h=>by omega)];exact Zii (size:=4) (by omega) hl hi (by omega)
set_option maxHeartbeats 1000000 in
theorem ZiQ {k:Nat} {s:List UInt8} {i:Nat} (hk:5≤k) (hi:i<s.length) (hs:s.length≤4611686018427387904):F46 k s (i:Int)=some (nxt (s.drop i)):=by
  obtain ⟨k,rfl⟩:∃q,k=q+5:=⟨k-5,by omega⟩
  have h0:=ZbS (s.drop i) 0;have h1:=ZbS (s.drop i) 1;have h2:=ZbS (s.drop i) 2;have h3:=ZbS (s.drop i) 3
  obtain ⟨_,_,e3,e4,e5,e6,_⟩:=ZlL h0
  have hn:(s.drop i).length=s.length-i:=List.length_drop ..
  have d0:=ZkB (s:=s) (i:=i) (j:=0) (by omega)
  rw [show (i:Int)+((0:Nat):Int)=(i:Int) by omega] at d0
  rw [nxtN]
  unfold F46 Zgs
  rw [df (by omega),df (by omega)]
  simp only [cond]
  rw [d0]
  simp only [zb_]
  unfold ZiR ZiS ZiT
  rw [e3,e4,e5,e6,j4_2 (by omega) (by omega) hs hi,j4_3 (by omega) (by omega) hs hi,j4_4 (by omega) (by omega) hs hi]
  rw [hn]
  generalize ((s.drop i).getD 0 0).toNat=b0 at *
  generalize ((s.drop i).getD 1 0).toNat=b1 at *
  generalize ((s.drop i).getD 2 0).toNat=b2 at *
  generalize ((s.drop i).getD 3 0).toNat=b3 at *
  generalize s.length-i=n at *
  clear e3 e4 e5 e6 d0 hn
  have bad_:∀{x:Option (Int×Int)} {D:Nat×Nat},D=(65533,1)→x=some (-1,1)→x=some (if D=((65533,1):Nat×Nat) then ((-1,1):Int×Int) else ((D.1:Int),(D.2:Int))):=fun h h'=>by rw [h',if_pos h]
  have good_:∀{x:Option (Int×Int)} {D:Nat×Nat} {a b:Nat},D=(a,b)→b≠1→x=some ((a:Int),(b:Int))→x=some (if D=((65533,1):Nat×Nat) then ((-1,1):Int×Int) else ((D.1:Int),(D.2:Int))):=fun h hb h'=>by
    rw [h',h,if_neg (fun q=>hb (Prod.ext_iff.1 q).2)]
  by_cases g0:b0<128
  · rw [dt (show ((b0:Nat):Int)<128 by omega)]
    have u:decodeN n b0 b1 b2 b3=(b0,1):=by unfold decodeN;rw [if_pos g0]
    rw [u,if_neg (show ¬((b0,1):Nat×Nat)=(65533,1) from fun h=>by have:=(Prod.ext_iff.1 h).1;simp only [] at this;omega)];rfl
  rw [df (show ¬((b0:Nat):Int)<128 by omega)]
  by_cases g1:b0<192
  · rw [df (show ¬((b0:Nat):Int)≥192 by omega),df (show ¬((b0:Nat):Int)≥224 by omega),df (show ¬((b0:Nat):Int)≥240 by omega)]
    exact bad_ (decodeN_bad _ _ _ _ _ (.inl ⟨by omega,by omega⟩)) rfl
  rw [dt (show ((b0:Nat):Int)≥192 by omega)]
  by_cases g2:b0<224
  · rw [dt (show ((b0:Nat):Int)<224 by omega)]
    show (if _ then _ else _)=_
    by_cases c1:1<n∧b1 / 64=2
    · rw [if_pos c1]
      unfold fin
      by_cases c2:b0 % 32*64+b1 % 64≥128
      · refine good_ (a:=b0 % 32*64+b1 % 64) (b:=2) ?_ (by omega) ?_
        · unfold decodeN;rw [if_neg g0,if_pos ⟨by omega,c1⟩,if_pos c2]
        · rw [if_neg (by unfold ZI;omega)];rfl
      · refine bad_ ?_ ?_
        · unfold decodeN;rw [if_neg g0,if_pos ⟨by omega,c1⟩,if_neg c2]
        · rw [if_pos (.inl (by omega))]
    · rw [if_neg c1]
      refine bad_ ?_ rfl
      unfold decodeN;rw [if_neg g0,if_neg (fun h=>c1 h.2),if_neg (fun h=>by omega),if_neg (fun h=>by omega)]
  rw [df (show ¬((b0:Nat):Int)<224 by omega),dt (show ((b0:Nat):Int)≥224 by omega)]
  by_cases g3:b0<240
  · rw [dt (show ((b0:Nat):Int)<240 by omega)]
    show (if _ then _ else _)=_
    by_cases c1:(1<n∧b1 / 64=2)∧(2<n∧b2 / 64=2)
    · rw [if_pos c1]
      unfold fin
      by_cases c2:b0 % 16*4096+b1 % 64*64+b2 % 64≥2048∧(b0 % 16*4096+b1 % 64*64+b2 % 64<55296∨(57344≤b0 % 16*4096+b1 % 64*64+b2 % 64∧b0 % 16*4096+b1 % 64*64+b2 % 64≤1114111))
      · refine good_ (a:=b0 % 16*4096+b1 % 64*64+b2 % 64) (b:=3) ?_ (by omega) ?_
        · unfold decodeN;rw [if_neg g0,if_neg (fun h=>by omega),if_pos ⟨by omega,c1⟩,if_pos c2]
        · rw [if_neg (by unfold ZI;omega)];congr 2;omega
      · refine bad_ ?_ ?_
        · unfold decodeN;rw [if_neg g0,if_neg (fun h=>by omega),if_pos ⟨by omega,c1⟩,if_neg c2]
        · rw [if_pos (by unfold ZI;omega)]
    · rw [if_neg c1]
      refine bad_ ?_ rfl
      unfold decodeN;rw [if_neg g0,if_neg (fun h=>by omega),if_neg (fun h=>c1 h.2),if_neg (fun h=>by omega)]
  rw [df (show ¬((b0:Nat):Int)<240 by omega),dt (show ((b0:Nat):Int)≥240 by omega)]
  by_cases g4:b0<248
  · rw [dt (show ((b0:Nat):Int)<248 by omega)]
    show (if _ then _ else _)=_
    by_cases c1:(1<n∧b1 / 64=2)∧(2<n∧b2 / 64=2)∧(3<n∧b3 / 64=2)
    · rw [if_pos c1]
      unfold fin
      by_cases c2:b0 % 8*262144+b1 % 64*4096+b2 % 64*64+b3 % 64≥65536∧(b0 % 8*262144+b1 % 64*4096+b2 % 64*64+b3 % 64<55296∨(57344≤b0 % 8*262144+b1 % 64*4096+b2 % 64*64+b3 % 64∧b0 % 8*262144+b1 % 64*4096+b2 % 64*64+b3 % 64≤1114111))
      · refine good_ (a:=b0 % 8*262144+b1 % 64*4096+b2 % 64*64+b3 % 64) (b:=4) ?_ (by omega) ?_
        · unfold decodeN;rw [if_neg g0,if_neg (fun h=>by omega),if_neg (fun h=>by omega),if_pos ⟨by omega,c1⟩,if_pos c2]
        · rw [if_neg (by unfold ZI;omega)];congr 2;omega
      · refine bad_ ?_ ?_
        · unfold decodeN;rw [if_neg g0,if_neg (fun h=>by omega),if_neg (fun h=>by omega),if_pos ⟨by omega,c1⟩,if_neg c2]
        · rw [if_pos (by unfold ZI;omega)]
    · rw [if_neg c1]
      refine bad_ ?_ rfl
      unfold decodeN;rw [if_neg g0,if_neg (fun h=>by omega),if_neg (fun h=>by omega),if_neg (fun h=>c1 h.2)]
  · rw [df (show ¬((b0:Nat):Int)<248 by omega)]
    exact bad_ (decodeN_bad _ _ _ _ _ (.inr ⟨by omega,by omega⟩)) rfl
theorem Zlp {k:Nat} {s:List UInt8} (hk:5≤k) (hs:s.length≤4611686018427387904):∀(m i:Nat),i≤s.length→s.length-i<m→Zgk k s m (i:Int)=some (validD (s.drop i))
  | 0,i,_,h=>by omega
  | m+1,i,hi,h=>by
    show ZiD _ _ _ _=_
    unfold ZiD
    rcases Nat.lt_or_ge i s.length with hl | hl
    · have hne:s.drop i≠[]:=fun h=>by have:=congrArg List.length h;rw [List.length_drop] at this;simp at this;omega
      have hle:=decodeL_le _ hne
      rw [List.length_drop] at hle
      have hw:=decodeL_width (s.drop i)
      rw [dt (by omega),ZiQ hk hl hs]
      simp only [cond,zb_]
      unfold nxt
      by_cases hb:bad (s.drop i)
      · rw [if_pos hb,ZoQ hne hb];rfl
      · rw [if_neg hb,ZnT hne hb,df (by simp only [];omega)]
        (try dsimp only)
        rw [Zv (by omega) (by omega),show (i:Int)+((decodeL (s.drop i)).2:Nat)=((i+(decodeL (s.drop i)).2:Nat):Int) by omega,Zlp hk hs m _ (by omega) (by omega),List.drop_drop]
    · have:s.drop i=[]:=List.drop_eq_nil_of_le hl
      rw [df (by omega),this,validD_nil];rfl
theorem Zlo {k:Nat} {s:List UInt8} (hk:5≤k) (hk2:s.length<k) (hs:s.length≤4611686018427387904):F25 k s=some (validD s):=by
  unfold F25
  exact Zlp hk hs k 0 (Nat.zero_le _) (by omega)
end Go.Proofs.YthilboheomikjaaGreatDoor
end
section
namespace Go.Proofs.YthilboheomikjaaGreatDoor
open Go.AL Go.Lib
set_option maxRecDepth 100000
theorem Zc2 {α:Type} (a:α) (l:List α):idxL (a :: l) 0=some a:=rfl
theorem ZkK (m:Nat) (l acc:List Zb):Zcw l (m+1) acc (l.length:Int)=some acc:=by
  show Zdb _ _ _ _=_
  unfold Zdb
  rw [df (by omega)]
  rfl
theorem mx_l {a b:Int} (h:b≤a):mx a b=a:=by unfold mx;rw [if_neg (by omega)]
theorem mx_r {a b:Int} (h:a≤b):mx a b=b:=by unfold mx;split <;> omega
theorem mn_l {a b:Int} (h:a≤b):mn a b=a:=by unfold mn;rw [if_neg (by omega)]
def ptsR:List Zb:=[⟨0,55295⟩,⟨57344,1114111⟩]
theorem ZiX (k:Nat):F59 k=some ptsR:=rfl
end Go.Proofs.YthilboheomikjaaGreatDoor
end
section
namespace Go.Proofs.YthilboheomikjaaGreatDoor
open Go.AL Go.Lib
set_option maxRecDepth 100000
theorem ZO {α:Type} {y l:List α} {i:Nat} {r:α} (h:y.drop i=r :: l):i<y.length∧y[i]?=some r∧y.drop (i+1)=l:=by
  have h1:i<y.length:=by
    refine Nat.lt_of_not_le fun h2=>?_
    rw [List.drop_eq_nil_of_le h2] at h
    cases h
  rw [List.drop_eq_getElem_cons h1] at h
  injection h with h2 h3
  exact ⟨h1,by rw [List.getElem?_eq_getElem h1,h2],h3⟩
theorem ZV {α:Type} {y:List α} {i:Nat} (h:y.drop i=[]):y.length≤i:=List.drop_eq_nil_iff.1 h
theorem ZS {i:Nat} (h:i≤4611686018427387904):w64 ((i:Int)+1)=((i+1:Nat):Int):=by rw [Zv (by omega) (by omega)];omega
def mrg:Zb→List Zb→List Zb
  | p,[]=>[p]
  | p,r :: l=>if r.f_Lo≤w64 (p.f_Hi+1) then mrg { p with f_Hi:=mx p.f_Hi r.f_Hi } l else p :: mrg r l
def mrgs:List Zb→List Zb
  | []=>[]
  | r :: l=>mrg r l
theorem Zkb:∀(l:List Zb) (p:Zb),(mrg p l).length≤l.length+1
  | [],p=>Nat.le_refl _
  | r :: l,p=>by
    unfold mrg
    split
    · have:=Zkb l { p with f_Hi:=mx p.f_Hi r.f_Hi };rw [List.length_cons];omega
    · have:=Zkb l r;rw [List.length_cons,List.length_cons];omega
theorem Zin (l:List Zb):(mrgs l).length≤l.length:=by
  cases l with
  | nil=>exact Nat.le_refl _
  | cons r l=>exact Zkb l r
theorem Zf2 {y:List Zb} (hy:y.length≤1073741824):∀(l acc:List Zb) (p:Zb) (i m:Nat),y.drop i=l→acc.length+1+l.length≤1073741824→l.length<m→i≤y.length→
    Zcw y m (acc ++ [p]) (i:Int)=some (acc ++ mrg p l)
  | [],acc,p,i,m,hd,ha,hm,hi=>by
    obtain ⟨m,rfl⟩:∃q,m=q+1:=⟨m-1,by simp at hm;omega⟩
    have:=ZV hd
    rw [show (i:Int)=(y.length:Int) by omega]
    exact ZkK m y _
  | r :: l,acc,p,i,m,hd,ha,hm,hi=>by
    obtain ⟨m,rfl⟩:∃q,m=q+1:=⟨m-1,by omega⟩
    obtain ⟨h1,h2,h3⟩:=ZO hd
    rw [List.length_cons] at ha hm
    have hl:(acc ++ [p]).length=acc.length+1:=by simp
    have ew:w64 (((acc ++ [p]).length:Int)-1)=(acc.length:Int):=by rw [hl,Zv (by omega) (by omega)];omega
    have el:idxL (acc ++ [p]) (acc.length:Int)=some p:=by rw [Zy];simp
    show Zdb (Zcw y m) y _ _=_
    unfold Zdb
    rw [dt (by omega),zt_,Zy,h2,zb_,dt (by omega),zt_,ew,if_pos ⟨by omega,by omega⟩,el,zb_]
    unfold Zgz
    rw [ew]
    by_cases hc:r.f_Lo≤w64 (p.f_Hi+1)
    · rw [dt hc,zt_,if_pos ⟨by omega,by omega⟩,el,zb_,if_pos ⟨by omega,by omega⟩,zb_]
      unfold Zfn
      rw [ZS (by omega)]
      have es:(acc ++ [p]).set (Int.toNat (acc.length:Int)) { p with f_Hi:=mx p.f_Hi r.f_Hi } = acc ++ [{ p with f_Hi:=mx p.f_Hi r.f_Hi }]:=by
        rw [Int.toNat_natCast,List.set_append_right (h:=Nat.le_refl _),Nat.sub_self];rfl
      rw [es,Zf2 hy l acc _ (i+1) m h3 (by omega) (by omega) (by omega)]
      conv=>rhs;unfold mrg
      rw [if_pos hc]
    · rw [df hc,zf_,if_pos (by rw [hl];simp;omega)]
      unfold Zfn
      rw [ZS (by omega),Zf2 hy l (acc ++ [p]) r (i+1) m h3 (by rw [hl];omega) (by omega) (by omega)]
      conv=>rhs;unfold mrg
      rw [if_neg hc,List.append_assoc]
      rfl
theorem Zou {y:List Zb} {k:Nat} (hy:y.length≤1073741824) (hk:y.length<k):Zcw y k [] 0=some (mrgs y):=by
  cases y with
  | nil=>
    obtain ⟨m,rfl⟩:∃q,k=q+1:=⟨k-1,by omega⟩
    exact ZkK m [] []
  | cons r l=>
    obtain ⟨m,rfl⟩:∃q,k=q+1:=⟨k-1,by omega⟩
    rw [List.length_cons] at hy hk
    show Zdb (Zcw (r :: l) m) (r :: l) _ _=_
    unfold Zdb
    rw [dt (by simp),zt_,Zc2,zb_,df (by simp),zf_]
    unfold Zgz
    rw [zf_,if_pos (by simp)]
    unfold Zfn
    have e1:w64 ((0:Int)+1)=((1:Nat):Int):=by rw [Zv (by omega) (by omega)];rfl
    rw [e1]
    have:=Zf2 (y:=r :: l) (by rw [List.length_cons];exact hy) l [] r 1 m rfl (by simp;omega) (by omega) (by simp)
    rw [List.nil_append] at this ⊢
    exact this
theorem Zl9 {k:Nat} {l:List Zb} (hl:l.length≤536870912) (hk:2*l.length+8≤k) :
    ∃l',F77 k l=some (mrgs l')∧List.Perm l' l∧(Small l→ZP l' 0 l'.length):=by
  obtain ⟨l',e,p,s⟩:=ZqC (k:=k) (v:=l) (by omega) hk
  have hl':=p.length_eq
  refine ⟨l',?_,p,s⟩
  unfold F77
  have e1:F102 k l=some l:=by unfold F102;exact if_pos (by omega)
  rw [e1,zb_,e,zb_,if_pos hl',Zou (by omega) (by omega)]
def Z9:Int→List Zb→Prop
  | _,[]=>True
  | b,r :: l=>b≤r.f_Lo∧r.f_Lo≤r.f_Hi∧Z9 (r.f_Hi+2) l
theorem ZL {r:Zb} {l:List Zb} {c:Int}:inR (r :: l) c↔(r.f_Lo≤c∧c≤r.f_Hi)∨inR l c:=by
  unfold inR
  constructor
  · rintro ⟨x,hx,h⟩
    rcases List.mem_cons.1 hx with rfl | hx
    · exact .inl h
    · exact .inr ⟨x,hx,h⟩
  · rintro (h | ⟨x,hx,h⟩)
    · exact ⟨r,List.mem_cons_self,h⟩
    · exact ⟨x,List.mem_cons_of_mem _ hx,h⟩
theorem Zat {c:Int}:¬inR [] c:=by rintro ⟨x,hx,_⟩;cases hx
theorem Zl2 {l l':List Zb} (p:List.Perm l l') (c:Int):inR l c↔inR l' c:=
  ⟨fun ⟨x,hx,h⟩=>⟨x,p.mem_iff.1 hx,h⟩,fun ⟨x,hx,h⟩=>⟨x,p.mem_iff.2 hx,h⟩⟩
theorem Zjm {l l':List Zb} {c:Int}:inR (l ++ l') c↔inR l c∨inR l' c:=by
  unfold inR
  constructor
  · rintro ⟨x,hx,h⟩
    rcases List.mem_append.1 hx with hx | hx
    · exact .inl ⟨x,hx,h⟩
    · exact .inr ⟨x,hx,h⟩
  · rintro (⟨x,hx,h⟩ | ⟨x,hx,h⟩)
    · exact ⟨x,List.mem_append_left _ hx,h⟩
    · exact ⟨x,List.mem_append_right _ hx,h⟩
theorem Z9.ge:∀{l:List Zb} {b c:Int},Z9 b l→inR l c→b≤c
  | [],_,_,_,h=>absurd h Zat
  | r :: l,b,c,⟨h1,h2,h3⟩,h=>by
    rcases ZL.1 h with h | h
    · omega
    · have:=h3.ge h;omega
theorem Z9.mono {l:List Zb} {b c:Int} (h:Z9 b l) (hc:c≤b):Z9 c l:=by
  cases l with
  | nil=>trivial
  | cons r l=>exact ⟨by have:=h.1;omega,h.2⟩
theorem Zh7:∀{l l':List Zb} {b b':Int},Z9 b l→Z9 b' l'→(∀c,inR l c↔inR l' c)→l=l'
  | [],[],_,_,_,_,_=>rfl
  | [],r :: l',_,_,_,h,e=>absurd ((e r.f_Lo).2 (ZL.2 (.inl ⟨Int.le_refl _,h.2.1⟩))) Zat
  | r :: l,[],_,_,h,_,e=>absurd ((e r.f_Lo).1 (ZL.2 (.inl ⟨Int.le_refl _,h.2.1⟩))) Zat
  | r :: l,s :: l',b,b',⟨h1,h2,h3⟩,⟨g1,g2,g3⟩,e=>by
    have lo1:=ZL.1 ((e r.f_Lo).1 (ZL.2 (.inl ⟨Int.le_refl _,h2⟩)))
    have lo2:=ZL.1 ((e s.f_Lo).2 (ZL.2 (.inl ⟨Int.le_refl _,g2⟩)))
    have elo:r.f_Lo=s.f_Lo:=by
      have a1:s.f_Lo≤r.f_Lo:=lo1.elim (fun h=>by omega) (fun h=>by have:=g3.ge h;omega)
      have a2:r.f_Lo≤s.f_Lo:=lo2.elim (fun h=>by omega) (fun h=>by have:=h3.ge h;omega)
      omega
    have ehi:r.f_Hi=s.f_Hi:=by
      by_cases h4:r.f_Hi<s.f_Hi
      · rcases ZL.1 ((e (r.f_Hi+1)).2 (ZL.2 (.inl ⟨by omega,by omega⟩))) with h | h
        · omega
        · have:=h3.ge h;omega
      · by_cases h5:s.f_Hi<r.f_Hi
        · rcases ZL.1 ((e (s.f_Hi+1)).1 (ZL.2 (.inl ⟨by omega,by omega⟩))) with h | h
          · omega
          · have:=g3.ge h;omega
        · omega
    have:l=l':=Zh7 h3 g3 fun c=>by
      constructor
      · intro h
        have hc:=h3.ge h
        rcases ZL.1 ((e c).1 (ZL.2 (.inr h))) with h' | h'
        · omega
        · exact h'
      · intro h
        have hc:=g3.ge h
        rcases ZL.1 ((e c).2 (ZL.2 (.inr h))) with h' | h'
        · omega
        · exact h'
    subst this
    cases r;cases s
    simp only at elo ehi
    subst elo;subst ehi;rfl
def Bd (l:List Zb):Prop:=∀r∈l,0≤r.f_Lo∧r.f_Lo≤r.f_Hi∧r.f_Hi≤1114111
theorem Bd.small {l:List Zb} (h:Bd l):Small l:=fun r hr=>by have:=h r hr;omega
theorem Bd.perm {l l':List Zb} (h:Bd l) (p:List.Perm l' l):Bd l':=fun r hr=>h r (p.mem_iff.1 hr)
def Rise:List Zb→Prop
  | []=>True
  | r :: l=>(∀x∈l,r.f_Lo≤x.f_Lo)∧Rise l
theorem Zno:∀{l:List Zb},ZP l 0 l.length→Rise l
  | [],_=>trivial
  | r :: l,h=>⟨fun x hx=>by
      obtain ⟨i,hi,rfl⟩:=List.mem_iff_getElem.1 hx
      exact h 0 (i+1) r _ (Nat.zero_le _) (by omega) (by simp;omega) rfl (by rw [List.getElem?_cons_succ,List.getElem?_eq_getElem hi]),
    Zno fun p q x y _ hpq hq hx hy=>h (p+1) (q+1) x y (Nat.zero_le _) (by omega) (by simp;omega) (by rw [List.getElem?_cons_succ];exact hx) (by rw [List.getElem?_cons_succ];exact hy)⟩
theorem ZgX:∀(l:List Zb) (p:Zb),Rise (p :: l)→Bd (p :: l)→Z9 p.f_Lo (mrg p l)∧(∀c,inR (mrg p l) c↔inR (p :: l) c)∧Bd (mrg p l)
  | [],p,_,hb=>⟨⟨Int.le_refl _,(hb p List.mem_cons_self).2.1,trivial⟩,fun _=>Iff.rfl,hb⟩
  | r :: l,p,hr,hb=>by
    have hp:=hb p List.mem_cons_self
    have hrr:=hb r (List.mem_cons_of_mem _ List.mem_cons_self)
    have hpr:=hr.1 r List.mem_cons_self
    unfold mrg
    rw [Zv (x:=p.f_Hi+1) (by omega) (by omega)]
    by_cases hc:r.f_Lo≤p.f_Hi+1
    · rw [if_pos hc]
      have hm:p.f_Hi≤mx p.f_Hi r.f_Hi∧r.f_Hi≤mx p.f_Hi r.f_Hi∧(mx p.f_Hi r.f_Hi=p.f_Hi∨mx p.f_Hi r.f_Hi=r.f_Hi):=by unfold mx;split <;> omega
      obtain ⟨h1,h2,h3⟩:=ZgX l { p with f_Hi:=mx p.f_Hi r.f_Hi } ⟨fun x hx=>hr.1 x (List.mem_cons_of_mem _ hx),hr.2.2⟩ (fun x hx=>by
        rcases List.mem_cons.1 hx with rfl | hx
        · exact ⟨hp.1,by simp only;omega,by simp only;omega⟩
        · exact hb x (List.mem_cons_of_mem _ (List.mem_cons_of_mem _ hx)))
      refine ⟨h1,fun c=>(h2 c).trans ?_,h3⟩
      rw [ZL,ZL,ZL]
      simp only
      constructor
      · rintro (h | h)
        · by_cases h5:c≤p.f_Hi
          · exact .inl ⟨h.1,h5⟩
          · exact .inr (.inl ⟨by omega,by omega⟩)
        · exact .inr (.inr h)
      · rintro (h | h | h)
        · exact .inl ⟨h.1,by omega⟩
        · exact .inl ⟨by omega,by omega⟩
        · exact .inr h
    · rw [if_neg hc]
      obtain ⟨h1,h2,h3⟩:=ZgX l r hr.2 (fun x hx=>hb x (List.mem_cons_of_mem _ hx))
      refine ⟨⟨Int.le_refl _,hp.2.1,h1.mono (by omega)⟩,fun c=>?_,fun x hx=>?_⟩
      · rw [ZL,ZL,h2]
      · rcases List.mem_cons.1 hx with rfl | hx
        · exact hp
        · exact h3 x hx
theorem Zjs {l:List Zb} (hr:Rise l) (hb:Bd l):Z9 0 (mrgs l)∧(∀c,inR (mrgs l) c↔inR l c)∧Bd (mrgs l):=by
  cases l with
  | nil=>exact ⟨trivial,fun _=>Iff.rfl,hb⟩
  | cons p l=>
    obtain ⟨h1,h2,h3⟩:=ZgX l p hr hb
    exact ⟨h1.mono (hb p List.mem_cons_self).1,h2,h3⟩
theorem Zkc {k:Nat} {l:List Zb} (hl:l.length≤536870912) (hk:2*l.length+8≤k) (hb:Bd l) :
    ∃l',F77 k l=some l'∧Z9 0 l'∧(∀c,inR l' c↔inR l c)∧Bd l'∧l'.length≤l.length:=by
  obtain ⟨l',e,p,s⟩:=Zl9 hl hk
  obtain ⟨h1,h2,h3⟩:=Zjs (Zno (s hb.small)) (hb.perm p)
  exact ⟨_,e,h1,fun c=>(h2 c).trans (Zl2 p c),h3,by have:=Zin l';have:=p.length_eq;omega⟩
theorem ZkN {k:Nat} {l:List Zb} (hl:l.length≤536870912) (hk:2*l.length+8≤k) (hb:Bd l) (ha:Z9 0 l):F77 k l=some l:=by
  obtain ⟨l',e,h1,h2,_⟩:=Zkc hl hk hb
  rw [e,Zh7 h1 ha h2]
end Go.Proofs.YthilboheomikjaaGreatDoor
end
section
namespace Go.Proofs.YthilboheomikjaaGreatDoor
open Go.AL Go.Lib
set_option maxRecDepth 100000
def cutR (x y:Zb):List Zb:=if mx x.f_Lo y.f_Lo≤mn x.f_Hi y.f_Hi then [⟨mx x.f_Lo y.f_Lo,mn x.f_Hi y.f_Hi⟩] else []
def ZaC (a b:List Zb):List Zb:=a.flatMap fun x=>b.flatMap (cutR x)
theorem ZhK {a b c:Int}:mx a b≤c↔a≤c∧b≤c:=by unfold mx;split <;> omega
theorem Zjp {a b c:Int}:c≤mn a b↔c≤a∧c≤b:=by unfold mn;split <;> omega
theorem Zm5 {x y:Zb} {c:Int}:inR (cutR x y) c↔(x.f_Lo≤c∧c≤x.f_Hi)∧(y.f_Lo≤c∧c≤y.f_Hi):=by
  unfold cutR
  split
  · rw [ZL]
    simp only [ZhK,Zjp]
    constructor
    · rintro (h | h)
      · exact ⟨⟨h.1.1,h.2.1⟩,h.1.2,h.2.2⟩
      · exact absurd h Zat
    · rintro ⟨⟨h1,h2⟩,h3,h4⟩;exact .inl ⟨⟨h1,h3⟩,h2,h4⟩
  · rename_i h
    rw [ZhK,Zjp,Zjp] at h
    exact ⟨fun h=>absurd h Zat,fun ⟨⟨h1,h2⟩,h3,h4⟩=>absurd ⟨⟨by omega,by omega⟩,by omega,by omega⟩ h⟩
theorem ZlO (x y:Zb):(cutR x y).length≤1:=by unfold cutR;split <;> simp
theorem ZeC {α:Type} {l:List α} {f:α→List Zb} {c:Int}:inR (l.flatMap f) c↔∃x∈l,inR (f x) c:=by
  induction l with
  | nil=>exact ⟨fun h=>absurd h Zat,fun ⟨_,h,_⟩=>by cases h⟩
  | cons x l ih=>
    rw [List.flatMap_cons,Zjm,ih]
    constructor
    · rintro (h | ⟨y,hy,h⟩)
      · exact ⟨x,List.mem_cons_self,h⟩
      · exact ⟨y,List.mem_cons_of_mem _ hy,h⟩
    · rintro ⟨y,hy,h⟩
      rcases List.mem_cons.1 hy with rfl | hy
      · exact .inl h
      · exact .inr ⟨y,hy,h⟩
theorem Zmr {a b:List Zb} {c:Int}:inR (ZaC a b) c↔inR a c∧inR b c:=by
  unfold ZaC
  rw [ZeC]
  constructor
  · rintro ⟨x,hx,h⟩
    obtain ⟨y,hy,h⟩:=ZeC.1 h
    obtain ⟨h1,h2⟩:=Zm5.1 h
    exact ⟨⟨x,hx,h1⟩,y,hy,h2⟩
  · rintro ⟨⟨x,hx,h1⟩,y,hy,h2⟩
    exact ⟨x,hx,ZeC.2 ⟨y,hy,Zm5.2 ⟨h1,h2⟩⟩⟩
theorem ZhN (x:Zb):∀b:List Zb,(b.flatMap (cutR x)).length≤b.length
  | []=>Nat.le_refl _
  | y :: b=>by
    rw [List.flatMap_cons,List.length_append,List.length_cons]
    have:=ZhN x b;have:=ZlO x y;omega
theorem Zg4 (b:List Zb):∀a:List Zb,(ZaC a b).length≤a.length*b.length
  | []=>Nat.zero_le _
  | x :: a=>by
    have h1:=Zg4 b a
    have h2:=ZhN x b
    unfold ZaC at h1 ⊢
    rw [List.flatMap_cons,List.length_append,List.length_cons,Nat.add_mul]
    omega
theorem Zil {self8:List Zb→Int→Option (List Zb)} {v1:List Zb} {v158:Int} {x:Zb} (h1:v1.length≤1000):∀(l acc:List Zb) (j m:Nat),v1.drop j=l→acc.length+l.length≤1073741824→l.length<m→j≤v1.length→
    ZcQ self8 v1 v158 x m acc (j:Int)=self8 (acc ++ l.flatMap (cutR x)) (w64 (v158+1))
  | [],acc,j,m,hd,ha,hm,hj=>by
    obtain ⟨m,rfl⟩:∃q,m=q+1:=⟨m-1,by simp at hm;omega⟩
    have:=ZV hd
    show ZdO _ _ _ _ _ _ _=_
    unfold ZdO
    rw [df (by omega),zf_,List.flatMap_nil,List.append_nil]
  | y :: l,acc,j,m,hd,ha,hm,hj=>by
    obtain ⟨m,rfl⟩:∃q,m=q+1:=⟨m-1,by omega⟩
    obtain ⟨g1,g2,g3⟩:=ZO hd
    rw [List.length_cons] at ha hm
    show ZdO self8 (ZcQ self8 v1 v158 x m) v1 v158 x acc (j:Int)=_
    unfold ZdO
    rw [dt (by omega),zt_,Zy,g2,zb_,List.flatMap_cons]
    unfold ZhD
    rw [ZS (by omega)]
    have hc0:=ZlO x y
    by_cases hc:mx x.f_Lo y.f_Lo≤mn x.f_Hi y.f_Hi
    · have ec:cutR x y=[⟨mx x.f_Lo y.f_Lo,mn x.f_Hi y.f_Hi⟩]:=if_pos hc
      rw [dt hc,zt_,if_pos (by simp;omega),Zil h1 l _ (j+1) m g3 (by simp;omega) (by omega) (by omega),ec,List.append_assoc]
    · have ec:cutR x y=[]:=if_neg hc
      rw [df hc,zf_,Zil h1 l _ (j+1) m g3 (by omega) (by omega) (by omega),ec,List.nil_append]
theorem ZkJ {k:Nat} {v0 v1:List Zb} (h1:v1.length≤1000) (hk:v1.length<k) (h0:v0.length≤1073741824):∀(l acc:List Zb) (i m:Nat),v0.drop i=l→acc.length+l.length*v1.length≤1073741824→l.length<m→i≤v0.length→
    Zcv k v0 v1 m acc (i:Int)=F77 k (acc ++ ZaC l v1)
  | [],acc,i,m,hd,ha,hm,hi=>by
    obtain ⟨m,rfl⟩:∃q,m=q+1:=⟨m-1,by simp at hm;omega⟩
    have:=ZV hd
    show Zfm _ _ _ _ _ _=_
    unfold Zfm
    rw [df (by omega),zf_]
    show _=F77 k (acc ++ [])
    rw [List.append_nil]
    cases F77 k acc <;> rfl
  | x :: l,acc,i,m,hd,ha,hm,hi=>by
    obtain ⟨m,rfl⟩:∃q,m=q+1:=⟨m-1,by omega⟩
    obtain ⟨g1,g2,g3⟩:=ZO hd
    rw [List.length_cons] at ha hm
    rw [Nat.add_mul,Nat.one_mul] at ha
    have hrl:=ZhN x v1
    show Zfm k (Zcv k v0 v1 m) v0 v1 acc (i:Int)=_
    unfold Zfm
    rw [dt (by omega),zt_,Zy,g2,zb_]
    have e:=Zil (self8:=Zcv k v0 v1 m) (v158:=(i:Int)) (x:=x) h1 v1 acc 0 k rfl (by omega) hk (Nat.zero_le _)
    have e':ZcQ (Zcv k v0 v1 m) v1 (i:Int) x k acc 0=Zcv k v0 v1 m (acc ++ v1.flatMap (cutR x)) (w64 ((i:Int)+1)):=e
    rw [e',ZS (by omega),ZkJ h1 hk h0 l _ (i+1) m g3 (by rw [List.length_append];omega) (by omega) (by omega),List.append_assoc]
    rfl
theorem ZoG {c:Int}:inR ptsR c↔ZI c:=by
  unfold ptsR ZI
  rw [ZL,ZL]
  constructor
  · rintro (h | h | h)
    · simp only at h;omega
    · simp only at h;omega
    · exact absurd h Zat
  · intro h
    simp only
    omega
def Zb8 (l:List Zb):Prop:=Z9 0 l∧∀c,inR l c→ZI c
theorem Zia {l l':List Zb} (h:Zb8 l) (h':Zb8 l') (e:∀c,inR l c↔inR l' c):l=l':=Zh7 h.1 h'.1 e
theorem Zkr:∀{l:List Zb} {b:Int},Z9 b l→∀r∈l,b≤r.f_Lo∧r.f_Lo≤r.f_Hi
  | [],_,_,_,h=>by cases h
  | x :: l,b,⟨h1,h2,h3⟩,r,h=>by
    rcases List.mem_cons.1 h with rfl | h
    · exact ⟨h1,h2⟩
    · have:=Zkr h3 r h;exact ⟨by omega,this.2⟩
theorem Zb8.bd {l:List Zb} (h:Zb8 l):Bd l:=fun r hr=>by
  have h1:=Zkr h.1 r hr
  have h2:=h.2 r.f_Hi ⟨r,hr,h1.2,Int.le_refl _⟩
  exact ⟨h1.1,h1.2,h2.2.1⟩
theorem Zpz {a:List Zb}:Bd (ZaC a ptsR):=fun r hr=>by
  unfold ZaC at hr
  obtain ⟨x,hx,hr⟩:=List.mem_flatMap.1 hr
  obtain ⟨y,hy,hr⟩:=List.mem_flatMap.1 hr
  unfold cutR at hr
  split at hr
  · rename_i h
    obtain rfl:=List.mem_singleton.1 hr
    have h2:=ZhK.1 (Int.le_refl (mx x.f_Lo y.f_Lo))
    have h3:=Zjp.1 (Int.le_refl (mn x.f_Hi y.f_Hi))
    have h4:0≤y.f_Lo∧y.f_Hi≤1114111:=by
      unfold ptsR at hy
      simp only [List.mem_cons,List.not_mem_nil,or_false] at hy
      rcases hy with rfl | rfl <;> simp
    simp only
    exact ⟨by omega,h,by omega⟩
  · cases hr
theorem Zka {k:Nat} {a:List Zb} (ha:a.length≤1000000) (hk:4*a.length+8≤k):∃l',F76 k a ptsR=some l'∧Zb8 l'∧(∀c,inR l' c↔inR a c∧ZI c)∧l'.length≤2*a.length:=by
  have hl:=Zg4 ptsR a
  have h2:ptsR.length=2:=rfl
  rw [h2] at hl
  have e:F76 k a ptsR=F77 k ([] ++ ZaC a ptsR):=ZkJ (k:=k) (v0:=a) (v1:=ptsR) (by rw [h2];omega) (by rw [h2];omega) (by omega) a [] 0 k rfl (by rw [h2];simp;omega) (by omega) (Nat.zero_le _)
  obtain ⟨l',e1,a1,i1,b1,n1⟩:=Zkc (k:=k) (l:=ZaC a ptsR) (by omega) (by omega) Zpz
  rw [List.nil_append,e1] at e
  have ei:∀c,inR l' c↔inR a c∧ZI c:=fun c=>by rw [i1,Zmr,ZoG]
  exact ⟨l',e,⟨a1,fun c hc=>((ei c).1 hc).2⟩,ei,by omega⟩
def comp:Int→List Zb→List Zb
  | b,[]=>if b≤1114111 then [⟨b,1114111⟩] else []
  | b,r :: l=>(if r.f_Lo > b then [⟨b,r.f_Lo-1⟩] else []) ++ comp (r.f_Hi+1) l
theorem Zie:∀(l:List Zb) (b:Int),(comp b l).length≤l.length+1
  | [],b=>by unfold comp;split <;> simp
  | r :: l,b=>by
    unfold comp
    have:=Zie l (r.f_Hi+1)
    rw [List.length_append,List.length_cons]
    split <;> simp <;> omega
theorem Zj3:∀(l:List Zb) (b:Int),Z9 b l→Bd l→∀c,inR (comp b l) c↔b≤c∧c≤1114111∧¬inR l c
  | [],b,_,_,c=>by
    unfold comp
    split
    · rw [ZL]
      exact ⟨fun h=>h.elim (fun h=>⟨h.1,h.2,Zat⟩) (fun h=>absurd h Zat),fun h=>.inl ⟨h.1,h.2.1⟩⟩
    · exact ⟨fun h=>absurd h Zat,fun h=>by omega⟩
  | r :: l,b,⟨h1,h2,h3⟩,hb,c=>by
    unfold comp
    have hr:=hb r List.mem_cons_self
    rw [Zjm,Zj3 l (r.f_Hi+1) (h3.mono (by omega)) (fun x hx=>hb x (List.mem_cons_of_mem _ hx)),ZL]
    have hc1:inR (if r.f_Lo > b then [⟨b,r.f_Lo-1⟩] else []) c↔b≤c∧c≤r.f_Lo-1:=by
      split
      · rw [ZL];exact ⟨fun h=>h.elim id (fun h=>absurd h Zat),.inl⟩
      · exact ⟨fun h=>absurd h Zat,fun h=>by omega⟩
    rw [hc1]
    constructor
    · rintro (⟨g1,g2⟩ | ⟨g1,g2,g3⟩)
      · exact ⟨g1,by omega,fun h=>h.elim (fun h=>by omega) (fun h=>by have:=h3.ge h;omega)⟩
      · exact ⟨by omega,g2,fun h=>h.elim (fun h=>by omega) g3⟩
    · rintro ⟨g1,g2,g3⟩
      by_cases g4:c<r.f_Lo
      · exact .inl ⟨g1,by omega⟩
      · exact .inr ⟨by have:=mt Or.inl g3;omega,g2,fun h=>g3 (.inr h)⟩
theorem Ziq {k:Nat} {y:List Zb} (hy:y.length≤1000000) (hb:Bd y):∀(l acc:List Zb) (b:Int) (i m:Nat),y.drop i=l→acc.length+l.length+1≤1073741824→l.length<m→i≤y.length→0≤b→b≤1114112→
    Zdp k y m acc b (i:Int)=F76 k (acc ++ comp b l) ptsR
  | [],acc,b,i,m,hd,ha,hm,hi,h0,h1=>by
    obtain ⟨m,rfl⟩:∃q,m=q+1:=⟨m-1,by simp at hm;omega⟩
    have:=ZV hd
    have fin:∀a,ZeI k a=F76 k a ptsR:=fun a=>by
      unfold ZeI
      rw [ZiX,zb_]
      cases F76 k a ptsR <;> rfl
    show Zdo _ _ _ _ _ _=_
    unfold Zdo
    rw [df (by omega),zf_]
    unfold comp
    by_cases hc:b≤1114111
    · rw [dt hc,zt_,if_pos (by simp at ha ⊢;omega),fin,if_pos hc]
    · rw [df hc,zf_,fin,if_neg hc,List.append_nil]
  | r :: l,acc,b,i,m,hd,ha,hm,hi,h0,h1=>by
    obtain ⟨m,rfl⟩:∃q,m=q+1:=⟨m-1,by omega⟩
    obtain ⟨g1,g2,g3⟩:=ZO hd
    rw [List.length_cons] at ha hm
    have hr:=hb r (List.mem_of_getElem? g2)
    show Zdo k (Zdp k y m) y acc b (i:Int)=_
    unfold Zdo
    rw [dt (by omega),zt_,Zy,g2,zb_]
    unfold Zhc
    rw [ZS (by omega),Zv (x:=r.f_Hi+1) (by omega) (by omega),Zv (x:=r.f_Lo-1) (by omega) (by omega)]
    conv=>rhs;unfold comp
    by_cases hc:r.f_Lo > b
    · rw [dt hc,zt_,if_pos (by simp;omega),Ziq hy hb l _ _ (i+1) m g3 (by simp;omega) (by omega) (by omega) (by omega) (by omega),if_pos hc,List.append_assoc]
    · rw [df hc,zf_,Ziq hy hb l _ _ (i+1) m g3 (by omega) (by omega) (by omega) (by omega) (by omega),if_neg hc,List.nil_append]
theorem Zq9 {k:Nat} {l:List Zb} (hl:l.length≤100000) (hk:4*l.length+20≤k) (hb:Bd l) (ha:Z9 0 l):∃l',F109 k l=some l'∧Zb8 l'∧(∀c,inR l' c↔ZI c∧¬inR l c)∧l'.length≤2*l.length+2:=by
  have hc:=Zie l 0
  have e:F109 k l=F76 k ([] ++ comp 0 l) ptsR:=by
    unfold F109
    rw [ZkN (by omega) (by omega) hb ha,zb_]
    exact Ziq (k:=k) (by omega) hb l [] 0 0 k rfl (by simp;omega) (by omega) (Nat.zero_le _) (by omega) (by omega)
  obtain ⟨l',e1,c1,i1,n1⟩:=Zka (k:=k) (a:=comp 0 l) (by omega) (by omega)
  rw [List.nil_append,e1] at e
  refine ⟨l',e,c1,fun c=>?_,by omega⟩
  rw [i1,Zj3 l 0 ha hb]
  exact ⟨fun h=>⟨h.2,h.1.2.2⟩,fun h=>⟨⟨h.1.1,h.1.2.1,h.2⟩,h.1⟩⟩
theorem Zjg {a b:List Zb} (ha:a.length≤1073741824) (hab:b.length=a.length):∀(l l':List Zb) (i m:Nat),a.drop i=l→b.drop i=l'→l.length<m→i≤a.length→∃t,Zfl a b m (i:Int)=some t∧(t=true↔l=l')
  | [],l',i,m,hd,hd',hm,hi=>by
    obtain ⟨m,rfl⟩:∃q,m=q+1:=⟨m-1,by simp at hm;omega⟩
    have:=ZV hd
    show ∃t,Zfk _ _ _ _=_∧_
    unfold Zfk
    rw [df (by omega)]
    refine ⟨true,rfl,fun _=>?_,fun _=>rfl⟩
    rw [←hd',List.drop_eq_nil_of_le (by omega)]
  | x :: l,[],i,m,hd,hd',hm,hi=>by
    have:=(ZO hd).1
    have:=ZV hd'
    omega
  | x :: l,y :: l',i,m,hd,hd',hm,hi=>by
    obtain ⟨m,rfl⟩:∃q,m=q+1:=⟨m-1,by omega⟩
    obtain ⟨g1,g2,g3⟩:=ZO hd
    obtain ⟨f1,f2,f3⟩:=ZO hd'
    rw [List.length_cons] at hm
    show ∃t,Zfk (Zfl a b m) a b (i:Int)=_∧_
    unfold Zfk
    rw [dt (by omega),zt_,Zy,g2,zb_,Zy,f2,zb_,ZS (by omega)]
    obtain ⟨t,e,ht⟩:=Zjg ha hab l l' (i+1) m g3 f3 (by omega) (by omega)
    by_cases h1:x.f_Lo=y.f_Lo
    · by_cases h2:x.f_Hi=y.f_Hi
      · have exy:x=y:=by cases x;cases y;simp only at h1 h2;subst h1;subst h2;rfl
        subst exy
        rw [ZX rfl,ZX rfl,e]
        exact ⟨t,rfl,ht.trans ⟨fun h=>by rw [h],fun h=>by injection h⟩⟩
      · rw [ZX h1,ZE h2]
        exact ⟨false,rfl,by simp,fun h=>absurd (by injection h with h _;rw [h]) h2⟩
    · rw [ZE h1]
      exact ⟨false,rfl,by simp,fun h=>absurd (by injection h with h _;rw [h]) h1⟩
theorem Zpf {k:Nat} {a b:List Zb} (ha:a.length≤1073741824) (hk:a.length<k):∃t,F75 k a b=some t∧(t=true↔a=b):=by
  unfold F75
  by_cases h:a.length=b.length
  · rw [show ((a.length:Int) != (b.length:Int))=false by simp [h],zf_]
    exact Zjg ha h.symm a b 0 k rfl rfl hk (Nat.zero_le _)
  · rw [show ((a.length:Int) != (b.length:Int))=true by simp;omega,zt_]
    exact ⟨false,rfl,by simp,fun e=>absurd (by rw [e]) h⟩
end Go.Proofs.YthilboheomikjaaGreatDoor
end
section
namespace Go.Proofs.YthilboheomikjaaGreatDoor
open Go.AL
set_option maxRecDepth 100000
def Zc4 (a:Int):Option Int:=
  (some (mn (w64 (a+1)) 1000))
def ZeU (R20:Zd→Option Int) (c:Int→Int→Option Int) (v0:Zd) (b:Int) (a:Int):Option Int:=
  (cond (decide (a<(v0.f_L.length:Int))) ((idxL v0.f_L a).bind fun d=>(R20 d).bind fun e=>(c (w64 (b+e)) (w64 (a+1)))) ((Zc4 b)))
def Zd1 (R20:Zd→Option Int) (v0:Zd):Nat→Int→Int→Option Int
  | 0,_,_=>none
  | c+1,a,b=>ZeU R20 (Zd1 R20 v0 c) v0 a b
def Zgi (R20:Zd→Option Int) (v0:Zd) (a:Int):Option Int:=
  (idxL v0.f_L 0).bind fun b=>(R20 b).bind fun c=>(Zc4 (w64 (c*(mn (mx a 1) 1000))))
def ZiB (R20:Zd→Option Int) (k:Nat) (v0:Zd) (a:Bool):Option Int:=
  cond a ((Zd1 R20 v0 k 0 0)) ((cond (v0.f_Kind == 4) ((cond (decide ((v0.f_L.length:Int) > 0)) (((cond (decide (v0.f_Max<0)) ((Zgi R20 v0 (w64 (v0.f_Min+1)))) ((Zgi R20 v0 v0.f_Max))))) ((Zc4 0)))) ((Zc4 0))))
def Zk8 (R20:Zd→Option Int) (k:Nat) (v0:Zd):Option Int:=
  ((((cond (v0.f_Kind == 1) ((some 1)) ((cond (v0.f_Kind == 2) ((ZiB R20 k v0 (v0.f_Kind == 2))) ((ZiB R20 k v0 (v0.f_Kind == 3)))))))))
theorem ZoS (R20:Zd→Option Int) (IH20:∀(v0:Zd) (r:Int),R20 v0=some r→SM 20 [tv (Zc v0)] [] (oi r) []) (k:Nat) (v0:Zd) (r:Int) (a:Zk8 R20 k v0=some r):SM 20 [tv (Zc v0)] [] (oi r) []:=by
 refine Zz [] Tryz.func20 rfl kr kr ?_
 show WA _ _ 53 _ _ _
 refine Ws [(0,.obj 101)] [(1,pt 101)] [(101,bx (Zc v0))] ?_
 refine Ws [] [(1,pt 101),(3,oi 0)] [(101,bx (Zc v0))] ?_
 refine WA.join (fun f=>∃(i:Int),J f [(3,oi i)] []∧Zc4 i=some r) ?_ ?_
 {
 rintro f ⟨i,e,a⟩
 refine Wj e ?_
 clear e
 refine Ws [] [(2,oi (mn (w64 (i+1)) 1000))] [] ?_
 refine WA.ret ?_
 obtain rfl:=zj_ a
 exact Zq (oi (mn (w64 (i+1)) 1000)) [] kr kr kr kr nd rfl rfl }
 {
 refine Ws [] [(1,pt 101),(3,oi 0),(7,oi v0.f_Kind)] [(101,bx (Zc v0))] ?_
 refine WA.block ?_
 refine Ws [] [(1,pt 101),(3,oi 0),(7,oi v0.f_Kind),(8,ob (v0.f_Kind == 1))] [(101,bx (Zc v0))] ?_
 refine WA.cond (b:=(v0.f_Kind == 1)) rfl (fun l=>?_) (fun l=>?_)
 {
 have a:=Zk a l
 refine Ws [] [(2,oi 1)] [] ?_
 refine WA.ret ?_
 obtain rfl:=zj_ a
 exact Zq (oi 1) [] kr kr kr kr nd rfl rfl }
 {
 have a:=Zj a l
 refine WA.join (fun f=>∃(u:Bool),J f [(1,pt 101),(3,oi 0),(7,oi v0.f_Kind),(10,ob u)] [(101,bx (Zc v0))]∧ZiB R20 k v0 u=some r) ?_ ?_
 {
 rintro f ⟨u,e,a⟩
 refine Wj e ?_
 clear e
 refine WA.cond (b:=u) rfl (fun o=>?_) (fun o=>?_)
 {
 have a:=Zk a o
 refine Ws [] [(1,pt 101),(3,oi 0),(4,oi 0)] [(101,bx (Zc v0))] ?_
 refine WA.block ?_
 refine WA.loop (fun m f=>∃(d:Int) (c:Int),J f [(1,pt 101),(3,oi d),(4,oi c)] [(101,bx (Zc v0))]∧Zd1 R20 v0 m d c=some r) k ⟨0,0,jk,a⟩ ?_
 clear a
 rintro m1 f ⟨d,c,e,a⟩
 refine Wj e ?_
 clear e
 cases m1 with
 | zero=>cases a
 | succ m1=>
  obtain ⟨a3,w⟩:∃g,g=Zd1 R20 v0 m1:=⟨_,rfl⟩
  have a:ZeU R20 a3 v0 d c=some r:=by first | (rw [w];exact a) | exact a
  refine WA.seq ?_
  refine WA.seq ?_
  refine Wm ((Zm v0.f_L).length:Int) (v0.f_L.length:Int) (fun m_=>([(1,pt 101),(3,oi d),(4,oi c),(17,ob (decide (c<m_)))],[(101,bx (Zc v0))],[])) ((by first | (simp only [zl,Zi];done) | (simp only [zl,Zi];omega) | omega)) [] trivial ?_
  refine WA.cond (b:=(decide (c<(v0.f_L.length:Int)))) rfl (fun p=>?_) (fun p=>?_)
  {
 have a:=Zk a p
 refine WA.skip ?_
 refine WA.seq ?_
 refine WA.block ?_
 obtain ⟨x,z,a⟩:=Zh a
 obtain ⟨j,a0,a⟩:=Zh a
 refine Wo [(4,.cells (Zc x)),(6,.callR [] (oi j))] [(1,pt 101),(3,oi (w64 (d+j))),(4,oi c)] [(101,bx (Zc v0))] [idxL (Zm v0.f_L) c=some (Zc x),SM 20 [tv (Zc x)] [] (oi j) [],([]:List Nat).Nodup] ⟨(ZR z),(IH20 _ _ a0),nd,trivial⟩ ?_
 refine Wr [] [(1,pt 101),(3,oi (w64 (d+j))),(4,oi (w64 (c+1)))] [(101,bx (Zc v0))] ?_
 exact ⟨m1,zl_ _,(w64 (d+j)),(w64 (c+1)),jk,by rw [w] at a;exact a⟩ }
  {
 have a:=Zj a p
 refine WA.exit ?_
 exact ⟨d,jk,a⟩ } }
 {
 have a:=Zj a o
 refine Ws [] [(1,pt 101),(3,oi 0),(28,ob (v0.f_Kind == 4))] [(101,bx (Zc v0))] ?_
 refine WA.cond (b:=(v0.f_Kind == 4)) rfl (fun q=>?_) (fun q=>?_)
 {
 have a:=Zk a q
 refine WA.seq ?_
 refine Wm ((Zm v0.f_L).length:Int) (v0.f_L.length:Int) (fun m_=>([(1,pt 101),(3,oi 0),(33,ob (decide (m_ > 0)))],[(101,bx (Zc v0))],[])) ((by first | (simp only [zl,Zi];done) | (simp only [zl,Zi];omega) | omega)) [] trivial ?_
 refine WA.cond (b:=(decide ((v0.f_L.length:Int) > 0))) rfl (fun s=>?_) (fun s=>?_)
 {
 have a:=Zk a s
 refine Ws [] [(1,pt 101),(5,oi v0.f_Max)] [(101,bx (Zc v0))] ?_
 refine WA.join (fun f=>∃(h:Int),J f [(1,pt 101),(5,oi h)] [(101,bx (Zc v0))]∧Zgi R20 v0 h=some r) ?_ ?_
 {
 rintro f ⟨h,e,a⟩
 refine Wj e ?_
 clear e
 obtain ⟨y,a1,a⟩:=Zh a
 obtain ⟨v,a2,a⟩:=Zh a
 refine Wo [(2,.cells (Zc y)),(4,.callR [] (oi v))] [(3,oi (w64 (v*(mn (mx h 1) 1000))))] [] [idxL (Zm v0.f_L) 0=some (Zc y),SM 20 [tv (Zc y)] [] (oi v) [],([]:List Nat).Nodup] ⟨(ZR a1),(IH20 _ _ a2),nd,trivial⟩ ?_
 exact ⟨(w64 (v*(mn (mx h 1) 1000))),jk,a⟩ }
 {
 refine Ws [] [(1,pt 101),(5,oi v0.f_Max),(37,ob (decide (v0.f_Max<0)))] [(101,bx (Zc v0))] ?_
 refine WA.cond (b:=(decide (v0.f_Max<0))) rfl (fun t=>?_) (fun t=>?_)
 {
 have a:=Zk a t
 refine Wr [] [(1,pt 101),(5,oi (w64 (v0.f_Min+1)))] [(101,bx (Zc v0))] ?_
 exact ⟨(w64 (v0.f_Min+1)),jk,a⟩ }
 {
 have a:=Zj a t
 refine WA.skip ?_
 exact ⟨v0.f_Max,jk,a⟩ } } }
 {
 have a:=Zj a s
 refine WA.skip ?_
 exact ⟨0,jk,a⟩ } }
 {
 have a:=Zj a q
 refine WA.skip ?_
 exact ⟨0,jk,a⟩ } } }
 {
 refine Ws [] [(1,pt 101),(3,oi 0),(7,oi v0.f_Kind),(10,ob (v0.f_Kind == 2))] [(101,bx (Zc v0))] ?_
 refine WA.cond (b:=(v0.f_Kind == 2)) rfl (fun n=>?_) (fun n=>?_)
 {
 have a:=Zk a n
 refine WA.skip ?_
 exact ⟨(v0.f_Kind == 2),jk,a⟩ }
 {
 have a:=Zj a n
 refine Wr [] [(1,pt 101),(3,oi 0),(7,oi v0.f_Kind),(10,ob (v0.f_Kind == 3))] [(101,bx (Zc v0))] ?_
 exact ⟨(v0.f_Kind == 3),jk,a⟩ } } } }
def F20:Nat→Zd→Option Int
  | 0,_=>none
  | k+1,v0=>Zk8 (F20 k) k v0
theorem ZiC:∀(k:Nat),∀(v0:Zd) (r:Int),F20 k v0=some r→SM 20 [tv (Zc v0)] [] (oi r) []
  | 0=>fun _ _ a=>by cases a
  | k+1=>fun v0 r a=>ZoS (F20 k) (ZiC k) k v0 r a
def ZeY (R43:Zd→Option Bool) (b:Int→Option Bool) (v0:Zd) (a:Int):Option Bool:=
  (cond (decide (a<(v0.f_L.length:Int))) ((idxL v0.f_L a).bind fun c=>(R43 c).bind fun d=>(cond (!d) ((some false)) ((b (w64 (a+1)))))) (((some true))))
def ZeZ (R43:Zd→Option Bool) (v0:Zd):Nat→Int→Option Bool
  | 0,_=>none
  | b+1,a=>ZeY R43 (ZeZ R43 v0 b) v0 a
def Zgq (R43:Zd→Option Bool) (k:Nat) (v0:Zd):Option Bool:=
  (ZeZ R43 v0 k 0)
def Zc6 (R43:Zd→Option Bool) (k:Nat) (v0:Zd) (a:Bool):Option Bool:=
  cond a ((some false)) ((Zgq R43 k v0))
def ZbZ (a:Int→Option Bool) (b:Int) (c:Bool):Option Bool:=
  cond c ((some false)) ((a (w64 (b+1))))
def ZeX (k:Nat) (b:Int→Option Bool) (v0:Zd) (a:Int):Option Bool:=
  (cond (decide (a<(v0.f_Set.length:Int))) ((idxL v0.f_Set a).bind fun c=>(F67 k c.f_Lo).bind fun d=>cond (!d) ((ZbZ b a true)) ((F67 k c.f_Hi).bind fun e=>cond (!e) ((ZbZ b a true)) (cond (decide (c.f_Lo > c.f_Hi)) ((ZbZ b a true)) (cond (decide (c.f_Lo<55296)) (cond (decide (c.f_Hi > 57343)) ((ZbZ b a true)) (cond (decide (a > 0)) ((idxL v0.f_Set (w64 (a-1))).bind fun f=>(ZbZ b a (decide (c.f_Lo≤(w64 (f.f_Hi+1)))))) ((ZbZ b a false)))) (cond (decide (a > 0)) ((idxL v0.f_Set (w64 (a-1))).bind fun g=>(ZbZ b a (decide (c.f_Lo≤(w64 (g.f_Hi+1)))))) ((ZbZ b a false))))))) (((some ((v0.f_L.length:Int) == 0)))))
def Zcq (k:Nat) (v0:Zd):Nat→Int→Option Bool
  | 0,_=>none
  | b+1,a=>ZeX k (Zcq k v0 b) v0 a
def Zbh (R43:Zd→Option Bool) (k:Nat) (v0:Zd) (a:Bool):Option Bool:=
  cond a ((some false)) (((((cond (v0.f_Kind == 1) ((Zcq k v0 k 0)) ((cond (v0.f_Kind == 2) ((cond ((v0.f_L.length:Int) == 1) ((some false)) ((Zgq R43 k v0)))) ((cond (v0.f_Kind == 3) ((cond (decide ((v0.f_L.length:Int)<2)) ((some false)) ((Zgq R43 k v0)))) ((cond (v0.f_Kind == 4) (cond ((v0.f_L.length:Int) != 1) ((Zc6 R43 k v0 true)) (cond (decide (v0.f_Min<0)) ((Zc6 R43 k v0 true)) (cond (decide (v0.f_Min > 20)) ((Zc6 R43 k v0 true)) (cond (v0.f_Max != (-1)) (cond (decide (v0.f_Max<v0.f_Min)) ((Zc6 R43 k v0 true)) ((Zc6 R43 k v0 (decide (v0.f_Max > 20))))) ((Zc6 R43 k v0 false)))))) ((some false)))))))))))))
def Zlb (R43:Zd→Option Bool) (k:Nat) (v0:Zd):Option Bool:=
  (cond (v0.f_Kind != 1) (cond (decide ((v0.f_Set.length:Int) > 0)) ((Zbh R43 k v0 true)) (cond (v0.f_Kind != 4) (cond (v0.f_Min != 0) ((Zbh R43 k v0 true)) ((Zbh R43 k v0 (v0.f_Max != 0)))) ((Zbh R43 k v0 false)))) (cond (v0.f_Kind != 4) (cond (v0.f_Min != 0) ((Zbh R43 k v0 true)) ((Zbh R43 k v0 (v0.f_Max != 0)))) ((Zbh R43 k v0 false))))
theorem ZoV (R43:Zd→Option Bool) (IH43:∀(v0:Zd) (r:Bool),R43 v0=some r→SM 43 [tv (Zc v0)] [] (ob r) []) (k:Nat) (v0:Zd) (r:Bool) (a:Zlb R43 k v0=some r):SM 43 [tv (Zc v0)] [] (ob r) []:=by
 refine Zz [] Tryz.func43 rfl kr kr ?_
 show WA _ _ 147 _ _ _
 refine Ws [(0,.obj 101)] [(1,pt 101)] [(101,bx (Zc v0))] ?_
 refine WA.seq ?_
 refine WA.join (fun x=>∃(c0:Bool),J x [(1,pt 101),(30,ob c0)] [(101,bx (Zc v0))]∧Zbh R43 k v0 c0=some r) ?_ ?_
 {
 rintro x ⟨c0,w,a⟩
 refine Wj w ?_
 clear w
 refine WA.cond (b:=c0) rfl (fun a8=>?_) (fun a8=>?_)
 {
 have a:=Zk a a8
 refine Ws [] [(2,ob false)] [] ?_
 refine WA.ret ?_
 obtain rfl:=zj_ a
 exact Zq (ob false) [] kr kr kr kr nd rfl rfl }
 {
 have a:=Zj a a8
 refine WA.skip ?_
 refine WA.seq ?_
 refine Wm ((Zm v0.f_L).length:Int) (v0.f_L.length:Int) (fun m_=>([(1,pt 101),(3,oi m_)],[(101,bx (Zc v0))],[])) ((by first | (simp only [zl,Zi];done) | (simp only [zl,Zi];omega) | omega)) [] trivial ?_
 refine WA.join (fun x=>J x [(1,pt 101),(3,oi (v0.f_L.length:Int))] [(101,bx (Zc v0))]∧Zgq R43 k v0=some r) ?_ ?_
 {
 rintro x ⟨w,a⟩
 refine Wj w ?_
 clear w
 refine WA.seq ?_
 refine Ws [] [(1,pt 101),(3,oi (v0.f_L.length:Int)),(6,oi 0)] [(101,bx (Zc v0))] ?_
 refine WA.block ?_
 refine WA.loop (fun m x=>∃(o:Int),J x [(1,pt 101),(3,oi (v0.f_L.length:Int)),(6,oi o)] [(101,bx (Zc v0))]∧ZeZ R43 v0 m o=some r) k ⟨0,jk,a⟩ ?_
 clear a
 rintro m7 x ⟨o,w,a⟩
 refine Wj w ?_
 clear w
 cases m7 with
 | zero=>cases a
 | succ m7=>
  obtain ⟨d5,c7⟩:∃g,g=ZeZ R43 v0 m7:=⟨_,rfl⟩
  have a:ZeY R43 d5 v0 o=some r:=by first | (rw [c7];exact a) | exact a
  refine WA.seq ?_
  refine Ws [] [(1,pt 101),(3,oi (v0.f_L.length:Int)),(6,oi o),(137,ob (decide (o<(v0.f_L.length:Int))))] [(101,bx (Zc v0))] ?_
  refine WA.cond (b:=(decide (o<(v0.f_L.length:Int)))) rfl (fun b8=>?_) (fun b8=>?_)
  {
 have a:=Zk a b8
 refine WA.skip ?_
 refine WA.seq ?_
 refine WA.block ?_
 obtain ⟨c8,d3,a⟩:=Zh a
 obtain ⟨c5,d4,a⟩:=Zh a
 refine Wos [(3,.cells (Zc c8)),(5,.callR [] (ob c5))] [(1,pt 101),(3,oi (v0.f_L.length:Int)),(6,oi o),(146,ob (!c5))] [(101,bx (Zc v0))] [idxL (Zm v0.f_L) o=some (Zc c8),SM 43 [tv (Zc c8)] [] (ob c5) [],([]:List Nat).Nodup] ⟨(ZR d3),(IH43 _ _ d4),nd,trivial⟩ ?_
 refine WA.cond (b:=(!c5)) rfl (fun b9=>?_) (fun b9=>?_)
 {
 have a:=Zk a b9
 refine Ws [] [(2,ob false)] [] ?_
 refine WA.ret ?_
 obtain rfl:=zj_ a
 exact Zq (ob false) [] kr kr kr kr nd rfl rfl }
 {
 have a:=Zj a b9
 refine WA.skip ?_
 refine Wr [] [(1,pt 101),(3,oi (v0.f_L.length:Int)),(6,oi (w64 (o+1)))] [(101,bx (Zc v0))] ?_
 exact ⟨m7,zl_ _,(w64 (o+1)),jk,by rw [c7] at a;exact a⟩ } }
  {
 have a:=Zj a b8
 refine WA.exit ?_
 refine Ws [] [(2,ob true)] [] ?_
 refine WA.ret ?_
 obtain rfl:=zj_ a
 exact Zq (ob true) [] kr kr kr kr nd rfl rfl } }
 {
 refine Ws [] [(1,pt 101),(3,oi (v0.f_L.length:Int)),(35,oi v0.f_Kind)] [(101,bx (Zc v0))] ?_
 refine WA.block ?_
 refine Ws [] [(1,pt 101),(3,oi (v0.f_L.length:Int)),(35,oi v0.f_Kind),(36,ob (v0.f_Kind == 1))] [(101,bx (Zc v0))] ?_
 refine WA.cond (b:=(v0.f_Kind == 1)) rfl (fun a9=>?_) (fun a9=>?_)
 {
 have a:=Zk a a9
 refine WA.seq ?_
 refine Ws [] [(1,pt 101),(3,oi (v0.f_L.length:Int)),(4,oi 0)] [(101,bx (Zc v0))] ?_
 refine WA.block ?_
 refine WA.loop (fun m x=>∃(d:Int),J x [(1,pt 101),(3,oi (v0.f_L.length:Int)),(4,oi d)] [(101,bx (Zc v0))]∧Zcq k v0 m d=some r) k ⟨0,jk,a⟩ ?_
 clear a
 rintro m3 x ⟨d,w,a⟩
 refine Wj w ?_
 clear w
 cases m3 with
 | zero=>cases a
 | succ m3=>
  obtain ⟨c9,c6⟩:∃g,g=Zcq k v0 m3:=⟨_,rfl⟩
  have a:ZeX k c9 v0 d=some r:=by first | (rw [c6];exact a) | exact a
  refine WA.seq ?_
  refine WA.seq ?_
  refine Wm ((v0.f_Set.map Za).length:Int) (v0.f_Set.length:Int) (fun m_=>([(1,pt 101),(3,oi (v0.f_L.length:Int)),(4,oi d),(42,ob (decide (d<m_)))],[(101,bx (Zc v0))],[])) ((by first | (simp only [zl,Zi];done) | (simp only [zl,Zi];omega) | omega)) [] trivial ?_
  refine WA.cond (b:=(decide (d<(v0.f_Set.length:Int)))) rfl (fun b0=>?_) (fun b0=>?_)
  {
 have a:=Zk a b0
 refine WA.skip ?_
 refine WA.seq ?_
 refine WA.block ?_
 obtain ⟨c,d0,a⟩:=Zh a
 refine Wos [(3,.cells (Za c)),(5,.obj 105)] [(1,pt 101),(3,oi (v0.f_L.length:Int)),(4,oi d),(5,pt 105)] [(101,bx (Zc v0)),(105,bx (Za c))] [idxL (v0.f_Set.map Za) d=some (Za c)] ⟨(Zt _ d0),trivial⟩ ?_
 refine WA.join (fun x=>∃(c1:Bool),J x [(1,pt 101),(3,oi (v0.f_L.length:Int)),(4,oi d),(93,ob c1)] [(101,bx (Zc v0))]∧ZbZ c9 d c1=some r) ?_ ?_
 {
 rintro x ⟨c1,w,a⟩
 refine Wj w ?_
 clear w
 refine WA.cond (b:=c1) rfl (fun b1=>?_) (fun b1=>?_)
 {
 have a:=Zk a b1
 refine Ws [] [(2,ob false)] [] ?_
 refine WA.ret ?_
 obtain rfl:=zj_ a
 exact Zq (ob false) [] kr kr kr kr nd rfl rfl }
 {
 have a:=Zj a b1
 refine WA.skip ?_
 refine Wr [] [(1,pt 101),(3,oi (v0.f_L.length:Int)),(4,oi (w64 (d+1)))] [(101,bx (Zc v0))] ?_
 exact ⟨m3,zl_ _,(w64 (d+1)),jk,by rw [c6] at a;exact a⟩ } }
 {
 obtain ⟨e,s,a⟩:=Zh a
 rcases zo_ (!e) with h | h
 {
 have a:=Zk a h
 refine Wd [(2,.callR [] (ob e)),(4,.bool true),(7,.callR [] (.tup []))] [(1,pt 101),(3,oi (v0.f_L.length:Int)),(4,oi d),(93,ob true)] [(101,bx (Zc v0))] [SM 67 [oi c.f_Lo] [] (ob e) [],([]:List Nat).Nodup,(!e)=true] ⟨(Zax k _ _ s),nd,h,trivial⟩ ?_
 exact ⟨true,jk,a⟩ }
 {
 have a:=Zj a h
 obtain ⟨f,v,a⟩:=Zh a
 rcases zo_ (!f) with j | j
 {
 have a:=Zk a j
 refine Wd [(2,.callR [] (ob e)),(4,.bool false),(7,.callR [] (ob f)),(10,.bool true)] [(1,pt 101),(3,oi (v0.f_L.length:Int)),(4,oi d),(93,ob true)] [(101,bx (Zc v0))] [SM 67 [oi c.f_Lo] [] (ob e) [],([]:List Nat).Nodup,(!e)=false,SM 67 [oi c.f_Hi] [] (ob f) [],([]:List Nat).Nodup,(!f)=true] ⟨(Zax k _ _ s),nd,h,(Zax k _ _ v),nd,j,trivial⟩ ?_
 exact ⟨true,jk,a⟩ }
 {
 have a:=Zj a j
 rcases zo_ (decide (c.f_Lo > c.f_Hi)) with l | l
 {
 have a:=Zk a l
 refine Wd [(2,.callR [] (ob e)),(4,.bool false),(7,.callR [] (ob f)),(10,.bool false),(17,.bool true)] [(1,pt 101),(3,oi (v0.f_L.length:Int)),(4,oi d),(93,ob true)] [(101,bx (Zc v0))] [SM 67 [oi c.f_Lo] [] (ob e) [],([]:List Nat).Nodup,(!e)=false,SM 67 [oi c.f_Hi] [] (ob f) [],([]:List Nat).Nodup,(!f)=false,(decide (c.f_Lo > c.f_Hi))=true] ⟨(Zax k _ _ s),nd,h,(Zax k _ _ v),nd,j,l,trivial⟩ ?_
 exact ⟨true,jk,a⟩ }
 {
 have a:=Zj a l
 rcases zo_ (decide (c.f_Lo<55296)) with p | p
 {
 have a:=Zk a p
 rcases zo_ (decide (c.f_Hi > 57343)) with a0 | a0
 {
 have a:=Zk a a0
 refine Wd [(2,.callR [] (ob e)),(4,.bool false),(7,.callR [] (ob f)),(10,.bool false),(17,.bool false),(21,.bool true),(27,.bool true)] [(1,pt 101),(3,oi (v0.f_L.length:Int)),(4,oi d),(93,ob true)] [(101,bx (Zc v0))] [SM 67 [oi c.f_Lo] [] (ob e) [],([]:List Nat).Nodup,(!e)=false,SM 67 [oi c.f_Hi] [] (ob f) [],([]:List Nat).Nodup,(!f)=false,(decide (c.f_Lo > c.f_Hi))=false,(decide (c.f_Lo<55296))=true,(decide (c.f_Hi > 57343))=true] ⟨(Zax k _ _ s),nd,h,(Zax k _ _ v),nd,j,l,p,a0,trivial⟩ ?_
 exact ⟨true,jk,a⟩ }
 {
 have a:=Zj a a0
 rcases zo_ (decide (d > 0)) with a4 | a4
 {
 have a:=Zk a a4
 obtain ⟨c3,d1,a⟩:=Zh a
 refine Wd [(2,.callR [] (ob e)),(4,.bool false),(7,.callR [] (ob f)),(10,.bool false),(17,.bool false),(21,.bool true),(27,.bool false),(30,.bool true),(37,.cells (Za c3))] [(1,pt 101),(3,oi (v0.f_L.length:Int)),(4,oi d),(93,ob (decide (c.f_Lo≤(w64 (c3.f_Hi+1)))))] [(101,bx (Zc v0))] [SM 67 [oi c.f_Lo] [] (ob e) [],([]:List Nat).Nodup,(!e)=false,SM 67 [oi c.f_Hi] [] (ob f) [],([]:List Nat).Nodup,(!f)=false,(decide (c.f_Lo > c.f_Hi))=false,(decide (c.f_Lo<55296))=true,(decide (c.f_Hi > 57343))=false,(decide (d > 0))=true,idxL (v0.f_Set.map Za) (w64 (d-1))=some (Za c3)] ⟨(Zax k _ _ s),nd,h,(Zax k _ _ v),nd,j,l,p,a0,a4,(Zt _ d1),trivial⟩ ?_
 exact ⟨(decide (c.f_Lo≤(w64 (c3.f_Hi+1)))),jk,a⟩ }
 {
 have a:=Zj a a4
 refine Wd [(2,.callR [] (ob e)),(4,.bool false),(7,.callR [] (ob f)),(10,.bool false),(17,.bool false),(21,.bool true),(27,.bool false),(30,.bool false)] [(1,pt 101),(3,oi (v0.f_L.length:Int)),(4,oi d),(93,ob false)] [(101,bx (Zc v0))] [SM 67 [oi c.f_Lo] [] (ob e) [],([]:List Nat).Nodup,(!e)=false,SM 67 [oi c.f_Hi] [] (ob f) [],([]:List Nat).Nodup,(!f)=false,(decide (c.f_Lo > c.f_Hi))=false,(decide (c.f_Lo<55296))=true,(decide (c.f_Hi > 57343))=false,(decide (d > 0))=false] ⟨(Zax k _ _ s),nd,h,(Zax k _ _ v),nd,j,l,p,a0,a4,trivial⟩ ?_
 exact ⟨false,jk,a⟩ } } }
 {
 have a:=Zj a p
 rcases zo_ (decide (d > 0)) with a5 | a5
 {
 have a:=Zk a a5
 obtain ⟨c4,d2,a⟩:=Zh a
 refine Wd [(2,.callR [] (ob e)),(4,.bool false),(7,.callR [] (ob f)),(10,.bool false),(17,.bool false),(21,.bool false),(30,.bool true),(37,.cells (Za c4))] [(1,pt 101),(3,oi (v0.f_L.length:Int)),(4,oi d),(93,ob (decide (c.f_Lo≤(w64 (c4.f_Hi+1)))))] [(101,bx (Zc v0))] [SM 67 [oi c.f_Lo] [] (ob e) [],([]:List Nat).Nodup,(!e)=false,SM 67 [oi c.f_Hi] [] (ob f) [],([]:List Nat).Nodup,(!f)=false,(decide (c.f_Lo > c.f_Hi))=false,(decide (c.f_Lo<55296))=false,(decide (d > 0))=true,idxL (v0.f_Set.map Za) (w64 (d-1))=some (Za c4)] ⟨(Zax k _ _ s),nd,h,(Zax k _ _ v),nd,j,l,p,a5,(Zt _ d2),trivial⟩ ?_
 exact ⟨(decide (c.f_Lo≤(w64 (c4.f_Hi+1)))),jk,a⟩ }
 {
 have a:=Zj a a5
 refine Wd [(2,.callR [] (ob e)),(4,.bool false),(7,.callR [] (ob f)),(10,.bool false),(17,.bool false),(21,.bool false),(30,.bool false)] [(1,pt 101),(3,oi (v0.f_L.length:Int)),(4,oi d),(93,ob false)] [(101,bx (Zc v0))] [SM 67 [oi c.f_Lo] [] (ob e) [],([]:List Nat).Nodup,(!e)=false,SM 67 [oi c.f_Hi] [] (ob f) [],([]:List Nat).Nodup,(!f)=false,(decide (c.f_Lo > c.f_Hi))=false,(decide (c.f_Lo<55296))=false,(decide (d > 0))=false] ⟨(Zax k _ _ s),nd,h,(Zax k _ _ v),nd,j,l,p,a5,trivial⟩ ?_
 exact ⟨false,jk,a⟩ } } } } } } }
  {
 have a:=Zj a b0
 refine WA.exit ?_
 refine Ws [] [(2,ob ((v0.f_L.length:Int) == 0))] [] ?_
 refine WA.ret ?_
 obtain rfl:=zj_ a
 exact Zq (ob ((v0.f_L.length:Int) == 0)) [] kr kr kr kr nd rfl rfl } }
 {
 have a:=Zj a a9
 refine Ws [] [(1,pt 101),(3,oi (v0.f_L.length:Int)),(35,oi v0.f_Kind),(96,ob (v0.f_Kind == 2))] [(101,bx (Zc v0))] ?_
 refine WA.cond (b:=(v0.f_Kind == 2)) rfl (fun b2=>?_) (fun b2=>?_)
 {
 have a:=Zk a b2
 refine Ws [] [(1,pt 101),(3,oi (v0.f_L.length:Int)),(99,ob ((v0.f_L.length:Int) == 1))] [(101,bx (Zc v0))] ?_
 refine WA.cond (b:=((v0.f_L.length:Int) == 1)) rfl (fun b3=>?_) (fun b3=>?_)
 {
 have a:=Zk a b3
 refine Ws [] [(2,ob false)] [] ?_
 refine WA.ret ?_
 obtain rfl:=zj_ a
 exact Zq (ob false) [] kr kr kr kr nd rfl rfl }
 {
 have a:=Zj a b3
 refine WA.skip ?_
 exact ⟨jk,a⟩ } }
 {
 have a:=Zj a b2
 refine Ws [] [(1,pt 101),(3,oi (v0.f_L.length:Int)),(35,oi v0.f_Kind),(100,ob (v0.f_Kind == 3))] [(101,bx (Zc v0))] ?_
 refine WA.cond (b:=(v0.f_Kind == 3)) rfl (fun b4=>?_) (fun b4=>?_)
 {
 have a:=Zk a b4
 refine Ws [] [(1,pt 101),(3,oi (v0.f_L.length:Int)),(103,ob (decide ((v0.f_L.length:Int)<2)))] [(101,bx (Zc v0))] ?_
 refine WA.cond (b:=(decide ((v0.f_L.length:Int)<2))) rfl (fun b5=>?_) (fun b5=>?_)
 {
 have a:=Zk a b5
 refine Ws [] [(2,ob false)] [] ?_
 refine WA.ret ?_
 obtain rfl:=zj_ a
 exact Zq (ob false) [] kr kr kr kr nd rfl rfl }
 {
 have a:=Zj a b5
 refine WA.skip ?_
 exact ⟨jk,a⟩ } }
 {
 have a:=Zj a b4
 refine Ws [] [(1,pt 101),(3,oi (v0.f_L.length:Int)),(104,ob (v0.f_Kind == 4))] [(101,bx (Zc v0))] ?_
 refine WA.cond (b:=(v0.f_Kind == 4)) rfl (fun b6=>?_) (fun b6=>?_)
 {
 have a:=Zk a b6
 refine WA.join (fun x=>∃(c2:Bool),J x [(1,pt 101),(3,oi (v0.f_L.length:Int)),(134,ob c2)] [(101,bx (Zc v0))]∧Zc6 R43 k v0 c2=some r) ?_ ?_
 {
 rintro x ⟨c2,w,a⟩
 refine Wj w ?_
 clear w
 refine WA.cond (b:=c2) rfl (fun b7=>?_) (fun b7=>?_)
 {
 have a:=Zk a b7
 refine Ws [] [(2,ob false)] [] ?_
 refine WA.ret ?_
 obtain rfl:=zj_ a
 exact Zq (ob false) [] kr kr kr kr nd rfl rfl }
 {
 have a:=Zj a b7
 refine WA.skip ?_
 exact ⟨jk,a⟩ } }
 {
 rcases zo_ ((v0.f_L.length:Int) != 1) with n | n
 {
 have a:=Zk a n
 refine Wo [(2,.bool true)] [(1,pt 101),(3,oi (v0.f_L.length:Int)),(134,ob true)] [(101,bx (Zc v0))] [((v0.f_L.length:Int) != 1)=true] ⟨n,trivial⟩ ?_
 exact ⟨true,jk,a⟩ }
 {
 have a:=Zj a n
 rcases zo_ (decide (v0.f_Min<0)) with q | q
 {
 have a:=Zk a q
 refine Wo [(2,.bool false),(7,.bool true)] [(1,pt 101),(3,oi (v0.f_L.length:Int)),(134,ob true)] [(101,bx (Zc v0))] [((v0.f_L.length:Int) != 1)=false,(decide (v0.f_Min<0))=true] ⟨n,q,trivial⟩ ?_
 exact ⟨true,jk,a⟩ }
 {
 have a:=Zj a q
 rcases zo_ (decide (v0.f_Min > 20)) with u | u
 {
 have a:=Zk a u
 refine Wo [(2,.bool false),(7,.bool false),(12,.bool true)] [(1,pt 101),(3,oi (v0.f_L.length:Int)),(134,ob true)] [(101,bx (Zc v0))] [((v0.f_L.length:Int) != 1)=false,(decide (v0.f_Min<0))=false,(decide (v0.f_Min > 20))=true] ⟨n,q,u,trivial⟩ ?_
 exact ⟨true,jk,a⟩ }
 {
 have a:=Zj a u
 rcases zo_ (v0.f_Max != (-1)) with a1 | a1
 {
 have a:=Zk a a1
 rcases zo_ (decide (v0.f_Max<v0.f_Min)) with a6 | a6
 {
 have a:=Zk a a6
 refine Wo [(2,.bool false),(7,.bool false),(12,.bool false),(16,.bool true),(22,.bool true)] [(1,pt 101),(3,oi (v0.f_L.length:Int)),(134,ob true)] [(101,bx (Zc v0))] [((v0.f_L.length:Int) != 1)=false,(decide (v0.f_Min<0))=false,(decide (v0.f_Min > 20))=false,(v0.f_Max != (-1))=true,(decide (v0.f_Max<v0.f_Min))=true] ⟨n,q,u,a1,a6,trivial⟩ ?_
 exact ⟨true,jk,a⟩ }
 {
 have a:=Zj a a6
 refine Wo [(2,.bool false),(7,.bool false),(12,.bool false),(16,.bool true),(22,.bool false)] [(1,pt 101),(3,oi (v0.f_L.length:Int)),(134,ob (decide (v0.f_Max > 20)))] [(101,bx (Zc v0))] [((v0.f_L.length:Int) != 1)=false,(decide (v0.f_Min<0))=false,(decide (v0.f_Min > 20))=false,(v0.f_Max != (-1))=true,(decide (v0.f_Max<v0.f_Min))=false] ⟨n,q,u,a1,a6,trivial⟩ ?_
 exact ⟨(decide (v0.f_Max > 20)),jk,a⟩ } }
 {
 have a:=Zj a a1
 refine Wo [(2,.bool false),(7,.bool false),(12,.bool false),(16,.bool false)] [(1,pt 101),(3,oi (v0.f_L.length:Int)),(134,ob false)] [(101,bx (Zc v0))] [((v0.f_L.length:Int) != 1)=false,(decide (v0.f_Min<0))=false,(decide (v0.f_Min > 20))=false,(v0.f_Max != (-1))=false] ⟨n,q,u,a1,trivial⟩ ?_
 exact ⟨false,jk,a⟩ } } } } } }
 {
 have a:=Zj a b6
 refine Ws [] [(2,ob false)] [] ?_
 refine WA.ret ?_
 obtain rfl:=zj_ a
 exact Zq (ob false) [] kr kr kr kr nd rfl rfl } } } } } } }
 {
 rcases zo_ (v0.f_Kind != 1) with i | i
 {
 have a:=Zk a i
 rcases zo_ (decide ((v0.f_Set.length:Int) > 0)) with t | t
 {
 have a:=Zk a t
 refine Wm ((v0.f_Set.map Za).length:Int) (v0.f_Set.length:Int) (fun m_=>([(1,pt 101),(30,ob true)],[(101,bx (Zc v0))],[(v0.f_Kind != 1)=true,(decide (m_ > 0))=true])) ((by first | (simp only [zl,Zi];done) | (simp only [zl,Zi];omega) | omega)) [(3,.bool true),(9,.bool true)] ⟨i,t,trivial⟩ ?_
 exact ⟨true,jk,a⟩ }
 {
 have a:=Zj a t
 rcases zo_ (v0.f_Kind != 4) with y | y
 {
 have a:=Zk a y
 rcases zo_ (v0.f_Min != 0) with a2 | a2
 {
 have a:=Zk a a2
 refine Wm ((v0.f_Set.map Za).length:Int) (v0.f_Set.length:Int) (fun m_=>([(1,pt 101),(30,ob true)],[(101,bx (Zc v0))],[(v0.f_Kind != 1)=true,(decide (m_ > 0))=false,(v0.f_Kind != 4)=true,(v0.f_Min != 0)=true])) ((by first | (simp only [zl,Zi];done) | (simp only [zl,Zi];omega) | omega)) [(3,.bool true),(9,.bool false),(13,.bool true),(17,.bool true)] ⟨i,t,y,a2,trivial⟩ ?_
 exact ⟨true,jk,a⟩ }
 {
 have a:=Zj a a2
 refine Wm ((v0.f_Set.map Za).length:Int) (v0.f_Set.length:Int) (fun m_=>([(1,pt 101),(30,ob (v0.f_Max != 0))],[(101,bx (Zc v0))],[(v0.f_Kind != 1)=true,(decide (m_ > 0))=false,(v0.f_Kind != 4)=true,(v0.f_Min != 0)=false])) ((by first | (simp only [zl,Zi];done) | (simp only [zl,Zi];omega) | omega)) [(3,.bool true),(9,.bool false),(13,.bool true),(17,.bool false)] ⟨i,t,y,a2,trivial⟩ ?_
 exact ⟨(v0.f_Max != 0),jk,a⟩ } }
 {
 have a:=Zj a y
 refine Wm ((v0.f_Set.map Za).length:Int) (v0.f_Set.length:Int) (fun m_=>([(1,pt 101),(30,ob false)],[(101,bx (Zc v0))],[(v0.f_Kind != 1)=true,(decide (m_ > 0))=false,(v0.f_Kind != 4)=false])) ((by first | (simp only [zl,Zi];done) | (simp only [zl,Zi];omega) | omega)) [(3,.bool true),(9,.bool false),(13,.bool false)] ⟨i,t,y,trivial⟩ ?_
 exact ⟨false,jk,a⟩ } } }
 {
 have a:=Zj a i
 rcases zo_ (v0.f_Kind != 4) with z | z
 {
 have a:=Zk a z
 rcases zo_ (v0.f_Min != 0) with a3 | a3
 {
 have a:=Zk a a3
 refine Wo [(3,.bool false),(13,.bool true),(17,.bool true)] [(1,pt 101),(30,ob true)] [(101,bx (Zc v0))] [(v0.f_Kind != 1)=false,(v0.f_Kind != 4)=true,(v0.f_Min != 0)=true] ⟨i,z,a3,trivial⟩ ?_
 exact ⟨true,jk,a⟩ }
 {
 have a:=Zj a a3
 refine Wo [(3,.bool false),(13,.bool true),(17,.bool false)] [(1,pt 101),(30,ob (v0.f_Max != 0))] [(101,bx (Zc v0))] [(v0.f_Kind != 1)=false,(v0.f_Kind != 4)=true,(v0.f_Min != 0)=false] ⟨i,z,a3,trivial⟩ ?_
 exact ⟨(v0.f_Max != 0),jk,a⟩ } }
 {
 have a:=Zj a z
 refine Wo [(3,.bool false),(13,.bool false)] [(1,pt 101),(30,ob false)] [(101,bx (Zc v0))] [(v0.f_Kind != 1)=false,(v0.f_Kind != 4)=false] ⟨i,z,trivial⟩ ?_
 exact ⟨false,jk,a⟩ } } }
def F43:Nat→Zd→Option Bool
  | 0,_=>none
  | k+1,v0=>Zlb (F43 k) k v0
theorem Zlt:∀(k:Nat),∀(v0:Zd) (r:Bool),F43 k v0=some r→SM 43 [tv (Zc v0)] [] (ob r) []
  | 0=>fun _ _ a=>by cases a
  | k+1=>fun v0 r a=>ZoV (F43 k) (Zlt k) k v0 r a
def Zgj (a:Bool):Option Bool:=
  some a
def F22 (k:Nat) (v0:Zd):Option Bool:=
  (F42 k v0 1).bind fun a=>cond (decide (a≤16)) ((F43 k v0).bind fun b=>cond b ((F20 k v0).bind fun c=>(Zgj (decide (c≤200)))) ((Zgj false))) ((Zgj false))
theorem ZnZ (k:Nat) (v0:Zd) (r:Bool) (b:F22 k v0=some r):SM 22 [tv (Zc v0)] [] (ob r) []:=by
 refine Zz [] Tryz.func22 rfl kr kr ?_
 show WA _ _ 15 _ _ _
 refine Ws [(0,.obj 101)] [(1,pt 101)] [(101,bx (Zc v0))] ?_
 refine WA.join (fun m=>∃(g:Bool),J m [(2,ob g)] []∧Zgj g=some r) ?_ ?_
 {
 rintro m ⟨g,l,b⟩
 refine Wj l ?_
 clear l
 refine WA.ret ?_
 obtain rfl:=zj_ b
 exact Zq (ob g) [] kr kr kr kr nd rfl rfl }
 {
 obtain ⟨a,f,b⟩:=Zh b
 rcases zo_ (decide (a≤16)) with c | c
 {
 have b:=Zk b c
 obtain ⟨d,i,b⟩:=Zh b
 rcases zo_ d with e | e
 {
 have b:=Zk b e
 obtain ⟨h,j,b⟩:=Zh b
 refine Wo [(1,.callR [] (oi a)),(3,.bool true),(5,.callR [] (ob d)),(7,.bool true),(9,.callR [] (oi h))] [(2,ob (decide (h≤200)))] [] [SM 42 [tv (Zc v0),oi 1] [] (oi a) [],([]:List Nat).Nodup,(decide (a≤16))=true,SM 43 [tv (Zc v0)] [] (ob d) [],([]:List Nat).Nodup,d=true,SM 20 [tv (Zc v0)] [] (oi h) [],([]:List Nat).Nodup] ⟨(Zgp k _ _ _ f),nd,c,(Zlt k _ _ i),nd,e,(ZiC k _ _ j),nd,trivial⟩ ?_
 exact ⟨(decide (h≤200)),jk,b⟩ }
 {
 have b:=Zj b e
 refine Wo [(1,.callR [] (oi a)),(3,.bool true),(5,.callR [] (ob d)),(7,.bool false)] [(2,ob false)] [] [SM 42 [tv (Zc v0),oi 1] [] (oi a) [],([]:List Nat).Nodup,(decide (a≤16))=true,SM 43 [tv (Zc v0)] [] (ob d) [],([]:List Nat).Nodup,d=false] ⟨(Zgp k _ _ _ f),nd,c,(Zlt k _ _ i),nd,e,trivial⟩ ?_
 exact ⟨false,jk,b⟩ } }
 {
 have b:=Zj b c
 refine Wo [(1,.callR [] (oi a)),(3,.bool false)] [(2,ob false)] [] [SM 42 [tv (Zc v0),oi 1] [] (oi a) [],([]:List Nat).Nodup,(decide (a≤16))=false] ⟨(Zgp k _ _ _ f),nd,c,trivial⟩ ?_
 exact ⟨false,jk,b⟩ } }
def ZiY (a:Int→Option Bool) (b:Int) (c:Bool):Option Bool:=
  cond c ((some true)) ((a (w64 (b+1))))
def Zfh (b:Int→Option Bool) (v0:List Zb) (v1:Int) (a:Int):Option Bool:=
  (cond (decide (a<(v0.length:Int))) ((idxL v0 a).bind fun c=>cond (decide (c.f_Lo≤v1)) ((idxL v0 a).bind fun d=>(ZiY b a (decide (v1≤d.f_Hi)))) ((ZiY b a false))) (((some false))))
def Zfi (v0:List Zb) (v1:Int):Nat→Int→Option Bool
  | 0,_=>none
  | b+1,a=>Zfh (Zfi v0 v1 b) v0 v1 a
def F68 (k:Nat) (v0:List Zb) (v1:Int):Option Bool:=
  ((Zfi v0 v1 k 0))
theorem ZqR (k:Nat) (v0:List Zb) (v1:Int) (r:Bool) (c:F68 k v0 v1=some r):SM 68 [one (.sl (v0.map Za)),oi v1] [] (ob r) []:=by
 refine Zz [] Tryz.func68 rfl kr kr ?_
 show WA _ _ 28 _ _ _
 refine Ws [] [(0,one (.sl (v0.map Za))),(1,oi v1)] [] ?_
 refine WA.seq ?_
 refine Ws [] [(0,one (.sl (v0.map Za))),(1,oi v1),(5,oi 0)] [] ?_
 refine WA.block ?_
 refine WA.loop (fun m q=>∃(a:Int),J q [(0,one (.sl (v0.map Za))),(1,oi v1),(5,oi a)] []∧Zfi v0 v1 m a=some r) k ⟨0,jk,c⟩ ?_
 clear c
 rintro m2 q ⟨a,p,c⟩
 refine Wj p ?_
 clear p
 cases m2 with
 | zero=>cases c
 | succ m2=>
  obtain ⟨o,l⟩:∃g,g=Zfi v0 v1 m2:=⟨_,rfl⟩
  have c:Zfh o v0 v1 a=some r:=by first | (rw [l];exact c) | exact c
  refine WA.seq ?_
  refine WA.seq ?_
  refine Wm ((v0.map Za).length:Int) (v0.length:Int) (fun t=>([(0,one (.sl (v0.map Za))),(1,oi v1),(5,oi a),(9,ob (decide (a<t)))],[],[])) ((by first | (simp only [zl,Zi];done) | (simp only [zl,Zi];omega) | omega)) [] trivial ?_
  refine WA.cond (b:=(decide (a<(v0.length:Int)))) rfl (fun f=>?_) (fun f=>?_)
  {
 have c:=Zk c f
 refine WA.skip ?_
 refine WA.seq ?_
 refine WA.block ?_
 refine WA.join (fun q=>∃(i:Bool),J q [(0,one (.sl (v0.map Za))),(1,oi v1),(5,oi a),(27,ob i)] []∧ZiY o a i=some r) ?_ ?_
 {
 rintro q ⟨i,p,c⟩
 refine Wj p ?_
 clear p
 refine WA.cond (b:=i) rfl (fun h=>?_) (fun h=>?_)
 {
 have c:=Zk c h
 refine Ws [] [(4,ob true)] [] ?_
 refine WA.ret ?_
 obtain rfl:=zj_ c
 exact Zq (ob true) [] kr kr kr kr nd rfl rfl }
 {
 have c:=Zj c h
 refine WA.skip ?_
 refine Wr [] [(0,one (.sl (v0.map Za))),(1,oi v1),(5,oi (w64 (a+1)))] [] ?_
 exact ⟨m2,zl_ _,(w64 (a+1)),jk,by rw [l] at c;exact c⟩ } }
 {
 obtain ⟨d,n,c⟩:=Zh c
 rcases zo_ (decide (d.f_Lo≤v1)) with e | e
 {
 have c:=Zk c e
 obtain ⟨j,s,c⟩:=Zh c
 refine Wo [(2,.cells (Za d)),(7,.bool true),(11,.cells (Za j))] [(0,one (.sl (v0.map Za))),(1,oi v1),(5,oi a),(27,ob (decide (v1≤j.f_Hi)))] [] [idxL (v0.map Za) a=some (Za d),(decide (d.f_Lo≤v1))=true,idxL (v0.map Za) a=some (Za j)] ⟨(Zt _ n),e,(Zt _ s),trivial⟩ ?_
 exact ⟨(decide (v1≤j.f_Hi)),jk,c⟩ }
 {
 have c:=Zj c e
 refine Wo [(2,.cells (Za d)),(7,.bool false)] [(0,one (.sl (v0.map Za))),(1,oi v1),(5,oi a),(27,ob false)] [] [idxL (v0.map Za) a=some (Za d),(decide (d.f_Lo≤v1))=false] ⟨(Zt _ n),e,trivial⟩ ?_
 exact ⟨false,jk,c⟩ } } }
  {
 have c:=Zj c f
 refine WA.exit ?_
 refine Ws [] [(4,ob false)] [] ?_
 refine WA.ret ?_
 obtain rfl:=zj_ c
 exact Zq (ob false) [] kr kr kr kr nd rfl rfl }
def Zi0 (a:(List Bool)→Bool→Int→Option (Bool×(List Bool))) (b:Int) (c:List Bool) (d:Bool):Option (Bool×(List Bool)):=
  a c d (w64 (b+1))
def Zd3 (c:(List Bool)→Bool→Int→Option (Bool×(List Bool))) (v1:List Bool) (b:List Bool) (a:Int) (d:Bool):Option (Bool×(List Bool)):=
  if (0:Int)≤a∧a<(b.length:Int) then (idxL b a).bind fun e=>cond e (if (0:Int)≤a∧a<(b.length:Int) then (idxL b a).bind fun g=>(Zi0 c a (b.set (Int.toNat a) true) d) else none) ((idxL v1 a).bind fun f=>if (0:Int)≤a∧a<(b.length:Int) then (idxL b a).bind fun h=>(Zi0 c a (b.set (Int.toNat a) f) d) else none) else none
def ZiZ (c:(List Bool)→Bool→Int→Option (Bool×(List Bool))) (v1:List Bool) (b:List Bool) (d:Bool) (a:Int):Option (Bool×(List Bool)):=
  (cond (decide (a<(b.length:Int))) ((cond d ((Zd3 c v1 b a true)) ((idxL v1 a).bind fun e=>cond e (if (0:Int)≤a∧a<(b.length:Int) then (idxL b a).bind fun f=>(Zd3 c v1 b a (!f)) else none) ((Zd3 c v1 b a false))))) (((some (d,b)))))
def Zct (v1:List Bool):Nat→(List Bool)→Bool→Int→Option (Bool×(List Bool))
  | 0,_,_,_=>none
  | d+1,a,b,c=>ZiZ (Zct v1 d) v1 a b c
def F69 (k:Nat) (v0:List Bool) (v1:List Bool):Option (Bool×(List Bool)):=
  (((Zct v1 k v0 false 0)))
theorem ZlA (k:Nat) (v0:List Bool) (v1:List Bool) (r:Bool×(List Bool)) (e:F69 k v0 v1=some r) {n0:Nat} (hn_n0:n0=v0.length):SM 69 [ar 0 n0,one (.sl (v1.map Zn))] [.arr 1 (v0.map Zn)] (ob r.1) [.arr 1 (r.2.map Zn)]:=by
 refine Zz [0] Tryz.func69 rfl kr kr ?_
 show WA _ _ 41 _ _ _
 refine Ws [] [(0,ar 0 n0),(1,one (.sl (v1.map Zn)))] [(0,.arr 1 (v0.map Zn))] ?_
 refine Ws [] [(0,ar 0 n0),(1,one (.sl (v1.map Zn))),(5,ob false)] [(0,.arr 1 (v0.map Zn))] ?_
 refine WA.seq ?_
 refine Ws [] [(0,ar 0 n0),(1,one (.sl (v1.map Zn))),(5,ob false),(6,oi 0)] [(0,.arr 1 (v0.map Zn))] ?_
 refine WA.block ?_
 refine WA.loop (fun m s_=>∃(c:List Bool) (d:Nat) (f:Bool) (a:Int),J s_ [(0,ar 0 d),(1,one (.sl (v1.map Zn))),(5,ob f),(6,oi a)] [(0,.arr 1 (c.map Zn))]∧d=(c:List _).length∧Zct v1 m c f a=some r) k ⟨v0,n0,false,0,jk,zt,e⟩ ?_
 clear e
 rintro m4 s_ ⟨c,d,f,a,y,b3,e⟩
 refine Wj y ?_
 clear y
 cases m4 with
 | zero=>cases e
 | succ m4=>
  obtain ⟨w,z⟩:∃g,g=Zct v1 m4:=⟨_,rfl⟩
  have e:ZiZ w v1 c f a=some r:=by first | (rw [z];exact e) | exact e
  refine WA.seq ?_
  refine WA.seq ?_
  refine Wm ((d:Nat):Int) (c.length:Int) (fun m_=>([(0,ar 0 d),(1,one (.sl (v1.map Zn))),(5,ob f),(6,oi a),(10,ob (decide (a<m_)))],[(0,.arr 1 (c.map Zn))],[])) ((by first | (simp only [zl,Zi];done) | (simp only [zl,Zi];omega) | omega)) [] trivial ?_
  refine WA.cond (b:=(decide (a<(c.length:Int)))) rfl (fun v=>?_) (fun v=>?_)
  {
 have e:=Zk e v
 refine WA.skip ?_
 refine WA.join (fun s_=>∃(p:List Bool) (s:Nat) (t:Bool),J s_ [(0,ar 0 s),(1,one (.sl (v1.map Zn))),(5,ob t),(6,oi a)] [(0,.arr 1 (p.map Zn))]∧s=(p:List _).length∧Zi0 w a p t=some r) ?_ ?_
 {
 rintro s_ ⟨p,s,t,y,b4,e⟩
 refine Wj y ?_
 clear y
 refine Wr [] [(0,ar 0 s),(1,one (.sl (v1.map Zn))),(5,ob t),(6,oi (w64 (a+1)))] [(0,.arr 1 (p.map Zn))] ?_
 exact ⟨m4,zl_ _,p,s,t,(w64 (a+1)),jk,zt,by rw [z] at e;exact e⟩ }
 {
 refine WA.block ?_
 refine WA.join (fun s_=>∃(i:Bool),J s_ [(0,ar 0 d),(1,one (.sl (v1.map Zn))),(5,ob i),(6,oi a)] [(0,.arr 1 (c.map Zn))]∧Zd3 w v1 c a i=some r) ?_ ?_
 {
 rintro s_ ⟨i,y,e⟩
 refine Wj y ?_
 clear y
 obtain ⟨q,e⟩:=Zo e
 obtain ⟨l,a3,e⟩:=Zh e
 rcases zo_ l with o | o
 {
 have e:=Zk e o
 obtain ⟨a7,e⟩:=Zo e
 obtain ⟨a5,b0,e⟩:=Zh e
 have z0:a<((d:Nat):Int):=(by have h_:=q.2;(try simp only [zl,Zi] at h_ ⊢);omega)
 refine Wm (((c.map Zn).set (Int.toNat a) (Zn true)):(List (List PV))) ((c.set (Int.toNat a) true).map Zn) (fun m_=>([(0,ar 0 d),(1,one (.sl (v1.map Zn))),(5,ob i),(6,oi a)],[(0,.arr 1 m_)],[d=(c.map Zn).length,(0:Int)≤a,a<((d:Nat):Int),d=(c.map Zn).length,(c.map Zn)[Int.toNat a]?=some [.bool l],l=true,d=(c.map Zn).length,(0:Int)≤a,a<((d:Nat):Int),d=(c.map Zn).length,(c.map Zn)[Int.toNat a]?=some [.bool a5]])) (zm) [(5,.cells [.bool l]),(6,.bool true),(13,.cells [.bool a5])] ⟨zt,q.1,z0,zt,(Zs (Zt _ a3)),o,zt,a7.1,z0,zt,(Zs (Zt _ b0)),trivial⟩ ?_
 exact ⟨(c.set (Int.toNat a) true),d,i,jk,zt,e⟩ }
 {
 have e:=Zj e o
 obtain ⟨u,b1,e⟩:=Zh e
 obtain ⟨a8,e⟩:=Zo e
 obtain ⟨a6,b2,e⟩:=Zh e
 have z0:a<((d:Nat):Int):=(by have h_:=q.2;(try simp only [zl,Zi] at h_ ⊢);omega)
 refine Wm (((c.map Zn).set (Int.toNat a) (Zn u)):(List (List PV))) ((c.set (Int.toNat a) u).map Zn) (fun m_=>([(0,ar 0 d),(1,one (.sl (v1.map Zn))),(5,ob i),(6,oi a)],[(0,.arr 1 m_)],[d=(c.map Zn).length,(0:Int)≤a,a<((d:Nat):Int),d=(c.map Zn).length,(c.map Zn)[Int.toNat a]?=some [.bool l],l=false,idxL (v1.map Zn) a=some [.bool u],d=(c.map Zn).length,(0:Int)≤a,a<((d:Nat):Int),d=(c.map Zn).length,(c.map Zn)[Int.toNat a]?=some [.bool a6]])) (zm) [(5,.cells [.bool l]),(6,.bool false),(9,.cells [.bool u]),(13,.cells [.bool a6])] ⟨zt,q.1,z0,zt,(Zs (Zt _ a3)),o,(Zt _ b1),zt,a8.1,z0,zt,(Zs (Zt _ b2)),trivial⟩ ?_
 exact ⟨(c.set (Int.toNat a) u),d,i,jk,zt,e⟩ } }
 {
 rcases zo_ f with h | h
 {
 have e:=Zk e h
 refine Wo [(1,.bool true)] [(0,ar 0 d),(1,one (.sl (v1.map Zn))),(5,ob true),(6,oi a)] [(0,.arr 1 (c.map Zn))] [f=true] ⟨h,trivial⟩ ?_
 exact ⟨true,jk,e⟩ }
 {
 have e:=Zj e h
 obtain ⟨j,a2,e⟩:=Zh e
 rcases zo_ j with n | n
 {
 have e:=Zk e n
 obtain ⟨a1,e⟩:=Zo e
 obtain ⟨x,a9,e⟩:=Zh e
 refine Wo [(1,.bool false),(4,.cells [.bool j]),(6,.bool true),(10,.cells [.bool x])] [(0,ar 0 d),(1,one (.sl (v1.map Zn))),(5,ob (!x)),(6,oi a)] [(0,.arr 1 (c.map Zn))] [f=false,idxL (v1.map Zn) a=some [.bool j],j=true,d=(c.map Zn).length,(0:Int)≤a,a<((d:Nat):Int),d=(c.map Zn).length,(c.map Zn)[Int.toNat a]?=some [.bool x]] ⟨h,(Zt _ a2),n,zt,a1.1,(by have h_:=a1.2;(try simp only [zl,Zi] at h_ ⊢);omega),zt,(Zs (Zt _ a9)),trivial⟩ ?_
 exact ⟨(!x),jk,e⟩ }
 {
 have e:=Zj e n
 refine Wo [(1,.bool false),(4,.cells [.bool j]),(6,.bool false)] [(0,ar 0 d),(1,one (.sl (v1.map Zn))),(5,ob false),(6,oi a)] [(0,.arr 1 (c.map Zn))] [f=false,idxL (v1.map Zn) a=some [.bool j],j=false] ⟨h,(Zt _ a2),n,trivial⟩ ?_
 exact ⟨false,jk,e⟩ } } } } }
  {
 have e:=Zj e v
 refine WA.exit ?_
 refine Ws [] [(4,ob f)] [(0,.arr 1 (c.map Zn))] ?_
 refine WA.ret ?_
 obtain rfl:=zj_ e
 exact Zq (ob f) [.arr 1 (c.map Zn)] kr kr kr kr nd rfl rfl }
def F143 (k:Nat):Option (List Zb):=
  ((some ([(⟨0,55295⟩:Zb),(⟨57344,1114111⟩:Zb)]:List Zb)))
theorem ZjS (k:Nat) (r:List Zb) (a:F143 k=some r):SM 143 [] [] (one (.sl (r.map Za))) []:=by
 refine Zz [] Tryz.func143 rfl kr kr ?_
 show WA _ _ 4 _ _ _
 refine Ws [] [] [] ?_
 refine Ws [] [(0,one (.sl (([(⟨0,55295⟩:Zb),(⟨57344,1114111⟩:Zb)]:List Zb).map Za)))] [] ?_
 refine WA.ret ?_
 obtain rfl:=zj_ a
 exact Zq (one (.sl (([(⟨0,55295⟩:Zb),(⟨57344,1114111⟩:Zb)]:List Zb).map Za))) [] kr kr kr kr nd rfl rfl
def ZfV (a:(List Zb)→Int→Option (List Zb)) (b:Int) (c:List Zb):Option (List Zb):=
  a c (w64 (b+1))
def ZcP (self8:(List Zb)→Int→Option (List Zb)) (c:(List Zb)→Int→Option (List Zb)) (v0:List Zb) (v1:List Zb) (d:Int) (b:List Zb) (a:Int):Option (List Zb):=
  (cond (decide (a<(v1.length:Int))) ((idxL v0 d).bind fun e=>(idxL v1 a).bind fun f=>(idxL v0 d).bind fun g=>(idxL v1 a).bind fun h=>((cond (decide ((mx e.f_Lo f.f_Lo)≤(mn g.f_Hi h.f_Hi))) (if b.length+([(⟨(mx e.f_Lo f.f_Lo),(mn g.f_Hi h.f_Hi)⟩:Zb)]:List Zb).length≤1073741824 then (ZfV c a (b ++ ([(⟨(mx e.f_Lo f.f_Lo),(mn g.f_Hi h.f_Hi)⟩:Zb)]:List Zb))) else none) ((ZfV c a b))))) ((self8 b (w64 (d+1)))))
def Zcc (self8:(List Zb)→Int→Option (List Zb)) (v0:List Zb) (v1:List Zb) (a:Int):Nat→(List Zb)→Int→Option (List Zb)
  | 0,_,_=>none
  | d+1,b,c=>ZcP self8 (Zcc self8 v0 v1 a d) v0 v1 a b c
def ZdL (k:Nat) (self8:(List Zb)→Int→Option (List Zb)) (v0:List Zb) (v1:List Zb) (a:List Zb) (b:Int):Option (List Zb):=
  (cond (decide (b<(v0.length:Int))) (((Zcc self8 v0 v1 b k a 0))) (((some a))))
def ZbQ (k:Nat) (v0:List Zb) (v1:List Zb):Nat→(List Zb)→Int→Option (List Zb)
  | 0,_,_=>none
  | c+1,a,b=>ZdL k (ZbQ k v0 v1 c) v0 v1 a b
def F190 (k:Nat) (v0:List Zb) (v1:List Zb):Option (List Zb):=
  (((ZbQ k v0 v1 k ([]:List Zb) 0)))
theorem ZmY (k:Nat) (v0:List Zb) (v1:List Zb) (r:List Zb) (c:F190 k v0 v1=some r):SM 190 [one (.sl (v0.map Za)),one (.sl (v1.map Za))] [] (one (.sl (r.map Za))) []:=by
 refine Zz [] Tryz.func190 rfl kr kr ?_
 show WA _ _ 54 _ _ _
 refine Ws [] [(0,one (.sl (v0.map Za))),(1,one (.sl (v1.map Za)))] [] ?_
 refine Ws [(0,.obj 105)] [(0,one (.sl (v0.map Za))),(1,one (.sl (v1.map Za))),(5,ar 105 0)] [(105,.arr 2 (([]:List Zb).map Za))] ?_
 refine WA.seq ?_
 refine Ws [] [(0,one (.sl (v0.map Za))),(1,one (.sl (v1.map Za))),(5,ar 105 0),(6,oi 0)] [(105,.arr 2 (([]:List Zb).map Za))] ?_
 refine WA.block ?_
 refine WA.loop (fun m s_=>∃(f:List Zb) (p:Nat) (a:Int),J s_ [(0,one (.sl (v0.map Za))),(1,one (.sl (v1.map Za))),(5,ar 105 p),(6,oi a)] [(105,.arr 2 (f.map Za))]∧p=(f:List _).length∧ZbQ k v0 v1 m f a=some r) k ⟨([]:List Zb),0,0,jk,zt,c⟩ ?_
 clear c
 rintro m8 s_ ⟨f,p,a,y,a8,c⟩
 refine Wj y ?_
 clear y
 cases m8 with
 | zero=>cases c
 | succ m8=>
  obtain ⟨self8,z⟩:∃g,g=ZbQ k v0 v1 m8:=⟨_,rfl⟩
  have c:ZdL k self8 v0 v1 f a=some r:=by first | (rw [z];exact c) | exact c
  refine WA.seq ?_
  refine WA.seq ?_
  refine Wm ((v0.map Za).length:Int) (v0.length:Int) (fun m_=>([(0,one (.sl (v0.map Za))),(1,one (.sl (v1.map Za))),(5,ar 105 p),(6,oi a),(13,ob (decide (a<m_)))],[(105,.arr 2 (f.map Za))],[])) ((by first | (simp only [zl,Zi];done) | (simp only [zl,Zi];omega) | omega)) [] trivial ?_
  refine WA.cond (b:=(decide (a<(v0.length:Int)))) rfl (fun v=>?_) (fun v=>?_)
  {
 have c:=Zk c v
 refine WA.skip ?_
 refine WA.seq ?_
 refine WA.block ?_
 refine Ws [] [(0,one (.sl (v0.map Za))),(1,one (.sl (v1.map Za))),(5,ar 105 p),(6,oi a),(7,oi 0)] [(105,.arr 2 (f.map Za))] ?_
 refine WA.block ?_
 refine WA.loop (fun m s_=>∃(d:List Zb) (h:Nat) (e:Int),J s_ [(0,one (.sl (v0.map Za))),(1,one (.sl (v1.map Za))),(5,ar 105 h),(6,oi a),(7,oi e)] [(105,.arr 2 (d.map Za))]∧h=(d:List _).length∧Zcc self8 v0 v1 a m d e=some r) k ⟨f,p,0,jk,zt,c⟩ ?_
 clear c
 rintro m11 s_ ⟨d,h,e,y,a9,c⟩
 refine Wj y ?_
 clear y
 cases m11 with
 | zero=>cases c
 | succ m11=>
  obtain ⟨a1,u⟩:∃g,g=Zcc self8 v0 v1 a m11:=⟨_,rfl⟩
  have c:ZcP self8 a1 v0 v1 a d e=some r:=by first | (rw [u];exact c) | exact c
  refine WA.seq ?_
  refine WA.seq ?_
  refine Wm ((v1.map Za).length:Int) (v1.length:Int) (fun m_=>([(0,one (.sl (v0.map Za))),(1,one (.sl (v1.map Za))),(5,ar 105 h),(6,oi a),(7,oi e),(19,ob (decide (e<m_)))],[(105,.arr 2 (d.map Za))],[])) ((by first | (simp only [zl,Zi];done) | (simp only [zl,Zi];omega) | omega)) [] trivial ?_
  refine WA.cond (b:=(decide (e<(v1.length:Int)))) rfl (fun w=>?_) (fun w=>?_)
  {
 have c:=Zk c w
 refine WA.skip ?_
 refine WA.join (fun s_=>∃(q:List Zb) (t:Nat),J s_ [(0,one (.sl (v0.map Za))),(1,one (.sl (v1.map Za))),(5,ar 105 t),(6,oi a),(7,oi e)] [(105,.arr 2 (q.map Za))]∧t=(q:List _).length∧ZfV a1 e q=some r) ?_ ?_
 {
 rintro s_ ⟨q,t,y,b0,c⟩
 refine Wj y ?_
 clear y
 refine Wr [] [(0,one (.sl (v0.map Za))),(1,one (.sl (v1.map Za))),(5,ar 105 t),(6,oi a),(7,oi (w64 (e+1)))] [(105,.arr 2 (q.map Za))] ?_
 exact ⟨m11,zl_ _,q,t,(w64 (e+1)),jk,zt,by rw [u] at c;exact c⟩ }
 {
 refine WA.block ?_
 refine WA.seq ?_
 obtain ⟨i,a4,c⟩:=Zh c
 obtain ⟨j,a5,c⟩:=Zh c
 obtain ⟨l,a6,c⟩:=Zh c
 obtain ⟨o,a7,c⟩:=Zh c
 refine Wd [(2,.cells (Za i)),(7,.cells (Za j)),(13,.cells (Za l)),(18,.cells (Za o))] [(0,one (.sl (v0.map Za))),(1,one (.sl (v1.map Za))),(5,ar 105 h),(6,oi a),(7,oi e),(8,oi (mx i.f_Lo j.f_Lo)),(9,oi (mn l.f_Hi o.f_Hi))] [(105,.arr 2 (d.map Za))] [idxL (v0.map Za) a=some (Za i),idxL (v1.map Za) e=some (Za j),idxL (v0.map Za) a=some (Za l),idxL (v1.map Za) e=some (Za o)] ⟨(Zt _ a4),(Zt _ a5),(Zt _ a6),(Zt _ a7),trivial⟩ ?_
 refine Ws [] [(0,one (.sl (v0.map Za))),(1,one (.sl (v1.map Za))),(5,ar 105 h),(6,oi a),(7,oi e),(8,oi (mx i.f_Lo j.f_Lo)),(9,oi (mn l.f_Hi o.f_Hi)),(46,ob (decide ((mx i.f_Lo j.f_Lo)≤(mn l.f_Hi o.f_Hi))))] [(105,.arr 2 (d.map Za))] ?_
 refine WA.cond (b:=(decide ((mx i.f_Lo j.f_Lo)≤(mn l.f_Hi o.f_Hi)))) rfl (fun x=>?_) (fun x=>?_)
 {
 have c:=Zk c x
 obtain ⟨a2,c⟩:=Zo c
 refine Wm (((d.map Za) ++ (([(⟨(mx i.f_Lo j.f_Lo),(mn l.f_Hi o.f_Hi)⟩:Zb)]:List Zb).map Za)):(List (List PV))) ((d ++ ([(⟨(mx i.f_Lo j.f_Lo),(mn l.f_Hi o.f_Hi)⟩:Zb)]:List Zb)).map Za) (fun m_=>([(0,one (.sl (v0.map Za))),(1,one (.sl (v1.map Za))),(5,ar 105 (h+1)),(6,oi a),(7,oi e)],[(105,.arr 2 m_)],[h=(d.map Za).length,(d.map Za).length+(([(⟨(mx i.f_Lo j.f_Lo),(mn l.f_Hi o.f_Hi)⟩:Zb)]:List Zb).map Za).length≤1073741824,∀es,es∈(([(⟨(mx i.f_Lo j.f_Lo),(mn l.f_Hi o.f_Hi)⟩:Zb)]:List Zb).map Za)→es.length=2])) (zm) [] ⟨zt,(by first | exact a2 | (simp only [List.length_map,Zi];exact a2)),(ZQ ([(⟨(mx i.f_Lo j.f_Lo),(mn l.f_Hi o.f_Hi)⟩:Zb)]:List Zb)),trivial⟩ ?_
 exact ⟨(d ++ ([(⟨(mx i.f_Lo j.f_Lo),(mn l.f_Hi o.f_Hi)⟩:Zb)]:List Zb)),(h+1),jk,zt,c⟩ }
 {
 have c:=Zj c x
 refine WA.skip ?_
 exact ⟨d,h,jk,zt,c⟩ } } }
  {
 have c:=Zj c w
 refine WA.exit ?_
 refine Wr [] [(0,one (.sl (v0.map Za))),(1,one (.sl (v1.map Za))),(5,ar 105 h),(6,oi (w64 (a+1)))] [(105,.arr 2 (d.map Za))] ?_
 exact ⟨m8,zl_ _,d,h,(w64 (a+1)),jk,zt,by rw [z] at c;exact c⟩ } }
  {
 have c:=Zj c v
 refine WA.exit ?_
 refine Ws [] [(4,ar 105 p)] [(105,.arr 2 (f.map Za))] ?_
 refine WA.freeze 105 4 (s:=2) (n:=p) (els:=(f.map Za)) rfl rfl zt ?_
 refine Wk [(4,one (.sl (f.map Za)))] [] ?_
 refine WA.ret ?_
 obtain rfl:=zj_ c
 exact Zq (one (.sl (f.map Za))) [] kr kr kr kr nd rfl rfl }
def Zhy (b:(List Zb)→Int→Int→Option (List Zb)) (v0:List Zb) (a:Int) (c:List Zb):Option (List Zb):=
  (idxL v0 a).bind fun d=>(b c (w64 (d.f_Hi+1)) (w64 (a+1)))
def ZeR (k:Nat) (a:List Zb):Option (List Zb):=
  (F143 k).bind fun b=>(F190 k a b).bind fun c=>(some c)
def ZdJ (k:Nat) (d:(List Zb)→Int→Int→Option (List Zb)) (v0:List Zb) (a:List Zb) (b:Int) (c:Int):Option (List Zb):=
  (cond (decide (c<(v0.length:Int))) ((idxL v0 c).bind fun f=>(cond (decide (b<f.f_Lo)) ((idxL v0 c).bind fun e=>if a.length+([(⟨b,(w64 (e.f_Lo-1))⟩:Zb)]:List Zb).length≤1073741824 then (Zhy d v0 c (a ++ ([(⟨b,(w64 (e.f_Lo-1))⟩:Zb)]:List Zb))) else none) ((Zhy d v0 c a)))) (((cond (decide (b≤1114111)) (if a.length+([(⟨b,1114111⟩:Zb)]:List Zb).length≤1073741824 then (ZeR k (a ++ ([(⟨b,1114111⟩:Zb)]:List Zb))) else none) ((ZeR k a))))))
def ZdK (k:Nat) (v0:List Zb):Nat→(List Zb)→Int→Int→Option (List Zb)
  | 0,_,_,_=>none
  | d+1,a,b,c=>ZdJ k (ZdK k v0 d) v0 a b c
def F175 (k:Nat) (v0:List Zb):Option (List Zb):=
  ((((ZdK k v0 k ([]:List Zb) 0 0))))
theorem Zqb (k:Nat) (v0:List Zb) (r:List Zb) (c:F175 k v0=some r):SM 175 [one (.sl (v0.map Za))] [] (one (.sl (r.map Za))) []:=by
 refine Zz [] Tryz.func175 rfl kr kr ?_
 show WA _ _ 46 _ _ _
 refine Ws [] [(0,one (.sl (v0.map Za)))] [] ?_
 refine Ws [(0,.obj 103)] [(0,one (.sl (v0.map Za))),(3,ar 103 0)] [(103,.arr 2 (([]:List Zb).map Za))] ?_
 refine Ws [] [(0,one (.sl (v0.map Za))),(3,ar 103 0),(4,oi 0)] [(103,.arr 2 (([]:List Zb).map Za))] ?_
 refine WA.seq ?_
 refine Ws [] [(0,one (.sl (v0.map Za))),(3,ar 103 0),(4,oi 0),(5,oi 0)] [(103,.arr 2 (([]:List Zb).map Za))] ?_
 refine WA.block ?_
 refine WA.loop (fun m z=>∃(d:List Zb) (f:Nat) (a:Int) (e:Int),J z [(0,one (.sl (v0.map Za))),(3,ar 103 f),(4,oi a),(5,oi e)] [(103,.arr 2 (d.map Za))]∧f=(d:List _).length∧ZdK k v0 m d a e=some r) k ⟨([]:List Zb),0,0,0,jk,zt,c⟩ ?_
 clear c
 rintro m2 z ⟨d,f,a,e,x,b0,c⟩
 refine Wj x ?_
 clear x
 cases m2 with
 | zero=>cases c
 | succ m2=>
  obtain ⟨a3,y⟩:∃g,g=ZdK k v0 m2:=⟨_,rfl⟩
  have c:ZdJ k a3 v0 d a e=some r:=by first | (rw [y];exact c) | exact c
  refine WA.seq ?_
  refine WA.seq ?_
  refine Wm ((v0.map Za).length:Int) (v0.length:Int) (fun m_=>([(0,one (.sl (v0.map Za))),(3,ar 103 f),(4,oi a),(5,oi e),(9,ob (decide (e<m_)))],[(103,.arr 2 (d.map Za))],[])) ((by first | (simp only [zl,Zi];done) | (simp only [zl,Zi];omega) | omega)) [] trivial ?_
  refine WA.cond (b:=(decide (e<(v0.length:Int)))) rfl (fun p=>?_) (fun p=>?_)
  {
 have c:=Zk c p
 refine WA.skip ?_
 refine WA.seq ?_
 refine WA.block ?_
 refine WA.join (fun z=>∃(i:List Zb) (l:Nat),J z [(0,one (.sl (v0.map Za))),(3,ar 103 l),(5,oi e)] [(103,.arr 2 (i.map Za))]∧l=(i:List _).length∧Zhy a3 v0 e i=some r) ?_ ?_
 {
 rintro z ⟨i,l,x,b1,c⟩
 refine Wj x ?_
 clear x
 obtain ⟨o,a7,c⟩:=Zh c
 refine Wo [(2,.cells (Za o))] [(0,one (.sl (v0.map Za))),(3,ar 103 l),(4,oi (w64 (o.f_Hi+1))),(5,oi e)] [(103,.arr 2 (i.map Za))] [idxL (v0.map Za) e=some (Za o)] ⟨(Zt _ a7),trivial⟩ ?_
 refine Wr [] [(0,one (.sl (v0.map Za))),(3,ar 103 l),(4,oi (w64 (o.f_Hi+1))),(5,oi (w64 (e+1)))] [(103,.arr 2 (i.map Za))] ?_
 exact ⟨m2,zl_ _,i,l,(w64 (o.f_Hi+1)),(w64 (e+1)),jk,zt,by rw [y] at c;exact c⟩ }
 {
 obtain ⟨v,a5,c⟩:=Zh c
 refine Wos [(3,.cells (Za v))] [(0,one (.sl (v0.map Za))),(3,ar 103 f),(4,oi a),(5,oi e),(18,ob (decide (a<v.f_Lo)))] [(103,.arr 2 (d.map Za))] [idxL (v0.map Za) e=some (Za v)] ⟨(Zt _ a5),trivial⟩ ?_
 refine WA.cond (b:=(decide (a<v.f_Lo))) rfl (fun q=>?_) (fun q=>?_)
 {
 have c:=Zk c q
 obtain ⟨h,a6,c⟩:=Zh c
 obtain ⟨a1,c⟩:=Zo c
 refine Wm (((d.map Za) ++ (([(⟨a,(w64 (h.f_Lo-1))⟩:Zb)]:List Zb).map Za)):(List (List PV))) ((d ++ ([(⟨a,(w64 (h.f_Lo-1))⟩:Zb)]:List Zb)).map Za) (fun m_=>([(0,one (.sl (v0.map Za))),(3,ar 103 (f+1)),(5,oi e)],[(103,.arr 2 m_)],[idxL (v0.map Za) e=some (Za h),f=(d.map Za).length,(d.map Za).length+(([(⟨a,(w64 (h.f_Lo-1))⟩:Zb)]:List Zb).map Za).length≤1073741824,∀es,es∈(([(⟨a,(w64 (h.f_Lo-1))⟩:Zb)]:List Zb).map Za)→es.length=2])) (zm) [(4,.cells (Za h))] ⟨(Zt _ a6),zt,(by first | exact a1 | (simp only [List.length_map,Zi];exact a1)),(ZQ ([(⟨a,(w64 (h.f_Lo-1))⟩:Zb)]:List Zb)),trivial⟩ ?_
 exact ⟨(d ++ ([(⟨a,(w64 (h.f_Lo-1))⟩:Zb)]:List Zb)),(f+1),jk,zt,c⟩ }
 {
 have c:=Zj c q
 refine WA.skip ?_
 exact ⟨d,f,jk,zt,c⟩ } } }
  {
 have c:=Zj c p
 refine WA.exit ?_
 refine WA.join (fun z=>∃(j:List Zb) (u:Nat),J z [(3,ar 103 u)] [(103,.arr 2 (j.map Za))]∧u=(j:List _).length∧ZeR k j=some r) ?_ ?_
 {
 rintro z ⟨j,u,x,b2,c⟩
 refine Wj x ?_
 clear x
 refine WA.seq ?_
 refine WA.freeze 103 3 (s:=2) (n:=u) (els:=(j.map Za)) rfl rfl zt ?_
 refine Wk [(3,one (.sl (j.map Za)))] [] ?_
 obtain ⟨a0,a8,c⟩:=Zh c
 obtain ⟨w,a9,c⟩:=Zh c
 refine Wo [(1,.callR [] (one (.sl (a0.map Za)))),(2,.callR [] (one (.sl (w.map Za))))] [(2,one (.sl (w.map Za)))] [] [SM 143 [] [] (one (.sl (a0.map Za))) [],([]:List Nat).Nodup,SM 190 [one (.sl (j.map Za)),one (.sl (a0.map Za))] [] (one (.sl (w.map Za))) [],([]:List Nat).Nodup] ⟨(ZjS k _ a8),nd,(ZmY k _ _ _ a9),nd,trivial⟩ ?_
 refine WA.ret ?_
 obtain rfl:=zj_ c
 exact Zq (one (.sl (w.map Za))) [] kr kr kr kr nd rfl rfl }
 {
 refine Ws [] [(3,ar 103 f),(4,oi a),(37,ob (decide (a≤1114111)))] [(103,.arr 2 (d.map Za))] ?_
 refine WA.cond (b:=(decide (a≤1114111))) rfl (fun t=>?_) (fun t=>?_)
 {
 have c:=Zk c t
 obtain ⟨a2,c⟩:=Zo c
 refine Wm (((d.map Za) ++ (([(⟨a,1114111⟩:Zb)]:List Zb).map Za)):(List (List PV))) ((d ++ ([(⟨a,1114111⟩:Zb)]:List Zb)).map Za) (fun m_=>([(3,ar 103 (f+1))],[(103,.arr 2 m_)],[f=(d.map Za).length,(d.map Za).length+(([(⟨a,1114111⟩:Zb)]:List Zb).map Za).length≤1073741824,∀es,es∈(([(⟨a,1114111⟩:Zb)]:List Zb).map Za)→es.length=2])) (zm) [] ⟨zt,(by first | exact a2 | (simp only [List.length_map,Zi];exact a2)),(ZQ ([(⟨a,1114111⟩:Zb)]:List Zb)),trivial⟩ ?_
 exact ⟨(d ++ ([(⟨a,1114111⟩:Zb)]:List Zb)),(f+1),jk,zt,c⟩ }
 {
 have c:=Zj c t
 refine WA.skip ?_
 exact ⟨d,f,jk,zt,c⟩ } } }
def F145 (k:Nat) (v0:Int):Option Zd:=
  ((some (⟨1,([(⟨v0,v0⟩:Zb)]:List Zb),([]:List Zd),0,0⟩:Zd)))
theorem Zho (k:Nat) (v0:Int) (r:Zd) (a:F145 k v0=some r):SM 145 [oi v0] [] (tv (Zc r)) []:=by
 refine Zz [] Tryz.func145 rfl kr kr ?_
 show WA _ _ 8 _ _ _
 refine Ws [(0,.obj 102)] [(0,oi v0),(2,pt 102)] [(102,bx (Zc (⟨0,([]:List Zb),([]:List Zd),0,0⟩:Zd)))] ?_
 refine Ws [] [(2,pt 102)] [(102,bx (Zc (⟨1,([(⟨v0,v0⟩:Zb)]:List Zb),([]:List Zd),0,0⟩:Zd)))] ?_
 refine WA.ret ?_
 obtain rfl:=zj_ a
 exact Zq (tv (Zc (⟨1,([(⟨v0,v0⟩:Zb)]:List Zb),([]:List Zd),0,0⟩:Zd))) [] kr kr kr kr nd rfl rfl
def Zdx (b:Int→Option Bool) (v0:List UInt8) (v1:Int) (a:Int):Option Bool:=
  (cond (decide (a<(v0.length:Int))) ((idxL v0 a).bind fun c=>(cond ((c.toNat:Int) == v1) ((some true)) ((b (w64 (a+1)))))) (((some false))))
def Zdy (v0:List UInt8) (v1:Int):Nat→Int→Option Bool
  | 0,_=>none
  | b+1,a=>Zdx (Zdy v0 v1 b) v0 v1 a
def F146 (k:Nat) (v0:List UInt8) (v1:Int):Option Bool:=
  ((Zdy v0 v1 k 0))
theorem Zhp (k:Nat) (v0:List UInt8) (v1:Int) (r:Bool) (c:F146 k v0 v1=some r):SM 146 [one (.str v0),one (.int .u8 v1)] [] (ob r) []:=by
 refine Zz [] Tryz.func146 rfl kr kr ?_
 show WA _ _ 17 _ _ _
 refine Ws [] [(0,one (.str v0)),(1,one (.int .u8 v1))] [] ?_
 refine WA.seq ?_
 refine Ws [] [(0,one (.str v0)),(1,one (.int .u8 v1)),(5,oi 0)] [] ?_
 refine WA.block ?_
 refine WA.loop (fun m n=>∃(a:Int),J n [(0,one (.str v0)),(1,one (.int .u8 v1)),(5,oi a)] []∧Zdy v0 v1 m a=some r) k ⟨0,jk,c⟩ ?_
 clear c
 rintro m0 n ⟨a,l,c⟩
 refine Wj l ?_
 clear l
 cases m0 with
 | zero=>cases c
 | succ m0=>
  obtain ⟨j,h⟩:∃g,g=Zdy v0 v1 m0:=⟨_,rfl⟩
  have c:Zdx j v0 v1 a=some r:=by first | (rw [h];exact c) | exact c
  refine WA.seq ?_
  refine Ws [] [(0,one (.str v0)),(1,one (.int .u8 v1)),(5,oi a),(9,ob (decide (a<(v0.length:Int))))] [] ?_
  refine WA.cond (b:=(decide (a<(v0.length:Int)))) rfl (fun d=>?_) (fun d=>?_)
  {
 have c:=Zk c d
 refine WA.skip ?_
 refine WA.seq ?_
 refine WA.block ?_
 obtain ⟨f,i,c⟩:=Zh c
 refine Wos [(2,.num (f.toNat:Int))] [(0,one (.str v0)),(1,one (.int .u8 v1)),(5,oi a),(16,ob ((f.toNat:Int) == v1))] [] [(idxL v0 a).map (fun b=>(b.toNat:Int))=some (f.toNat:Int)] ⟨(by rw [i];rfl),trivial⟩ ?_
 refine WA.cond (b:=((f.toNat:Int) == v1)) rfl (fun e=>?_) (fun e=>?_)
 {
 have c:=Zk c e
 refine Ws [] [(4,ob true)] [] ?_
 refine WA.ret ?_
 obtain rfl:=zj_ c
 exact Zq (ob true) [] kr kr kr kr nd rfl rfl }
 {
 have c:=Zj c e
 refine WA.skip ?_
 refine Wr [] [(0,one (.str v0)),(1,one (.int .u8 v1)),(5,oi (w64 (a+1)))] [] ?_
 exact ⟨m0,zl_ _,(w64 (a+1)),jk,by rw [h] at c;exact c⟩ } }
  {
 have c:=Zj c d
 refine WA.exit ?_
 refine Ws [] [(4,ob false)] [] ?_
 refine WA.ret ?_
 obtain rfl:=zj_ c
 exact Zq (ob false) [] kr kr kr kr nd rfl rfl }
def ZiL (k:Nat) (d:(List Int)→Int→Option (List Int)) (v0:List UInt8) (a:List Int) (b:Int):Option (List Int):=
  (cond (decide (b<(v0.length:Int))) ((F46 k v0 b).bind fun c=>(if a.length+([c.1]:List Int).length≤1073741824 then (d (a ++ ([c.1]:List Int)) (w64 (b+c.2))) else none)) (((some a))))
def Ze0 (k:Nat) (v0:List UInt8):Nat→(List Int)→Int→Option (List Int)
  | 0,_,_=>none
  | c+1,a,b=>ZiL k (Ze0 k v0 c) v0 a b
def F44 (k:Nat) (v0:List UInt8):Option (List Int):=
  (((Ze0 k v0 k ([]:List Int) 0)))
theorem ZqM (k:Nat) (v0:List UInt8) (r:List Int) (f:F44 k v0=some r):SM 44 [one (.str v0)] [] (one (.sl (r.map (eInt .i64)))) []:=by
 refine Zz [] Tryz.func44 rfl kr kr ?_
 show WA _ _ 25 _ _ _
 refine Ws [] [(0,one (.str v0))] [] ?_
 refine Ws [(0,.obj 103)] [(0,one (.str v0)),(3,ar 103 0)] [(103,.arr 1 (([]:List Int).map (eInt .i64)))] ?_
 refine WA.seq ?_
 refine Ws [] [(0,one (.str v0)),(3,ar 103 0),(4,oi 0)] [(103,.arr 1 (([]:List Int).map (eInt .i64)))] ?_
 refine WA.block ?_
 refine WA.loop (fun m t=>∃(a:List Int) (e:Nat) (d:Int),J t [(0,one (.str v0)),(3,ar 103 e),(4,oi d)] [(103,.arr 1 (a.map (eInt .i64)))]∧e=(a:List _).length∧Ze0 k v0 m a d=some r) k ⟨([]:List Int),0,0,jk,zt,f⟩ ?_
 clear f
 rintro m0 t ⟨a,e,d,q,p,f⟩
 refine Wj q ?_
 clear q
 cases m0 with
 | zero=>cases f
 | succ m0=>
  obtain ⟨o,i⟩:∃g,g=Ze0 k v0 m0:=⟨_,rfl⟩
  have f:ZiL k o v0 a d=some r:=by first | (rw [i];exact f) | exact f
  refine WA.seq ?_
  refine Ws [] [(0,one (.str v0)),(3,ar 103 e),(4,oi d),(10,ob (decide (d<(v0.length:Int))))] [(103,.arr 1 (a.map (eInt .i64)))] ?_
  refine WA.cond (b:=(decide (d<(v0.length:Int)))) rfl (fun h=>?_) (fun h=>?_)
  {
 have f:=Zk f h
 refine WA.skip ?_
 refine WA.block ?_
 obtain ⟨c,l,f⟩:=Zh f
 refine Wos [(2,.callR [] (.tup [(false,[.pv (.int .i64 c.1)]),(false,[.pv (.int .i64 c.2)])]))] [(0,one (.str v0)),(3,ar 103 e),(4,oi d),(5,oi c.1),(6,oi c.2)] [(103,.arr 1 (a.map (eInt .i64)))] [SM 46 [one (.str v0),oi d] [] (.tup [(false,[.pv (.int .i64 c.1)]),(false,[.pv (.int .i64 c.2)])]) [],([]:List Nat).Nodup] ⟨(Zlu k _ _ _ l),nd,trivial⟩ ?_
 refine WA.seq ?_
 obtain ⟨j,f⟩:=Zo f
 refine Wm (((a.map (eInt .i64)) ++ (([c.1]:List Int).map (eInt .i64))):(List (List PV))) ((a ++ ([c.1]:List Int)).map (eInt .i64)) (fun u=>([(0,one (.str v0)),(3,ar 103 (e+1)),(4,oi d),(6,oi c.2)],[(103,.arr 1 u)],[e=(a.map (eInt .i64)).length,(a.map (eInt .i64)).length+(([c.1]:List Int).map (eInt .i64)).length≤1073741824,∀es,es∈(([c.1]:List Int).map (eInt .i64))→es.length=1])) (zm) [] ⟨zt,(by first | exact j | (simp only [List.length_map,Zi];exact j)),(ZcU _ _ _ (fun _=>rfl)),trivial⟩ ?_
 refine Wr [] [(0,one (.str v0)),(3,ar 103 (e+1)),(4,oi (w64 (d+c.2)))] [(103,.arr 1 ((a ++ ([c.1]:List Int)).map (eInt .i64)))] ?_
 exact ⟨m0,zl_ _,(a ++ ([c.1]:List Int)),(e+1),(w64 (d+c.2)),jk,zt,by rw [i] at f;exact f⟩ }
  {
 have f:=Zj f h
 refine WA.exit ?_
 refine Ws [] [(2,ar 103 e)] [(103,.arr 1 (a.map (eInt .i64)))] ?_
 refine WA.freeze 103 2 (s:=1) (n:=e) (els:=(a.map (eInt .i64))) rfl rfl zt ?_
 refine Wk [(2,one (.sl (a.map (eInt .i64))))] [] ?_
 refine WA.ret ?_
 obtain rfl:=zj_ f
 exact Zq (one (.sl (a.map (eInt .i64)))) [] kr kr kr kr nd rfl rfl }
end Go.Proofs.YthilboheomikjaaGreatDoor
end
section
namespace Go.Proofs.YthilboheomikjaaGreatDoor
open Go.AL Go.Lib
set_option maxRecDepth 100000
mutual
def fs:Zd→Nat
  | ⟨k,st,l,a,b⟩=>1+max (l.length+4*st.length+40) (fsL l)
def fsL:List Zd→Nat
  | []=>0
  | x :: l=>max (fs x) (fsL l)
end
mutual
def sz:Zd→Int
  | ⟨k,st,l,a,b⟩=>if k=1 then 1 else if k=2∨k=3 then mn (szL l+1) 1000 else if k=4 then mn (szH l*mn (mx (if b<0 then w64 (a+1) else b) 1) 1000+1) 1000 else 1
def szL:List Zd→Int
  | []=>0
  | x :: l=>sz x+szL l
def szH:List Zd→Int
  | []=>0
  | x :: _=>sz x
end
mutual
def dp:Zd→Nat
  | ⟨k,st,l,a,b⟩=>1+dpL l
def dpL:List Zd→Nat
  | []=>0
  | x :: l=>max (dp x) (dpL l)
end
def OK0 (r:Zd):Prop:=(r.f_Kind=1∧(r.f_Min=0∧r.f_Max=0)∧r.f_L=[]∧Zb8 r.f_Set)∨(r.f_Kind=2∧(r.f_Min=0∧r.f_Max=0)∧r.f_L.length≠1∧r.f_Set=[])∨
  (r.f_Kind=3∧(r.f_Min=0∧r.f_Max=0)∧1<r.f_L.length∧r.f_Set=[])∨(r.f_Kind=4∧r.f_L.length=1∧r.f_Set=[]∧0≤r.f_Min∧r.f_Min≤20∧r.f_Max≤20∧(r.f_Max = -1∨r.f_Min≤r.f_Max))
mutual
def OK:Zd→Prop
  | ⟨k,st,l,a,b⟩=>OK0 ⟨k,st,l,a,b⟩∧OKL l
def OKL:List Zd→Prop
  | []=>True
  | x :: l=>OK x∧OKL l
end
theorem ZbT {l:List Zd} {x:Zd} (h:x∈l):fs x≤fsL l:=by
  induction l with
  | nil=>cases h
  | cons y l ih=>
    simp only [fsL]
    rcases List.mem_cons.1 h with rfl | h
    · omega
    · have:=ih h;omega
theorem Zm0 {l:List Zd}:OKL l↔∀x∈l,OK x:=by
  induction l with
  | nil=>simp [OKL]
  | cons y l ih=>simp only [OKL,ih,List.forall_mem_cons]
theorem Zdc {l:List Zd} {n:Nat}:dpL l≤n↔∀x∈l,dp x≤n:=by
  induction l with
  | nil=>simp [dpL]
  | cons y l ih=>simp only [dpL,List.forall_mem_cons,←ih];omega
theorem ZlT (r:Zd):1≤dp r:=by cases r;simp only [dp];omega
theorem Zng {x:Int} (h:0≤x):1≤mn (x+1) 1000∧mn (x+1) 1000≤1000:=by unfold mn;split <;> omega
mutual
theorem ZcG:∀r:Zd,1≤sz r∧sz r≤1000
  | ⟨k,st,l,a,b⟩=>by
    have h1:=ZdU l
    have h2:=ZqG l
    have h3:0≤szH l*mn (mx (if b<0 then w64 (a+1) else b) 1) 1000:=Int.mul_nonneg h2.1 (by unfold mn mx;split <;> split <;> omega)
    simp only [sz]
    split
    · omega
    · split
      · exact Zng h1
      · split
        · exact Zng h3
        · omega
theorem ZdU:∀l:List Zd,0≤szL l
  | []=>by simp [szL]
  | x :: l=>by
    have:=ZcG x
    have:=ZdU l
    simp only [szL];omega
theorem ZqG:∀l:List Zd,0≤szH l∧szH l≤1000
  | []=>by simp [szH]
  | x :: l=>by
    have:=ZcG x
    simp only [szH];omega
end
theorem Zmy {R:Zd→Option Int} {v:Zd} (hk:v.f_Kind=2∨v.f_Kind=3) (hl:v.f_L.length≤1048576) (hR:∀x∈v.f_L,R x=some (sz x)):∀(l:List Zd) (n:Int) (i m:Nat),v.f_L.drop i=l→l.length<m→i≤v.f_L.length→0≤n→n≤1000→
    ZaI R v m n (i:Int)=some (mn (mn (n+szL l) 1000+1) 1000)
  | [],n,i,m,hd,hm,hi,h0,h1=>by
    obtain ⟨m,rfl⟩:∃q,m=q+1:=⟨m-1,by simp at hm;omega⟩
    have:=ZV hd
    show ZaR _ _ _ _ _=_
    unfold ZaR
    rw [df (by omega),zf_,ZE (by omega),zf_,ZE (by omega),zf_,Zv (by omega) (by omega)]
    simp only [szL,Int.add_zero]
    congr 2
    unfold mn;split <;> omega
  | x :: l,n,i,m,hd,hm,hi,h0,h1=>by
    obtain ⟨m,rfl⟩:∃q,m=q+1:=⟨m-1,by omega⟩
    obtain ⟨g1,g2,g3⟩:=ZO hd
    rw [List.length_cons] at hm
    have hx:=hR x (List.mem_of_getElem? g2)
    have hs:=ZcG x
    have hsl:=ZdU l
    have e5:ZbX R (ZaI R v m) n (i:Int) x true=some (mn (mn (n+szL (x :: l)) 1000+1) 1000):=by
      unfold ZbX
      rw [zt_,hx,zb_]
      unfold ZeW
      have hb:0≤mn (n+sz x) 1000∧mn (n+sz x) 1000≤1000:=by unfold mn;split <;> omega
      rw [ZS (by omega),Zv (x:=n+sz x) (by omega) (by omega),Zmy hk hl hR l _ (i+1) m g3 (by omega) (by omega) hb.1 hb.2]
      have:mn (mn (n+sz x) 1000+szL l) 1000=mn (n+szL (x :: l)) 1000:=by
        simp only [szL]
        unfold mn
        split <;> split <;> (try split) <;> omega
      rw [this]
    show ZaR R (ZaI R v m) v n (i:Int)=_
    unfold ZaR
    rw [dt (by omega),zt_,Zy,g2,zb_]
    rcases hk with hk | hk
    · rw [hk];exact e5
    · rw [hk];exact e5
theorem Zg7 {R:Zd→Option Int} {v:Zd} (h2:v.f_Kind≠2) (h3:v.f_Kind≠3) (hl:v.f_L.length≤1048576):∀(l:List Zd) (n:Int) (i m:Nat),(v.f_Kind=4→0<i)→v.f_L.drop i=l→l.length<m→i≤v.f_L.length→
    ZaI R v m n (i:Int)=cond (v.f_Kind == 1) (some 1) (cond (v.f_Kind == 4) (cond (decide (v.f_Max<0)) (Zcp n (w64 (v.f_Min+1))) (Zcp n v.f_Max)) (some (mn (w64 (n+1)) 1000)))
  | [],n,i,m,h4,hd,hm,hi=>by
    obtain ⟨m,rfl⟩:∃q,m=q+1:=⟨m-1,by simp at hm;omega⟩
    have:=ZV hd
    show ZaR _ _ _ _ _=_
    unfold ZaR
    rw [df (by omega),zf_]
  | x :: l,n,i,m,h4,hd,hm,hi=>by
    obtain ⟨m,rfl⟩:∃q,m=q+1:=⟨m-1,by omega⟩
    obtain ⟨g1,g2,g3⟩:=ZO hd
    rw [List.length_cons] at hm
    have e5:ZbX R (ZaI R v m) n (i:Int) x false=ZaI R v m n ((i+1:Nat):Int):=by
      unfold ZbX ZeW
      rw [zf_,ZS (by omega)]
    have e6:=Zg7 h2 h3 hl (R:=R) l n (i+1) m (fun _=>by omega) g3 (by omega) (by omega)
    show ZaR R (ZaI R v m) v n (i:Int)=_
    unfold ZaR
    rw [dt (by omega),zt_,Zy,g2,zb_,ZE h2,zf_,ZE h3,zf_]
    by_cases hk:v.f_Kind=4
    · have:=h4 hk
      rw [ZX hk,zt_,ZE (show ¬(i:Int)=0 by omega),e5,e6,ZX hk]
    · rw [ZE hk,zf_,e5,e6,ZE hk]
theorem Zl8 {x y:Int} (h0:0≤x) (h1:x≤1000) (h2:1≤y) (h3:y≤1000):0≤x*y∧x*y≤1000000:=
  ⟨Int.mul_nonneg h0 (by omega),by have:=Int.mul_le_mul h1 h3 (by omega) (by omega:(0:Int)≤1000);omega⟩
theorem mnmx (t:Int):1≤mn (mx t 1) 1000∧mn (mx t 1) 1000≤1000:=by unfold mn mx;split <;> split <;> omega
theorem ZpL {n t:Int} (h0:0≤n) (h1:n≤1000):Zcp n t=some (mn (n*mn (mx t 1) 1000+1) 1000):=by
  have h2:=mnmx t
  have h3:=Zl8 h0 h1 h2.1 h2.2
  unfold Zcp
  rw [Zv (x:=n*_) (by omega) (by omega),Zv (by omega) (by omega)]
theorem Zki:∀(k:Nat) (r:Zd),k≤1048576→fs r≤k→F32 k r=some (sz r)
  | 0,⟨kd,st,l,a,b⟩,_,hf=>by simp only [fs] at hf;omega
  | k+1,⟨kd,st,l,a,b⟩,hk,hf=>by
    simp only [fs] at hf
    have hR:∀x∈l,F32 k x=some (sz x):=fun x hx=>Zki k x (by omega) (by have:=ZbT hx;omega)
    show ZaI (F32 k) ⟨kd,st,l,a,b⟩ k 0 0=_
    simp only [sz]
    by_cases h23:kd=2∨kd=3
    · have e:=Zmy (R:=F32 k) (v:=⟨kd,st,l,a,b⟩) h23 (by show l.length≤_;omega) hR l 0 0 k rfl (by omega) (Nat.zero_le _) (by omega) (by omega)
      have e':ZaI (F32 k) ⟨kd,st,l,a,b⟩ k 0 0=_:=e
      have:=ZdU l
      rw [e',if_neg (by omega),if_pos h23]
      congr 1
      unfold mn
      split <;> split <;> (try split) <;> omega
    · rw [if_neg h23]
      by_cases h4:kd=4
      · subst h4
        rw [if_neg (by omega),if_pos rfl]
        have fin:∀n:Int,0≤n→n≤1000→cond ((4:Int) == 1) (some 1) (cond ((4:Int) == 4) (cond (decide (b<0)) (Zcp n (w64 (a+1))) (Zcp n b)) (some (mn (w64 (n+1)) 1000)))=some (mn (n*mn (mx (if b<0 then w64 (a+1) else b) 1) 1000+1) 1000):=fun n h0 h1=>by
          rw [ZE (by omega),zf_,ZX rfl,zt_]
          by_cases hb:b<0
          · rw [dt hb,zt_,ZpL h0 h1,if_pos hb]
          · rw [df hb,zf_,ZpL h0 h1,if_neg hb]
        cases l with
        | nil=>
          obtain ⟨m,rfl⟩:∃q,k=q+1:=⟨k-1,by omega⟩
          show ZaR _ _ _ _ _=_
          unfold ZaR
          rw [df (by simp),zf_]
          exact fin 0 (by omega) (by omega)
        | cons x l=>
          obtain ⟨m,rfl⟩:∃q,k=q+1:=⟨k-1,by omega⟩
          have hx:=hR x List.mem_cons_self
          have hs:=ZcG x
          rw [List.length_cons] at hf
          have e:=Zg7 (R:=F32 (m+1)) (v:=⟨4,st,x :: l,a,b⟩) (by show (4:Int)≠2;omega) (by show (4:Int)≠3;omega) (by show (x :: l).length≤_;rw [List.length_cons];omega) l (mn (sz x) 1000) 1 m (fun _=>by omega) rfl (by omega) (by simp)
          show ZaR (F32 (m+1)) (ZaI (F32 (m+1)) ⟨4,st,x :: l,a,b⟩ m) ⟨4,st,x :: l,a,b⟩ 0 0=_
          unfold ZaR
          have e1:w64 ((0:Int)+1)=((1:Nat):Int):=by rw [Zv (by omega) (by omega)];rfl
          rw [dt (by simp),zt_,Zc2,zb_]
          simp only [show ((4:Int) == 2)=false from rfl,show ((4:Int) == 3)=false from rfl,show ((4:Int) == 4)=true from rfl,show ((0:Int) == 0)=true from rfl,zt_,zf_]
          unfold ZbX ZeW
          rw [zt_,hx,zb_,e1,Int.zero_add,Zv (x:=sz x) (by omega) (by omega),e]
          have e2:mn (sz x) 1000=sz x:=mn_l (by omega)
          rw [e2]
          exact fin _ (by omega) (by omega)
      · have e:=Zg7 (R:=F32 k) (v:=⟨kd,st,l,a,b⟩) (by show kd≠2;omega) (by show kd≠3;omega) (by show l.length≤_;omega) l 0 0 k (fun h=>absurd h h4) rfl (by omega) (Nat.zero_le _)
        have e':ZaI (F32 k) ⟨kd,st,l,a,b⟩ k 0 0=_:=e
        rw [e',if_neg h4]
        show cond (kd == 1) _ (cond (kd == 4) _ _)=_
        rw [ZE h4,zf_]
        by_cases h1:kd=1
        · rw [ZX h1,zt_,if_pos h1]
        · rw [ZE h1,zf_,if_neg h1,Zv (by omega) (by omega)];rfl
theorem Zk1 {R:Zd→Option Int} {v:Zd} (hl:v.f_L.length≤1048576) (hR:∀x∈v.f_L,R x=some (sz x)):∀(l:List Zd) (n:Int) (i m:Nat),v.f_L.drop i=l→l.length<m→i≤v.f_L.length→0≤n→n≤1000*i→
    Zd1 R v m n (i:Int)=some (mn (n+szL l+1) 1000)
  | [],n,i,m,hd,hm,hi,h0,h1=>by
    obtain ⟨m,rfl⟩:∃q,m=q+1:=⟨m-1,by simp at hm;omega⟩
    have:=ZV hd
    show ZeU _ _ _ _ _=_
    unfold ZeU Zc4
    rw [df (by omega),zf_,Zv (by omega) (by omega)]
    simp only [szL,Int.add_zero]
  | x :: l,n,i,m,hd,hm,hi,h0,h1=>by
    obtain ⟨m,rfl⟩:∃q,m=q+1:=⟨m-1,by omega⟩
    obtain ⟨g1,g2,g3⟩:=ZO hd
    rw [List.length_cons] at hm
    have hx:=hR x (List.mem_of_getElem? g2)
    have hs:=ZcG x
    show ZeU R (Zd1 R v m) v n (i:Int)=_
    unfold ZeU
    rw [dt (by omega),zt_,Zy,g2,zb_,hx,zb_,ZS (by omega),Zv (x:=n+sz x) (by omega) (by omega),Zk1 hl hR l _ (i+1) m g3 (by omega) (by omega) (by omega) (by omega)]
    simp only [szL]
    rw [Int.add_assoc n]
theorem Ziw:∀(k:Nat) (r:Zd),k≤1048576→fs r≤k→F20 k r=some (sz r)
  | 0,⟨kd,st,l,a,b⟩,_,hf=>by simp only [fs] at hf;omega
  | k+1,⟨kd,st,l,a,b⟩,hk,hf=>by
    simp only [fs] at hf
    have hR:∀x∈l,F20 k x=some (sz x):=fun x hx=>Ziw k x (by omega) (by have:=ZbT hx;omega)
    have e:=Zk1 (R:=F20 k) (v:=⟨kd,st,l,a,b⟩) (by show l.length≤_;omega) hR l 0 0 k rfl (by omega) (Nat.zero_le _) (by omega) (by omega)
    have e':Zd1 (F20 k) ⟨kd,st,l,a,b⟩ k 0 0=some (mn (0+szL l+1) 1000):=e
    rw [Int.zero_add] at e'
    show Zk8 (F20 k) k ⟨kd,st,l,a,b⟩=_
    unfold Zk8 ZiB
    simp only [sz]
    by_cases k1:kd=1
    · rw [ZX k1,zt_,if_pos k1]
    rw [ZE k1,zf_,if_neg k1]
    by_cases k2:kd=2
    · rw [ZX k2,zt_,zt_,if_pos (.inl k2)];exact e'
    rw [ZE k2,zf_]
    by_cases k3:kd=3
    · rw [ZX k3,zt_,if_pos (.inr k3)];exact e'
    rw [ZE k3,zf_,if_neg (by omega)]
    have j3:Zc4 0=some 1:=rfl
    by_cases k4:kd=4
    · rw [ZX k4,zt_,if_pos k4]
      cases l with
      | nil=>
        rw [df (by simp),zf_,j3]
        simp only [szH,Int.zero_mul];rfl
      | cons x l=>
        have hx:=hR x List.mem_cons_self
        have hs:=ZcG x
        have fin:∀t,Zgi (F20 k) ⟨kd,st,x :: l,a,b⟩ t=some (mn (szH (x :: l)*mn (mx t 1) 1000+1) 1000):=fun t=>by
          have h2:=mnmx t
          have h3:=Zl8 (show 0≤sz x by omega) hs.2 h2.1 h2.2
          unfold Zgi Zc4
          simp only
          rw [Zc2,zb_,hx,zb_,Zv (x:=sz x*_) (by omega) (by omega),Zv (by omega) (by omega)]
          rfl
        rw [dt (by simp),zt_,fin,fin]
        by_cases hb:b<0
        · rw [dt hb,zt_,if_pos hb]
        · rw [df hb,zf_,if_neg hb]
    · rw [ZE k4,zf_,if_neg k4];rfl
end Go.Proofs.YthilboheomikjaaGreatDoor
end
section
namespace Go.Proofs.YthilboheomikjaaGreatDoor
open Go.AL Go.Lib
set_option maxRecDepth 100000
theorem Zrp {d:Nat} (h:1≤d) (h2:d≤1000):w64 ((d:Int)-1)=((d-1:Nat):Int):=by rw [Zv (by omega) (by omega)];omega
theorem ZkH {R:Zd→Int→Option Bool} {k d:Nat} {v:Zd} {P:Zd→Prop} (hd1:1≤d) (hd2:d≤1000) (hl:v.f_L.length≤1048576) (hR:∀x∈v.f_L,∃t,R x ((d-1:Nat):Int)=some t∧(t=true↔P x)) {t0:Bool} {Q:Prop}
    (h0:cond (v.f_Min == 0) (ZbA k v (v.f_Max == 0)) (ZbA k v false)=some t0) (hQ:t0=true↔Q):∀(l:List Zd) (i m:Nat),v.f_L.drop i=l→l.length<m→i≤v.f_L.length→
    ∃t,Zfb R k v (d:Int) m (i:Int)=some t∧(t=true↔Q∧∀x∈l,P x)
  | [],i,m,hd,hm,hi=>by
    obtain ⟨m,rfl⟩:∃q,m=q+1:=⟨m-1,by simp at hm;omega⟩
    have:=ZV hd
    refine ⟨t0,?_,by rw [hQ];simp⟩
    show Zfa _ _ _ _ _ _=_
    unfold Zfa
    rw [df (by omega),zf_,h0]
  | x :: l,i,m,hd,hm,hi=>by
    obtain ⟨m,rfl⟩:∃q,m=q+1:=⟨m-1,by omega⟩
    obtain ⟨g1,g2,g3⟩:=ZO hd
    rw [List.length_cons] at hm
    obtain ⟨t1,e1,p1⟩:=hR x (List.mem_of_getElem? g2)
    obtain ⟨t2,e2,p2⟩:=ZkH hd1 hd2 hl hR h0 hQ l (i+1) m g3 (by omega) (by omega)
    show ∃t,Zfa R k (Zfb R k v (d:Int) m) v (d:Int) (i:Int)=_∧_
    unfold Zfa
    rw [dt (by omega),zt_,Zy,g2,zb_,Zrp hd1 hd2,e1,zb_,ZS (by omega),e2,List.forall_mem_cons]
    cases t1
    · exact ⟨false,rfl,by simp;intro _ h;exact absurd (p1.2 h) (by simp)⟩
    · exact ⟨t2,rfl,by rw [p2];exact ⟨fun h=>⟨h.1,p1.1 rfl,h.2⟩,fun h=>⟨h.1,h.2.2⟩⟩⟩
theorem len0 {α:Type} (l:List α):((l.length:Int) == 0)=decide (l=[]):=by cases l <;> simp;omega
theorem Zpk {k:Nat} {v:Zd} (hs:v.f_Set.length≤262144) (hk:4*v.f_Set.length+40≤k):∃t,cond (v.f_Min == 0) (ZbA k v (v.f_Max == 0)) (ZbA k v false)=some t∧(t=true↔OK0 v):=by
  have eb:cond (v.f_Min == 0) (ZbA k v (v.f_Max == 0)) (ZbA k v false)=ZbA k v (decide (v.f_Min=0∧v.f_Max=0)):=by
    by_cases h:v.f_Min=0
    · rw [ZX h,zt_]
      by_cases h2:v.f_Max=0
      · rw [ZX h2,dt ⟨h,h2⟩]
      · rw [ZE h2,df (fun c=>h2 c.2)]
    · rw [ZE h,zf_,df (fun c=>h c.1)]
  rw [eb]
  unfold ZbA Zgt Zgu Zgv Zcs OK0
  by_cases k1:v.f_Kind=1
  · rw [ZX k1,zt_]
    have eq0:∀t:Bool,(t=true↔((v.f_Min=0∧v.f_Max=0)∧v.f_L=[]∧Zb8 v.f_Set))→(t=true↔OK0 v):=fun t h=>by rw [h];unfold OK0;simp [k1]
    unfold OK0 at eq0
    by_cases hb:v.f_Min=0∧v.f_Max=0
    · rw [dt hb,zt_,len0]
      by_cases hl:v.f_L=[]
      · rw [dt hl,zt_]
        obtain ⟨l1,e1,p1,_⟩:=Zl9 (k:=k) (l:=v.f_Set) (by omega) (by omega)
        have hn:=Zin l1
        have hp:=p1.length_eq
        obtain ⟨l2,e2,c2,i2,n2⟩:=Zka (k:=k) (a:=mrgs l1) (by omega) (by omega)
        obtain ⟨t,e3,p3⟩:=Zpf (k:=k) (a:=l2) (b:=v.f_Set) (by omega) (by omega)
        rw [e1,zb_,ZiX,zb_,e2,zb_,e3,zb_]
        refine ⟨t,rfl,eq0 t (p3.trans ⟨fun h=>⟨hb,hl,h ▸ c2⟩,fun h=>?_⟩)⟩
        have hc:=h.2.2
        have e4:=ZkN (k:=k) (by omega) (by omega) hc.bd hc.1
        rw [e1] at e4
        have e5:=zj_ e4
        exact Zia c2 hc fun c=>by rw [i2,e5];exact ⟨fun h=>h.1,fun h=>⟨h,hc.2 c h⟩⟩
      · rw [df hl,zf_]
        exact ⟨false,rfl,eq0 _ (by simp [hl])⟩
    · rw [df hb,zf_]
      exact ⟨false,rfl,eq0 _ (by simp [hb])⟩
  rw [ZE k1,zf_]
  by_cases k2:v.f_Kind=2
  · rw [ZX k2,zt_]
    by_cases hb:v.f_Min=0∧v.f_Max=0
    · rw [dt hb,zt_]
      by_cases hl:v.f_L.length=1
      · rw [show ((v.f_L.length:Int) != 1)=false by simp [hl],zf_]
        exact ⟨false,rfl,by simp [k1,k2,hl]⟩
      · rw [show ((v.f_L.length:Int) != 1)=true by simp;omega,zt_,len0]
        exact ⟨_,rfl,by simp [k1,k2,hl,hb.1,hb.2]⟩
    · rw [df hb,zf_]
      exact ⟨false,rfl,by simp [k1,k2,hb]⟩
  rw [ZE k2,zf_]
  by_cases k3:v.f_Kind=3
  · rw [ZX k3,zt_]
    by_cases hb:v.f_Min=0∧v.f_Max=0
    · rw [dt hb,zt_]
      by_cases hl:1<v.f_L.length
      · rw [dt (by omega),zt_,len0]
        exact ⟨_,rfl,by simp [k1,k2,k3,hl,hb.1,hb.2]⟩
      · rw [df (by omega),zf_]
        exact ⟨false,rfl,by simp [k1,k2,k3,hl]⟩
    · rw [df hb,zf_]
      exact ⟨false,rfl,by simp [k1,k2,k3,hb]⟩
  rw [ZE k3,zf_]
  by_cases k4:v.f_Kind=4
  · rw [ZX k4,zt_]
    by_cases hl:v.f_L.length=1
    · rw [show ((v.f_L.length:Int) == 1)=true by simp [hl],zt_,len0]
      by_cases hs0:v.f_Set=[]
      · rw [dt hs0,zt_]
        by_cases a1:0≤v.f_Min
        · rw [dt a1,zt_]
          by_cases a2:v.f_Min≤20
          · rw [dt a2,zt_]
            by_cases a3:v.f_Max≤20
            · rw [dt a3,zt_]
              by_cases a4:v.f_Max = -1
              · rw [ZX a4,zt_]
                exact ⟨true,rfl,by simp [k4,hl,hs0,a1,a2,a3,a4]⟩
              · rw [ZE a4,zf_]
                exact ⟨_,rfl,by simp [k1,k2,k3,k4,hl,hs0,a1,a2,a3,a4]⟩
            · rw [df a3,zf_];exact ⟨false,rfl,by simp [k1,k2,k3,a3]⟩
          · rw [df a2,zf_];exact ⟨false,rfl,by simp [k1,k2,k3,a2]⟩
        · rw [df a1,zf_];exact ⟨false,rfl,by simp [k1,k2,k3,a1]⟩
      · rw [df hs0,zf_];exact ⟨false,rfl,by simp [k1,k2,k3,hs0]⟩
    · rw [show ((v.f_L.length:Int) == 1)=false by simp;omega,zf_];exact ⟨false,rfl,by simp [k1,k2,k3,hl]⟩
  rw [ZE k4,zf_]
  exact ⟨false,rfl,by simp [k1,k2,k3,k4]⟩
theorem Zot:∀(k:Nat) (r:Zd) (d:Nat),k≤1048576→fs r≤k→d≤1000→∃t,F52 k r (d:Int)=some t∧(t=true↔OK r∧dp r≤d)
  | 0,⟨kd,st,l,a,b⟩,d,_,hf,_=>by simp only [fs] at hf;omega
  | k+1,⟨kd,st,l,a,b⟩,d,hk,hf,hd=>by
    simp only [fs] at hf
    show ∃t,Zld (F52 k) k ⟨kd,st,l,a,b⟩ (d:Int)=_∧_
    unfold Zld
    by_cases h0:d=0
    · subst h0
      refine ⟨false,rfl,by simp;intro _;have:=ZlT ⟨kd,st,l,a,b⟩;omega⟩
    · rw [ZE (by omega),zf_]
      obtain ⟨t0,e0,p0⟩:=Zpk (k:=k) (v:=⟨kd,st,l,a,b⟩) (by show st.length≤_;omega) (by show 4*st.length+40≤k;omega)
      obtain ⟨t,e,p⟩:=ZkH (R:=F52 k) (k:=k) (d:=d) (v:=⟨kd,st,l,a,b⟩) (P:=fun x=>OK x∧dp x≤d-1) (by omega) hd (by show l.length≤_;omega) (fun x hx=>Zot k x (d-1) (by omega) (by have:=ZbT (show x∈l from hx);omega) (by omega)) e0 p0 l 0 k rfl (by omega) (Nat.zero_le _)
      refine ⟨t,e,p.trans ?_⟩
      simp only [OK,dp,Zm0]
      constructor
      · rintro ⟨h1,h2⟩
        have:dpL l≤d-1:=Zdc.2 fun x hx=>(h2 x hx).2
        exact ⟨⟨h1,fun x hx=>(h2 x hx).1⟩,by omega⟩
      · rintro ⟨⟨h1,h2⟩,h3⟩
        have:=Zdc.1 (show dpL l≤d-1 by omega)
        exact ⟨h1,fun x hx=>⟨h2 x hx,this x hx⟩⟩
theorem ZqV {k:Nat} {r:Zd} (hk:k≤1048576) (hf:fs r≤k):∃t,F30 k r=some t∧(t=true↔(OK r∧dp r≤16)∧sz r≤200):=by
  obtain ⟨t,e,p⟩:=Zot k r 16 hk hf (by omega)
  have e':F52 k r 16=some t:=e
  unfold F30 ZiH
  rw [e',zb_,Zki k r hk hf,zb_]
  cases t
  · exact ⟨false,rfl,by simp;intro h1 h2;exact absurd (p.2 ⟨h1,h2⟩) (by simp)⟩
  · exact ⟨_,rfl,by simp [p.1 rfl]⟩
theorem Zkz {R:Zd→Int→Option Int} {n:Nat} {v:Zd} (hl:v.f_L.length≤1048576) (hn:n≤16) (hR:∀x∈v.f_L,∃t,R x ((n+1:Nat):Int)=some t∧((n+1:Nat):Int)≤t∧t≤17∧(t≤16↔n+1+dp x≤17)) :
    ∀(l:List Zd) (c:Int) (i m:Nat),v.f_L.drop i=l→l.length<m→i≤v.f_L.length→(n:Int)≤c→c≤17→∃t,Zc5 R v (n:Int) m c (i:Int)=some t∧(n:Int)≤t∧t≤17∧(t≤16↔c≤16∧∀x∈l,n+1+dp x≤17)
  | [],c,i,m,hd,hm,hi,h0,h1=>by
    obtain ⟨m,rfl⟩:∃q,m=q+1:=⟨m-1,by simp at hm;omega⟩
    have:=ZV hd
    refine ⟨c,?_,h0,h1,by simp⟩
    show ZbY _ _ _ _ _ _=_
    unfold ZbY
    rw [df (by omega),zf_]
  | x :: l,c,i,m,hd,hm,hi,h0,h1=>by
    obtain ⟨m,rfl⟩:∃q,m=q+1:=⟨m-1,by omega⟩
    obtain ⟨g1,g2,g3⟩:=ZO hd
    rw [List.length_cons] at hm
    obtain ⟨t1,e1,a1,b1,p1⟩:=hR x (List.mem_of_getElem? g2)
    have hm1:(n:Int)≤mx c t1∧mx c t1≤17∧(mx c t1≤16↔c≤16∧t1≤16):=by unfold mx;split <;> omega
    obtain ⟨t2,e2,a2,b2,p2⟩:=Zkz hl hn hR l (mx c t1) (i+1) m g3 (by omega) (by omega) hm1.1 hm1.2.1
    refine ⟨t2,?_,a2,b2,by rw [p2,hm1.2.2,List.forall_mem_cons,p1,and_assoc]⟩
    show ZbY R (Zc5 R v (n:Int) m) v (n:Int) c (i:Int)=_
    unfold ZbY
    rw [dt (by omega),zt_,Zy,g2,zb_,ZS (by omega),e1,zb_,ZS (by omega),e2]
theorem Zm6:∀(k:Nat) (r:Zd) (n:Nat),k≤1048576→fs r≤k→n≤17→∃t,F42 k r (n:Int)=some t∧(n:Int)≤t∧t≤17∧(t≤16↔n+dp r≤17)
  | 0,⟨kd,st,l,a,b⟩,n,_,hf,_=>by simp only [fs] at hf;omega
  | k+1,⟨kd,st,l,a,b⟩,n,hk,hf,hn=>by
    simp only [fs] at hf
    show ∃t,ZhA (F42 k) k ⟨kd,st,l,a,b⟩ (n:Int)=_∧_
    unfold ZhA
    by_cases h17:n=17
    · subst h17
      exact ⟨17,rfl,by omega,by omega,by have:=ZlT ⟨kd,st,l,a,b⟩;omega⟩
    · rw [df (by omega),zf_]
      obtain ⟨t,e,a1,b1,p⟩:=Zkz (R:=F42 k) (n:=n) (v:=⟨kd,st,l,a,b⟩) (by show l.length≤_;omega) (by omega) (fun x hx=>by
        obtain ⟨t,e,a1,b1,p⟩:=Zm6 k x (n+1) (by omega) (by have:=ZbT (show x∈l from hx);omega) (by omega)
        exact ⟨t,e,a1,b1,p⟩) l (n:Int) 0 k rfl (by omega) (Nat.zero_le _) (by omega) (by omega)
      refine ⟨t,e,a1,b1,p.trans ?_⟩
      simp only [dp]
      constructor
      · rintro ⟨_,h⟩
        have:dpL l≤16-n:=Zdc.2 fun x hx=>by have:=h x hx;omega
        omega
      · intro h
        exact ⟨by omega,fun x hx=>by have:=Zdc.1 (Nat.le_refl (dpL l)) x hx;omega⟩
def Chk:Int→List Zb→Prop
  | _,[]=>True
  | b,r :: l=>ZI r.f_Lo∧ZI r.f_Hi∧r.f_Lo≤r.f_Hi∧¬(r.f_Lo<55296∧57343<r.f_Hi)∧b≤r.f_Lo∧Chk (r.f_Hi+2) l
theorem Zm3:∀{l:List Zb} {b:Int},Chk b l↔Z9 b l∧∀c,inR l c→ZI c
  | [],b=>⟨fun _=>⟨trivial,fun c h=>absurd h Zat⟩,fun _=>trivial⟩
  | r :: l,b=>by
    unfold Chk Z9
    rw [Zm3 (l:=l)]
    unfold ZI
    constructor
    · rintro ⟨h1,h2,h3,h4,h5,h6,h7⟩
      refine ⟨⟨h5,h3,h6⟩,fun c hc=>?_⟩
      rcases ZL.1 hc with hc | hc
      · omega
      · exact h7 c hc
    · rintro ⟨⟨h5,h3,h6⟩,h7⟩
      have h1:=h7 r.f_Lo (ZL.2 (.inl ⟨Int.le_refl _,h3⟩))
      have h2:=h7 r.f_Hi (ZL.2 (.inl ⟨h3,Int.le_refl _⟩))
      refine ⟨h1,h2,h3,fun h=>?_,h5,h6,fun c hc=>h7 c (ZL.2 (.inr hc))⟩
      have:=h7 55296 (ZL.2 (.inl ⟨by omega,by omega⟩))
      omega
instance (c:Int):Decidable (ZI c):=by unfold ZI;infer_instance
theorem Zmw {k:Nat} {v:Zd} (hs:v.f_Set.length≤1048576):∀(l:List Zb) (b:Int) (i m:Nat),v.f_Set.drop i=l→l.length<m→i≤v.f_Set.length→(i=0→b=0)→(0<i→∃p,v.f_Set[i-1]?=some p∧ZI p.f_Hi∧b=p.f_Hi+2)→
    ∃t,Zcq k v m (i:Int)=some t∧(t=true↔Chk b l∧v.f_L=[])
  | [],b,i,m,hd,hm,hi,hb0,hb=>by
    obtain ⟨m,rfl⟩:∃q,m=q+1:=⟨m-1,by simp at hm;omega⟩
    have:=ZV hd
    refine ⟨decide (v.f_L=[]),?_,by simp [Chk]⟩
    show ZeX _ _ _ _=_
    unfold ZeX
    rw [df (by omega),zf_,len0]
  | r :: l,b,i,m,hd,hm,hi,hb0,hb=>by
    obtain ⟨m,rfl⟩:∃q,m=q+1:=⟨m-1,by omega⟩
    obtain ⟨g1,g2,g3⟩:=ZO hd
    rw [List.length_cons] at hm
    show ∃t,ZeX k (Zcq k v m) v (i:Int)=_∧_
    unfold ZeX ZbZ Chk
    rw [dt (by omega),zt_,Zy,g2,zb_,Zlz,zb_]
    by_cases p1:ZI r.f_Lo
    · rw [dt p1,Bool.not_true,zf_,Zlz,zb_]
      by_cases p2:ZI r.f_Hi
      · rw [dt p2,Bool.not_true,zf_]
        by_cases p3:r.f_Lo≤r.f_Hi
        · rw [df (by omega),zf_]
          obtain ⟨t,e,ht⟩:=Zmw (k:=k) hs l (r.f_Hi+2) (i+1) m g3 (by omega) (by omega) (by omega) (fun _=>⟨r,g2,p2,rfl⟩)
          have fin:¬(r.f_Lo<55296∧57343<r.f_Hi)→∃t,cond (decide ((i:Int) > 0)) ((idxL v.f_Set (w64 ((i:Int)-1))).bind fun y152=>cond (decide (r.f_Lo≤(w64 (y152.f_Hi+1)))) (some false) (Zcq k v m (w64 ((i:Int)+1)))) (cond false (some false) (Zcq k v m (w64 ((i:Int)+1))))=some t∧
              (t=true↔(ZI r.f_Lo∧ZI r.f_Hi∧r.f_Lo≤r.f_Hi∧¬(r.f_Lo<55296∧57343<r.f_Hi)∧b≤r.f_Lo∧Chk (r.f_Hi+2) l)∧v.f_L=[]):=fun hx=>by
            rw [ZS (by omega)]
            by_cases hi0:i=0
            · have:=hb0 hi0
              rw [df (by omega),zf_,zf_]
              exact ⟨t,e,by rw [ht];exact ⟨fun h=>⟨⟨p1,p2,p3,hx,by have:=p1.1;omega,h.1⟩,h.2⟩,fun h=>⟨h.1.2.2.2.2.2,h.2⟩⟩⟩
            · obtain ⟨p,q1,q2,q3⟩:=hb (by omega)
              have q4:=q2.1
              have q5:=q2.2.1
              rw [dt (by omega),zt_,Zv (by omega) (by omega),show (i:Int)-1=((i-1:Nat):Int) by omega,Zy,q1,zb_,Zv (x:=p.f_Hi+1) (by omega) (by omega)]
              by_cases hle:r.f_Lo≤p.f_Hi+1
              · rw [dt hle,zt_]
                exact ⟨false,rfl,by simp;intro _ _ _ _ h;omega⟩
              · rw [df hle,zf_]
                exact ⟨t,e,by rw [ht];exact ⟨fun h=>⟨⟨p1,p2,p3,hx,by omega,h.1⟩,h.2⟩,fun h=>⟨h.1.2.2.2.2.2,h.2⟩⟩⟩
          by_cases p4:r.f_Lo<55296
          · rw [dt p4,zt_]
            by_cases p5:r.f_Hi > 57343
            · rw [dt p5,zt_,zt_]
              exact ⟨false,rfl,by simp;intro _ _ _ h;exact absurd (h p4) (by omega)⟩
            · rw [df p5,zf_]
              exact fin (by omega)
          · rw [df p4,zf_]
            exact fin (by omega)
        · rw [dt (by omega),zt_,zt_]
          exact ⟨false,rfl,by simp;intro _ _ h;omega⟩
      · rw [df p2,Bool.not_false,zt_,zt_]
        exact ⟨false,rfl,by simp [p2]⟩
    · rw [df p1,Bool.not_false,zt_,zt_]
      exact ⟨false,rfl,by simp [p1]⟩
theorem ZjD {R:Zd→Option Bool} {v:Zd} {P:Zd→Prop} (hl:v.f_L.length≤1048576) (hR:∀x∈v.f_L,∃t,R x=some t∧(t=true↔P x)):∀(l:List Zd) (i m:Nat),v.f_L.drop i=l→l.length<m→i≤v.f_L.length→
    ∃t,ZeZ R v m (i:Int)=some t∧(t=true↔∀x∈l,P x)
  | [],i,m,hd,hm,hi=>by
    obtain ⟨m,rfl⟩:∃q,m=q+1:=⟨m-1,by simp at hm;omega⟩
    have:=ZV hd
    refine ⟨true,?_,by simp⟩
    show ZeY _ _ _ _=_
    unfold ZeY
    rw [df (by omega),zf_]
  | x :: l,i,m,hd,hm,hi=>by
    obtain ⟨m,rfl⟩:∃q,m=q+1:=⟨m-1,by omega⟩
    obtain ⟨g1,g2,g3⟩:=ZO hd
    rw [List.length_cons] at hm
    obtain ⟨t1,e1,p1⟩:=hR x (List.mem_of_getElem? g2)
    obtain ⟨t2,e2,p2⟩:=ZjD hl hR l (i+1) m g3 (by omega) (by omega)
    show ∃t,ZeY R (ZeZ R v m) v (i:Int)=_∧_
    unfold ZeY
    rw [dt (by omega),zt_,Zy,g2,zb_,e1,zb_,ZS (by omega),e2,List.forall_mem_cons]
    cases t1
    · exact ⟨false,rfl,by simp;intro h;exact absurd (p1.2 h) (by simp)⟩
    · exact ⟨t2,rfl,by rw [p2];exact ⟨fun h=>⟨p1.1 rfl,h⟩,fun h=>h.2⟩⟩
theorem Zmq:∀(k:Nat) (r:Zd),k≤1048576→fs r≤k→∃t,F43 k r=some t∧(t=true↔OK r)
  | 0,⟨kd,st,l,a,b⟩,_,hf=>by simp only [fs] at hf;omega
  | k+1,⟨kd,st,l,a,b⟩,hk,hf=>by
    simp only [fs] at hf
    obtain ⟨t,e,p⟩:=ZjD (R:=F43 k) (v:=⟨kd,st,l,a,b⟩) (P:=OK) (by show l.length≤_;omega) (fun x hx=>Zmq k x (by omega) (by have:=ZbT (show x∈l from hx);omega)) l 0 k rfl (by omega) (Nat.zero_le _)
    have e':Zgq (F43 k) k ⟨kd,st,l,a,b⟩=some t:=e
    have pl:t=true↔OKL l:=p.trans Zm0.symm
    obtain ⟨ts,es,ps⟩:=Zmw (k:=k) (v:=⟨kd,st,l,a,b⟩) (by show st.length≤_;omega) st 0 0 k rfl (by omega) (Nat.zero_le _) (fun _=>rfl) (fun h=>absurd h (by omega))
    have es':Zcq k ⟨kd,st,l,a,b⟩ k 0=some ts:=es
    have hcan:Chk 0 st↔Zb8 st:=Zm3
    simp only [] at ps
    rw [hcan] at ps
    show ∃t,Zlb (F43 k) k ⟨kd,st,l,a,b⟩=_∧_
    have j0f:∀c:Bool,c=true→(¬OK ⟨kd,st,l,a,b⟩)→∃t,Zbh (F43 k) k ⟨kd,st,l,a,b⟩ c=some t∧(t=true↔OK ⟨kd,st,l,a,b⟩):=fun c hc hn=>by
      subst hc
      exact ⟨false,rfl,by simp [hn]⟩
    unfold Zlb
    by_cases k1:kd=1
    · subst k1
      simp only [show ((1:Int) != 1)=false from rfl,show ((1:Int) != 4)=true from rfl,zt_,zf_]
      by_cases ha:a=0
      · by_cases hb:b=0
        · rw [show (a != 0)=false by simp [ha],show (b != 0)=false by simp [hb],zf_]
          unfold Zbh
          simp only [show ((1:Int) == 1)=true from rfl,zt_,zf_]
          refine ⟨ts,es',ps.trans ?_⟩
          simp only [OK,OK0]
          constructor
          · rintro ⟨h1,h2⟩;exact ⟨.inl ⟨trivial,⟨ha,hb⟩,h2,h1⟩,by rw [h2];trivial⟩
          · rintro ⟨h | h | h | h,_⟩
            · exact ⟨h.2.2.2,h.2.2.1⟩
            all_goals exact absurd h.1 (by omega)
        · rw [show (a != 0)=false by simp [ha],zf_]
          exact j0f _ (by simp [hb]) (by simp [OK,OK0,hb])
      · rw [show (a != 0)=true by simp [ha],zt_]
        exact j0f _ rfl (by simp [OK,OK0,ha])
    · rw [show (kd != 1)=true by simp [k1],zt_]
      by_cases hst:st=[]
      · subst hst
        rw [df (by simp),zf_]
        by_cases k4:kd=4
        · subst k4
          simp only [show ((4:Int) != 4)=false from rfl,zf_]
          unfold Zbh Zc6
          simp only [show ((4:Int) == 1)=false from rfl,show ((4:Int) == 2)=false from rfl,show ((4:Int) == 3)=false from rfl,show ((4:Int) == 4)=true from rfl,zt_,zf_]
          have eq4:OK ⟨4,[],l,a,b⟩↔(l.length=1∧0≤a∧a≤20∧b≤20∧(b = -1∨a≤b))∧OKL l:=by simp [OK,OK0]
          rw [eq4]
          by_cases c1:l.length=1
          · rw [show ((l.length:Int) != 1)=false by simp [c1],zf_]
            by_cases c2:a<0
            · rw [dt c2,zt_];exact ⟨false,rfl,by simp;omega⟩
            · rw [df c2,zf_]
              by_cases c3:a > 20
              · rw [dt c3,zt_];exact ⟨false,rfl,by simp;omega⟩
              · rw [df c3,zf_]
                by_cases c4:b = -1
                · rw [show (b != -1)=false by simp [c4],zf_]
                  exact ⟨t,e',pl.trans ⟨fun h=>⟨⟨c1,by omega,by omega,by omega,.inl c4⟩,h⟩,fun h=>h.2⟩⟩
                · rw [show (b != -1)=true by simp [c4],zt_]
                  by_cases c5:b<a
                  · rw [dt c5,zt_];exact ⟨false,rfl,by simp;omega⟩
                  · rw [df c5,zf_]
                    by_cases c6:b > 20
                    · rw [dt c6,zt_];exact ⟨false,rfl,by simp;omega⟩
                    · rw [df c6,zf_]
                      exact ⟨t,e',pl.trans ⟨fun h=>⟨⟨c1,by omega,by omega,by omega,.inr (by omega)⟩,h⟩,fun h=>h.2⟩⟩
          · rw [show ((l.length:Int) != 1)=true by simp;omega,zt_]
            exact ⟨false,rfl,by simp [c1]⟩
        · rw [show (kd != 4)=true by simp [k4],zt_]
          by_cases ha:a=0
          · by_cases hb:b=0
            · subst ha;subst hb
              rw [show ((0:Int) != 0)=false from rfl,zf_]
              unfold Zbh
              rw [zf_,ZE k1,zf_]
              by_cases k2:kd=2
              · subst k2
                have eq2:OK ⟨2,[],l,0,0⟩↔l.length≠1∧OKL l:=by simp [OK,OK0]
                rw [eq2,ZX rfl,zt_]
                by_cases c1:l.length=1
                · rw [ZX (by simp [c1]),zt_];exact ⟨false,rfl,by simp [c1]⟩
                · rw [ZE (by simp;omega),zf_];exact ⟨t,e',pl.trans ⟨fun h=>⟨c1,h⟩,fun h=>h.2⟩⟩
              rw [ZE k2,zf_]
              by_cases k3:kd=3
              · subst k3
                have eq3:OK ⟨3,[],l,0,0⟩↔1<l.length∧OKL l:=by simp [OK,OK0]
                rw [eq3,ZX rfl,zt_]
                by_cases c1:1<l.length
                · rw [df (by simp;omega),zf_];exact ⟨t,e',pl.trans ⟨fun h=>⟨c1,h⟩,fun h=>h.2⟩⟩
                · rw [dt (by simp;omega),zt_];exact ⟨false,rfl,by simp [c1]⟩
              rw [ZE k3,zf_,ZE k4,zf_]
              exact ⟨false,rfl,by simp [OK,OK0,k1,k2,k3,k4]⟩
            · rw [show (a != 0)=false by simp [ha],zf_]
              exact j0f _ (by simp [hb]) (by simp [OK,OK0,hb,k4])
          · rw [show (a != 0)=true by simp [ha],zt_]
            exact j0f _ rfl (by simp [OK,OK0,ha,k4])
      · rw [dt (by have:=List.length_pos_iff.2 hst;show (0:Int)<_;simp only;omega),zt_]
        exact j0f _ rfl (by simp [OK,OK0,hst,k1])
theorem Zqy {k:Nat} {r:Zd} (hk:k≤1048576) (hf:fs r≤k):∃t,F22 k r=some t∧(t=true↔(OK r∧dp r≤16)∧sz r≤200):=by
  obtain ⟨d,e1,_,_,p1⟩:=Zm6 k r 1 hk hf (by omega)
  have e1':F42 k r 1=some d:=e1
  obtain ⟨t,e2,p2⟩:=Zmq k r hk hf
  unfold F22 Zgj
  rw [e1',zb_,e2,zb_,Ziw k r hk hf,zb_]
  by_cases h:d≤16
  · have h1:=p1.1 h
    rw [dt h,zt_]
    cases t
    · exact ⟨false,rfl,by simp;intro h;exact absurd (p2.2 h) (by simp)⟩
    · exact ⟨_,rfl,by simp [p2.1 rfl];omega⟩
  · have h1:=mt p1.2 h
    rw [df h,zf_]
    exact ⟨false,rfl,by simp;intro _ _;omega⟩
end Go.Proofs.YthilboheomikjaaGreatDoor
end
