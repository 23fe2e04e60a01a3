/- G5, N10, N11, N12, N13, N14, N15, G19, Q15 -/
import Derived.Test.YthilboheomikjaaGreatDoorMRRexTexts5
set_option linter.unusedVariables false
set_option linter.unusedSimpArgs false
section
namespace Go.Proofs.YthilboheomikjaaGreatDoor
open Go.AL
set_option maxRecDepth 100000
structure Zf where
  f_S:List UInt8
  f_I:Int
  f_Bad:Bool
  f_Long:Bool
def Ze (x:Zf):List PV:=[.str x.f_S,.int .i64 x.f_I,.bool x.f_Bad,.bool x.f_Long]
def F100 (k:Nat) (v0:Zf):Option Int:=
  ((cond (decide (v0.f_I<(v0.f_S.length:Int))) ((idxL v0.f_S v0.f_I).bind fun a=>(some (a.toNat:Int))) (((some 0)))))
theorem Zar (k:Nat) (v0:Zf) (r:Int) (d:F100 k v0=some r):SM 100 [pt 0] [bx (Ze v0)] (one (.int .u8 r)) [bx (Ze v0)]:=by
 refine Zz [0] Tryz.func100 rfl kr kr ?_
 show WA _ _ 22 _ _ _
 refine Ws [] [(0,pt 0)] [(0,bx (Ze v0))] ?_
 refine WA.seq ?_
 refine WA.seq ?_
 refine Wd [] [(0,pt 0),(12,ob (decide (v0.f_I<(v0.f_S.length:Int))))] [(0,bx (Ze v0))] [] trivial ?_
 refine WA.cond (b:=(decide (v0.f_I<(v0.f_S.length:Int)))) rfl (fun a=>?_) (fun a=>?_)
 {
 have d:=Zk d a
 refine WA.seq ?_
 obtain ⟨c,e,d⟩:=Zh d
 refine Wd [(8,.num (c.toNat:Int))] [(2,one (.int .u8 (c.toNat:Int)))] [(0,bx (Ze v0))] [(idxL v0.f_S v0.f_I).map (fun b=>(b.toNat:Int))=some (c.toNat:Int)] ⟨(by rw [e];rfl),trivial⟩ ?_
 refine WA.ret ?_
 obtain rfl:=zj_ d
 exact Zq (one (.int .u8 (c.toNat:Int))) [bx (Ze v0)] kr kr kr kr nd rfl rfl }
 {
 have d:=Zj d a
 refine WA.skip ?_
 refine Ws [] [(2,one (.int .u8 0))] [(0,bx (Ze v0))] ?_
 refine WA.ret ?_
 obtain rfl:=zj_ d
 exact Zq (one (.int .u8 0)) [bx (Ze v0)] kr kr kr kr nd rfl rfl }
def Zgy (v0:Zf) (a:Bool):Option (Bool×Zf):=
  cond a (((some (true,({ v0 with f_I:=(w64 (v0.f_I+1)) }:Zf))))) (((some (false,v0))))
def F74 (k:Nat) (v0:Zf) (v1:Int):Option (Bool×Zf):=
  (cond (decide (v0.f_I<(v0.f_S.length:Int))) ((idxL v0.f_S v0.f_I).bind fun a=>(Zgy v0 ((a.toNat:Int) == v1))) ((Zgy v0 false)))
theorem Zaz (k:Nat) (v0:Zf) (v1:Int) (r:Bool×Zf) (a:F74 k v0 v1=some r):SM 74 [pt 0,one (.int .u8 v1)] [bx (Ze v0)] (ob r.1) [bx (Ze r.2)]:=by
 refine Zz [0] Tryz.func74 rfl kr kr ?_
 show WA _ _ 35 _ _ _
 refine Ws [] [(0,pt 0),(1,one (.int .u8 v1))] [(0,bx (Ze v0))] ?_
 refine WA.seq ?_
 refine WA.join (fun i=>∃(e:Bool),J i [(0,pt 0),(27,ob e)] [(0,bx (Ze v0))]∧Zgy v0 e=some r) ?_ ?_
 {
 rintro i ⟨e,h,a⟩
 refine Wj h ?_
 clear h
 refine WA.cond (b:=e) rfl (fun d=>?_) (fun d=>?_)
 {
 have a:=Zk a d
 refine Ws [] [] [(0,bx (Ze ({ v0 with f_I:=(w64 (v0.f_I+1)) }:Zf)))] ?_
 refine Ws [] [(4,ob true)] [(0,bx (Ze ({ v0 with f_I:=(w64 (v0.f_I+1)) }:Zf)))] ?_
 refine WA.ret ?_
 obtain rfl:=zj_ a
 exact Zq (ob true) [bx (Ze ({ v0 with f_I:=(w64 (v0.f_I+1)) }:Zf))] kr kr kr kr nd rfl rfl }
 {
 have a:=Zj a d
 refine WA.skip ?_
 refine Ws [] [(4,ob false)] [(0,bx (Ze v0))] ?_
 refine WA.ret ?_
 obtain rfl:=zj_ a
 exact Zq (ob false) [bx (Ze v0)] kr kr kr kr nd rfl rfl } }
 {
 rcases zo_ (decide (v0.f_I<(v0.f_S.length:Int))) with c | c
 {
 have a:=Zk a c
 obtain ⟨f,g,a⟩:=Zh a
 refine Wd [(10,.bool true),(19,.num (f.toNat:Int))] [(0,pt 0),(27,ob ((f.toNat:Int) == v1))] [(0,bx (Ze v0))] [(decide (v0.f_I<(v0.f_S.length:Int)))=true,(idxL v0.f_S v0.f_I).map (fun b=>(b.toNat:Int))=some (f.toNat:Int)] ⟨c,(by rw [g];rfl),trivial⟩ ?_
 exact ⟨((f.toNat:Int) == v1),jk,a⟩ }
 {
 have a:=Zj a c
 refine Wd [(10,.bool false)] [(0,pt 0),(27,ob false)] [(0,bx (Ze v0))] [(decide (v0.f_I<(v0.f_S.length:Int)))=false] ⟨c,trivial⟩ ?_
 exact ⟨false,jk,a⟩ } }
def Zhr (a:Int) (b:Zf):Option (Int×Zf):=
  (some (a,b))
def Zhq (a:Zf) (b:Int) (c:Bool):Option (Int×Zf):=
  cond c ((Zhr b ({ a with f_Bad:=true }:Zf))) ((Zhr b a))
def ZcK (k:Nat) (d:Zf→Int→Int→Option (Int×Zf)) (a:Zf) (b:Int) (c:Int) (e:Bool):Option (Int×Zf):=
  cond e ((F100 k a).bind fun f=>((d ({ a with f_I:=(w64 (a.f_I+1)) }:Zf) (w64 ((w64 (b*10))+(w64 (IntKind.wrap .u8 (f-48))))) (w64 (c+1))))) ((cond (c == 0) ((Zhq a b true)) ((Zhq a b (decide (c > 3))))))
def ZdA (k:Nat) (b:Zf→Int→Int→Option (Int×Zf)) (a:Zf) (d:Int) (c:Int):Option (Int×Zf):=
  (F100 k a).bind fun e=>cond (decide (e≥48)) ((F100 k a).bind fun f=>cond (decide (f≤57)) ((ZcK k b a d c (decide (c<4)))) ((ZcK k b a d c false))) ((ZcK k b a d c false))
def ZaF (k:Nat):Nat→Zf→Int→Int→Option (Int×Zf)
  | 0,_,_,_=>none
  | d+1,a,b,c=>ZdA k (ZaF k d) a b c
def F148 (k:Nat) (v0:Zf):Option (Int×Zf):=
  ((ZaF k k v0 0 0))
theorem ZmT (k:Nat) (v0:Zf) (r:Int×Zf) (c:F148 k v0=some r):SM 148 [pt 0] [bx (Ze v0)] (oi r.1) [bx (Ze r.2)]:=by
 refine Zz [0] Tryz.func148 rfl kr kr ?_
 show WA _ _ 43 _ _ _
 refine Ws [] [(0,pt 0)] [(0,bx (Ze v0))] ?_
 refine Ws [] [(0,pt 0),(3,oi 0),(4,oi 0)] [(0,bx (Ze v0))] ?_
 refine WA.seq ?_
 refine WA.block ?_
 refine WA.loop (fun m p=>∃(a:Zf) (d:Int) (e:Int),J p [(0,pt 0),(3,oi d),(4,oi e)] [(0,bx (Ze a))]∧ZaF k m a d e=some r) k ⟨v0,0,0,jk,c⟩ ?_
 clear c
 rintro m2 p ⟨a,d,e,o,c⟩
 refine Wj o ?_
 clear o
 cases m2 with
 | zero=>cases c
 | succ m2=>
  obtain ⟨z,x⟩:∃g,g=ZaF k m2:=⟨_,rfl⟩
  have c:ZdA k z a d e=some r:=by first | (rw [x];exact c) | exact c
  refine WA.seq ?_
  refine WA.join (fun p=>∃(v:Bool),J p [(0,pt 0),(3,oi d),(4,oi e),(16,ob v)] [(0,bx (Ze a))]∧ZcK k z a d e v=some r) ?_ ?_
  {
 rintro p ⟨v,o,c⟩
 refine Wj o ?_
 clear o
 refine WA.cond (b:=v) rfl (fun s=>?_) (fun s=>?_)
 {
 have c:=Zk c s
 refine WA.skip ?_
 refine WA.block ?_
 obtain ⟨n,a0,c⟩:=Zh c
 refine Wos [(3,.callR [0] (one (.int .u8 n)))] [(0,pt 0),(3,oi (w64 ((w64 (d*10))+(w64 (IntKind.wrap .u8 (n-48)))))),(4,oi e)] [(0,bx (Ze a))] [SM 100 [pt 0] [bx (Ze a)] (one (.int .u8 n)) [bx (Ze a)],([0]:List Nat).Nodup] ⟨(Zar k _ _ a0),nd,trivial⟩ ?_
 refine Ws [] [(0,pt 0),(3,oi (w64 ((w64 (d*10))+(w64 (IntKind.wrap .u8 (n-48)))))),(4,oi e)] [(0,bx (Ze ({ a with f_I:=(w64 (a.f_I+1)) }:Zf)))] ?_
 refine Wr [] [(0,pt 0),(3,oi (w64 ((w64 (d*10))+(w64 (IntKind.wrap .u8 (n-48)))))),(4,oi (w64 (e+1)))] [(0,bx (Ze ({ a with f_I:=(w64 (a.f_I+1)) }:Zf)))] ?_
 exact ⟨m2,zl_ _,({ a with f_I:=(w64 (a.f_I+1)) }:Zf),(w64 ((w64 (d*10))+(w64 (IntKind.wrap .u8 (n-48))))),(w64 (e+1)),jk,by rw [x] at c;exact c⟩ }
 {
 have c:=Zj c s
 refine WA.exit ?_
 refine WA.join (fun p=>∃(q:Zf),J p [(3,oi d)] [(0,bx (Ze q))]∧Zhr d q=some r) ?_ ?_
 {
 rintro p ⟨q,o,c⟩
 refine Wj o ?_
 clear o
 refine Ws [] [(2,oi d)] [(0,bx (Ze q))] ?_
 refine WA.ret ?_
 obtain rfl:=zj_ c
 exact Zq (oi d) [bx (Ze q)] kr kr kr kr nd rfl rfl }
 {
 refine WA.join (fun p=>∃(w:Bool),J p [(0,pt 0),(3,oi d),(38,ob w)] [(0,bx (Ze a))]∧Zhq a d w=some r) ?_ ?_
 {
 rintro p ⟨w,o,c⟩
 refine Wj o ?_
 clear o
 refine WA.cond (b:=w) rfl (fun t=>?_) (fun t=>?_)
 {
 have c:=Zk c t
 refine Wr [] [(3,oi d)] [(0,bx (Ze ({ a with f_Bad:=true }:Zf)))] ?_
 exact ⟨({ a with f_Bad:=true }:Zf),jk,c⟩ }
 {
 have c:=Zj c t
 refine WA.skip ?_
 exact ⟨a,jk,c⟩ } }
 {
 rcases zo_ (e == 0) with l | l
 {
 have c:=Zk c l
 refine Wo [(2,.bool true)] [(0,pt 0),(3,oi d),(38,ob true)] [(0,bx (Ze a))] [(e == 0)=true] ⟨l,trivial⟩ ?_
 exact ⟨true,jk,c⟩ }
 {
 have c:=Zj c l
 refine Wo [(2,.bool false)] [(0,pt 0),(3,oi d),(38,ob (decide (e > 3)))] [(0,bx (Ze a))] [(e == 0)=false] ⟨l,trivial⟩ ?_
 exact ⟨(decide (e > 3)),jk,c⟩ } } } } }
  {
 obtain ⟨f,u,c⟩:=Zh c
 rcases zo_ (decide (f≥48)) with h | h
 {
 have c:=Zk c h
 obtain ⟨i,y,c⟩:=Zh c
 rcases zo_ (decide (i≤57)) with j | j
 {
 have c:=Zk c j
 refine Wo [(1,.callR [0] (one (.int .u8 f))),(3,.bool true),(5,.callR [0] (one (.int .u8 i))),(8,.bool true)] [(0,pt 0),(3,oi d),(4,oi e),(16,ob (decide (e<4)))] [(0,bx (Ze a))] [SM 100 [pt 0] [bx (Ze a)] (one (.int .u8 f)) [bx (Ze a)],([0]:List Nat).Nodup,(decide (f≥48))=true,SM 100 [pt 0] [bx (Ze a)] (one (.int .u8 i)) [bx (Ze a)],([0]:List Nat).Nodup,(decide (i≤57))=true] ⟨(Zar k _ _ u),nd,h,(Zar k _ _ y),nd,j,trivial⟩ ?_
 exact ⟨(decide (e<4)),jk,c⟩ }
 {
 have c:=Zj c j
 refine Wo [(1,.callR [0] (one (.int .u8 f))),(3,.bool true),(5,.callR [0] (one (.int .u8 i))),(8,.bool false)] [(0,pt 0),(3,oi d),(4,oi e),(16,ob false)] [(0,bx (Ze a))] [SM 100 [pt 0] [bx (Ze a)] (one (.int .u8 f)) [bx (Ze a)],([0]:List Nat).Nodup,(decide (f≥48))=true,SM 100 [pt 0] [bx (Ze a)] (one (.int .u8 i)) [bx (Ze a)],([0]:List Nat).Nodup,(decide (i≤57))=false] ⟨(Zar k _ _ u),nd,h,(Zar k _ _ y),nd,j,trivial⟩ ?_
 exact ⟨false,jk,c⟩ } }
 {
 have c:=Zj c h
 refine Wo [(1,.callR [0] (one (.int .u8 f))),(3,.bool false)] [(0,pt 0),(3,oi d),(4,oi e),(16,ob false)] [(0,bx (Ze a))] [SM 100 [pt 0] [bx (Ze a)] (one (.int .u8 f)) [bx (Ze a)],([0]:List Nat).Nodup,(decide (f≥48))=false] ⟨(Zar k _ _ u),nd,h,trivial⟩ ?_
 exact ⟨false,jk,c⟩ } }
def Zhh (v1:Zd) (c:Int×Zf) (a:Int) (b:Zf):Option (Zd×Zf):=
  (some ((⟨4,([]:List Zb),([v1]:List Zd),c.1,a⟩:Zd),b))
def Zdr (v1:Zd) (c:Int×Zf) (a:Int) (b:Zf) (d:Bool):Option (Zd×Zf):=
  cond d ((Zhh v1 c a ({ b with f_Long:=true }:Zf))) ((Zhh v1 c a b))
def ZeJ (v1:Zd) (b:Int×Zf) (a:Int) (c:Zf):Option (Zd×Zf):=
  cond (decide (b.1 > 20)) ((Zdr v1 b a c true)) (cond (decide (a > 20)) ((Zdr v1 b a c true)) (cond (decide (a≥0)) ((Zdr v1 b a c (decide (a<b.1)))) ((Zdr v1 b a c false))))
def ZbI (k:Nat) (v1:Zd) (c:Int×Zf) (d:Zf) (b:Int):Option (Zd×Zf):=
  (F74 k d 125).bind fun a=>(cond (!a.1) ((ZeJ v1 c b ({ a.2 with f_Bad:=true }:Zf))) ((ZeJ v1 c b a.2)))
def F120 (k:Nat) (v0:Zf) (v1:Zd):Option (Zd×Zf):=
  (F148 k v0).bind fun a=>((F74 k a.2 44).bind fun b=>(cond b.1 ((F100 k b.2).bind fun d=>(cond (d != 125) ((F148 k b.2).bind fun c=>(ZbI k v1 a c.2 c.1)) ((ZbI k v1 a b.2 (-1))))) ((ZbI k v1 a b.2 a.1))))
theorem ZpW (k:Nat) (v0:Zf) (v1:Zd) (r:Zd×Zf) (d:F120 k v0 v1=some r):SM 120 [pt 0,tv (Zc v1)] [bx (Ze v0)] (tv (Zc r.1)) [bx (Ze r.2)]:=by
 refine Zz [0] Tryz.func120 rfl kr kr ?_
 show WA _ _ 46 _ _ _
 refine Ws [(0,.obj 103),(1,.obj 104)] [(0,pt 0),(3,pt 103),(4,pt 104)] [(0,bx (Ze v0)),(103,bx (Zc v1)),(104,bx (Zc (⟨0,([]:List Zb),([]:List Zd),0,0⟩:Zd)))] ?_
 obtain ⟨a,x,d⟩:=Zh d
 refine Wos [(1,.call [0] (oi a.1) [bx (Ze a.2)] [])] [(0,pt 0),(3,pt 103),(4,pt 104),(5,oi a.1)] [(0,bx (Ze a.2)),(103,bx (Zc v1)),(104,bx (Zc (⟨0,([]:List Zb),([]:List Zd),0,0⟩:Zd)))] [SM 148 [pt 0] [bx (Ze v0)] (oi a.1) [bx (Ze a.2)],([0]:List Nat).Nodup] ⟨(ZmT k _ _ x),nd,trivial⟩ ?_
 refine Ws [] [(0,pt 0),(3,pt 103),(4,pt 104),(5,oi a.1),(6,oi a.1)] [(0,bx (Ze a.2)),(103,bx (Zc v1)),(104,bx (Zc (⟨0,([]:List Zb),([]:List Zd),0,0⟩:Zd)))] ?_
 refine WA.join (fun n=>∃(u:Zf) (c:Int),J n [(0,pt 0),(3,pt 103),(4,pt 104),(5,oi a.1),(6,oi c)] [(0,bx (Ze u)),(103,bx (Zc v1)),(104,bx (Zc (⟨0,([]:List Zb),([]:List Zd),0,0⟩:Zd)))]∧ZbI k v1 a u c=some r) ?_ ?_
 {
 rintro n ⟨u,c,m,d⟩
 refine Wj m ?_
 clear m
 refine WA.join (fun n=>∃(f:Zf),J n [(0,pt 0),(3,pt 103),(4,pt 104),(5,oi a.1),(6,oi c)] [(0,bx (Ze f)),(103,bx (Zc v1)),(104,bx (Zc (⟨0,([]:List Zb),([]:List Zd),0,0⟩:Zd)))]∧ZeJ v1 a c f=some r) ?_ ?_
 {
 rintro n ⟨f,m,d⟩
 refine Wj m ?_
 clear m
 refine WA.join (fun n=>∃(o:Zf),J n [(3,pt 103),(4,pt 104),(5,oi a.1),(6,oi c)] [(0,bx (Ze o)),(103,bx (Zc v1)),(104,bx (Zc (⟨0,([]:List Zb),([]:List Zd),0,0⟩:Zd)))]∧Zhh v1 a c o=some r) ?_ ?_
 {
 rintro n ⟨o,m,d⟩
 refine Wj m ?_
 clear m
 refine WA.seq ?_
 refine Wm ([(Zc v1)]:(List (List PV))) (Zm ([v1]:List Zd)) (fun m_=>([(4,pt 104)],[(0,bx (Ze o)),(104,bx ([.int .i64 4] ++ [.sl (([]:List Zb).map Za)] ++ [.sl m_] ++ [.int .i64 a.1] ++ [.int .i64 c]))],[])) (zm) [] trivial ?_
 refine WA.ret ?_
 obtain rfl:=zj_ d
 exact Zq (tv (Zc (⟨4,([]:List Zb),([v1]:List Zd),a.1,c⟩:Zd))) [bx (Ze o)] kr kr kr kr nd rfl rfl }
 {
 refine WA.join (fun n=>∃(v:Bool),J n [(0,pt 0),(3,pt 103),(4,pt 104),(5,oi a.1),(6,oi c),(37,ob v)] [(0,bx (Ze f)),(103,bx (Zc v1)),(104,bx (Zc (⟨0,([]:List Zb),([]:List Zd),0,0⟩:Zd)))]∧Zdr v1 a c f v=some r) ?_ ?_
 {
 rintro n ⟨v,m,d⟩
 refine Wj m ?_
 clear m
 refine WA.cond (b:=v) rfl (fun t=>?_) (fun t=>?_)
 {
 have d:=Zk d t
 refine Wr [] [(3,pt 103),(4,pt 104),(5,oi a.1),(6,oi c)] [(0,bx (Ze ({ f with f_Long:=true }:Zf))),(103,bx (Zc v1)),(104,bx (Zc (⟨0,([]:List Zb),([]:List Zd),0,0⟩:Zd)))] ?_
 exact ⟨({ f with f_Long:=true }:Zf),jk,d⟩ }
 {
 have d:=Zj d t
 refine WA.skip ?_
 exact ⟨f,jk,d⟩ } }
 {
 rcases zo_ (decide (a.1 > 20)) with h | h
 {
 have d:=Zk d h
 refine Wo [(2,.bool true)] [(0,pt 0),(3,pt 103),(4,pt 104),(5,oi a.1),(6,oi c),(37,ob true)] [(0,bx (Ze f)),(103,bx (Zc v1)),(104,bx (Zc (⟨0,([]:List Zb),([]:List Zd),0,0⟩:Zd)))] [(decide (a.1 > 20))=true] ⟨h,trivial⟩ ?_
 exact ⟨true,jk,d⟩ }
 {
 have d:=Zj d h
 rcases zo_ (decide (c > 20)) with j | j
 {
 have d:=Zk d j
 refine Wo [(2,.bool false),(6,.bool true)] [(0,pt 0),(3,pt 103),(4,pt 104),(5,oi a.1),(6,oi c),(37,ob true)] [(0,bx (Ze f)),(103,bx (Zc v1)),(104,bx (Zc (⟨0,([]:List Zb),([]:List Zd),0,0⟩:Zd)))] [(decide (a.1 > 20))=false,(decide (c > 20))=true] ⟨h,j,trivial⟩ ?_
 exact ⟨true,jk,d⟩ }
 {
 have d:=Zj d j
 rcases zo_ (decide (c≥0)) with l | l
 {
 have d:=Zk d l
 refine Wo [(2,.bool false),(6,.bool false),(9,.bool true)] [(0,pt 0),(3,pt 103),(4,pt 104),(5,oi a.1),(6,oi c),(37,ob (decide (c<a.1)))] [(0,bx (Ze f)),(103,bx (Zc v1)),(104,bx (Zc (⟨0,([]:List Zb),([]:List Zd),0,0⟩:Zd)))] [(decide (a.1 > 20))=false,(decide (c > 20))=false,(decide (c≥0))=true] ⟨h,j,l,trivial⟩ ?_
 exact ⟨(decide (c<a.1)),jk,d⟩ }
 {
 have d:=Zj d l
 refine Wo [(2,.bool false),(6,.bool false),(9,.bool false)] [(0,pt 0),(3,pt 103),(4,pt 104),(5,oi a.1),(6,oi c),(37,ob false)] [(0,bx (Ze f)),(103,bx (Zc v1)),(104,bx (Zc (⟨0,([]:List Zb),([]:List Zd),0,0⟩:Zd)))] [(decide (a.1 > 20))=false,(decide (c > 20))=false,(decide (c≥0))=false] ⟨h,j,l,trivial⟩ ?_
 exact ⟨false,jk,d⟩ } } } } } }
 {
 obtain ⟨g,a1,d⟩:=Zh d
 refine Wos [(1,.call [0] (ob g.1) [bx (Ze g.2)] [])] [(0,pt 0),(3,pt 103),(4,pt 104),(5,oi a.1),(6,oi c),(19,ob (!g.1))] [(0,bx (Ze g.2)),(103,bx (Zc v1)),(104,bx (Zc (⟨0,([]:List Zb),([]:List Zd),0,0⟩:Zd)))] [SM 74 [pt 0,one (.int .u8 125)] [bx (Ze u)] (ob g.1) [bx (Ze g.2)],([0]:List Nat).Nodup] ⟨(Zaz k _ _ _ a1),nd,trivial⟩ ?_
 refine WA.cond (b:=(!g.1)) rfl (fun s=>?_) (fun s=>?_)
 {
 have d:=Zk d s
 refine Wr [] [(0,pt 0),(3,pt 103),(4,pt 104),(5,oi a.1),(6,oi c)] [(0,bx (Ze ({ g.2 with f_Bad:=true }:Zf))),(103,bx (Zc v1)),(104,bx (Zc (⟨0,([]:List Zb),([]:List Zd),0,0⟩:Zd)))] ?_
 exact ⟨({ g.2 with f_Bad:=true }:Zf),jk,d⟩ }
 {
 have d:=Zj d s
 refine WA.skip ?_
 exact ⟨g.2,jk,d⟩ } } }
 {
 obtain ⟨e,y,d⟩:=Zh d
 refine Wos [(1,.call [0] (ob e.1) [bx (Ze e.2)] [])] [(0,pt 0),(3,pt 103),(4,pt 104),(5,oi a.1),(6,oi a.1),(11,ob e.1)] [(0,bx (Ze e.2)),(103,bx (Zc v1)),(104,bx (Zc (⟨0,([]:List Zb),([]:List Zd),0,0⟩:Zd)))] [SM 74 [pt 0,one (.int .u8 44)] [bx (Ze a.2)] (ob e.1) [bx (Ze e.2)],([0]:List Nat).Nodup] ⟨(Zaz k _ _ _ y),nd,trivial⟩ ?_
 refine WA.cond (b:=e.1) rfl (fun p=>?_) (fun p=>?_)
 {
 have d:=Zk d p
 refine Ws [] [(0,pt 0),(3,pt 103),(4,pt 104),(5,oi a.1),(6,oi (-1))] [(0,bx (Ze e.2)),(103,bx (Zc v1)),(104,bx (Zc (⟨0,([]:List Zb),([]:List Zd),0,0⟩:Zd)))] ?_
 obtain ⟨w,z,d⟩:=Zh d
 refine Wos [(1,.callR [0] (one (.int .u8 w)))] [(0,pt 0),(3,pt 103),(4,pt 104),(5,oi a.1),(6,oi (-1)),(14,ob (w != 125))] [(0,bx (Ze e.2)),(103,bx (Zc v1)),(104,bx (Zc (⟨0,([]:List Zb),([]:List Zd),0,0⟩:Zd)))] [SM 100 [pt 0] [bx (Ze e.2)] (one (.int .u8 w)) [bx (Ze e.2)],([0]:List Nat).Nodup] ⟨(Zar k _ _ z),nd,trivial⟩ ?_
 refine WA.cond (b:=(w != 125)) rfl (fun q=>?_) (fun q=>?_)
 {
 have d:=Zk d q
 obtain ⟨i,a0,d⟩:=Zh d
 refine Wo [(1,.call [0] (oi i.1) [bx (Ze i.2)] [])] [(0,pt 0),(3,pt 103),(4,pt 104),(5,oi a.1),(6,oi i.1)] [(0,bx (Ze i.2)),(103,bx (Zc v1)),(104,bx (Zc (⟨0,([]:List Zb),([]:List Zd),0,0⟩:Zd)))] [SM 148 [pt 0] [bx (Ze e.2)] (oi i.1) [bx (Ze i.2)],([0]:List Nat).Nodup] ⟨(ZmT k _ _ a0),nd,trivial⟩ ?_
 exact ⟨i.2,i.1,jk,d⟩ }
 {
 have d:=Zj d q
 refine WA.skip ?_
 exact ⟨e.2,(-1),jk,d⟩ } }
 {
 have d:=Zj d p
 refine WA.skip ?_
 exact ⟨e.2,a.1,jk,d⟩ } }
def Zdz (v0:Zf) (a:Int×Int) (b:Bool):Option (Int×Zf):=
  cond b (((some (0,({ v0 with f_Bad:=true }:Zf))))) ((((some (a.1,({ v0 with f_I:=(w64 (v0.f_I+a.2)) }:Zf))))))
def F147 (k:Nat) (v0:Zf):Option (Int×Zf):=
  (F46 k v0.f_S v0.f_I).bind fun a=>(cond (decide (a.1<0)) ((Zdz v0 a true)) ((Zdz v0 a (a.2 == 0))))
theorem ZmS (k:Nat) (v0:Zf) (r:Int×Zf) (c:F147 k v0=some r):SM 147 [pt 0] [bx (Ze v0)] (oi r.1) [bx (Ze r.2)]:=by
 refine Zz [0] Tryz.func147 rfl kr kr ?_
 show WA _ _ 36 _ _ _
 refine Ws [] [(0,pt 0)] [(0,bx (Ze v0))] ?_
 refine WA.seq ?_
 obtain ⟨a,g,c⟩:=Zh c
 refine Wd [(8,.callR [] (.tup [(false,[.pv (.int .i64 a.1)]),(false,[.pv (.int .i64 a.2)])]))] [(0,pt 0),(3,oi a.1),(4,oi a.2)] [(0,bx (Ze v0))] [SM 46 [one (.str v0.f_S),oi v0.f_I] [] (.tup [(false,[.pv (.int .i64 a.1)]),(false,[.pv (.int .i64 a.2)])]) [],([]:List Nat).Nodup] ⟨(Zlu k _ _ _ g),nd,trivial⟩ ?_
 refine WA.seq ?_
 refine WA.join (fun i=>∃(f:Bool),J i [(0,pt 0),(3,oi a.1),(4,oi a.2),(22,ob f)] [(0,bx (Ze v0))]∧Zdz v0 a f=some r) ?_ ?_
 {
 rintro i ⟨f,h,c⟩
 refine Wj h ?_
 clear h
 refine WA.cond (b:=f) rfl (fun e=>?_) (fun e=>?_)
 {
 have c:=Zk c e
 refine Ws [] [] [(0,bx (Ze ({ v0 with f_Bad:=true }:Zf)))] ?_
 refine Ws [] [(2,oi 0)] [(0,bx (Ze ({ v0 with f_Bad:=true }:Zf)))] ?_
 refine WA.ret ?_
 obtain rfl:=zj_ c
 exact Zq (oi 0) [bx (Ze ({ v0 with f_Bad:=true }:Zf))] kr kr kr kr nd rfl rfl }
 {
 have c:=Zj c e
 refine WA.skip ?_
 refine Ws [] [(3,oi a.1)] [(0,bx (Ze ({ v0 with f_I:=(w64 (v0.f_I+a.2)) }:Zf)))] ?_
 refine Ws [] [(2,oi a.1)] [(0,bx (Ze ({ v0 with f_I:=(w64 (v0.f_I+a.2)) }:Zf)))] ?_
 refine WA.ret ?_
 obtain rfl:=zj_ c
 exact Zq (oi a.1) [bx (Ze ({ v0 with f_I:=(w64 (v0.f_I+a.2)) }:Zf))] kr kr kr kr nd rfl rfl } }
 {
 rcases zo_ (decide (a.1<0)) with d | d
 {
 have c:=Zk c d
 refine Wo [(2,.bool true)] [(0,pt 0),(3,oi a.1),(4,oi a.2),(22,ob true)] [(0,bx (Ze v0))] [(decide (a.1<0))=true] ⟨d,trivial⟩ ?_
 exact ⟨true,jk,c⟩ }
 {
 have c:=Zj c d
 refine Wo [(2,.bool false)] [(0,pt 0),(3,oi a.1),(4,oi a.2),(22,ob (a.2 == 0))] [(0,bx (Ze v0))] [(decide (a.1<0))=false] ⟨d,trivial⟩ ?_
 exact ⟨(a.2 == 0),jk,c⟩ } }
def Zcj (k:Nat) (b:Zf):Option (Int×Zf):=
  (F147 k b).bind fun a=>(some (a.1,a.2))
def ZbO (k:Nat) (a:Bool×Zf) (b:Bool):Option (Int×Zf):=
  cond b ((Zcj k ({ a.2 with f_Bad:=true }:Zf))) ((Zcj k a.2))
def Zhx (a:Bool×Zf) (c:Int) (b:Bool):Option (Int×Zf):=
  cond b ((some ((w64 c),({ a.2 with f_I:=(w64 (a.2.f_I+1)) }:Zf)))) ((((some (0,({ ({ a.2 with f_I:=(w64 (a.2.f_I+1)) }:Zf) with f_Bad:=true }:Zf))))))
def F173 (k:Nat) (v0:Zf):Option (Int×Zf):=
  (F74 k v0 92).bind fun a=>(cond (!a.1) (cond (decide (a.2.f_I<(a.2.f_S.length:Int))) ((F100 k a.2).bind fun c=>(F146 k ([93,91,94,45]:List UInt8) c).bind fun d=>(ZbO k a d)) ((ZbO k a false))) ((F100 k a.2).bind fun b=>(((cond (b == 100) ((some ((-1),({ a.2 with f_I:=(w64 (a.2.f_I+1)) }:Zf)))) ((cond (b == 110) ((some (10,({ a.2 with f_I:=(w64 (a.2.f_I+1)) }:Zf)))) ((cond (b == 116) ((some (9,({ a.2 with f_I:=(w64 (a.2.f_I+1)) }:Zf)))) (cond (b != 0) ((F146 k ([92,46,91,93,40,41,123,125,42,43,63,124,94,36,45,47]:List UInt8) b).bind fun e=>(Zhx a b e)) ((Zhx a b false))))))))))))
theorem ZmV (k:Nat) (v0:Zf) (r:Int×Zf) (c:F173 k v0=some r):SM 173 [pt 0] [bx (Ze v0)] (oi r.1) [bx (Ze r.2)]:=by
 refine Zz [0] Tryz.func173 rfl kr kr ?_
 show WA _ _ 57 _ _ _
 refine Ws [] [(0,pt 0)] [(0,bx (Ze v0))] ?_
 refine WA.seq ?_
 obtain ⟨a,x,c⟩:=Zh c
 refine Wos [(1,.call [0] (ob a.1) [bx (Ze a.2)] [])] [(0,pt 0),(6,ob (!a.1))] [(0,bx (Ze a.2))] [SM 74 [pt 0,one (.int .u8 92)] [bx (Ze v0)] (ob a.1) [bx (Ze a.2)],([0]:List Nat).Nodup] ⟨(Zaz k _ _ _ x),nd,trivial⟩ ?_
 refine WA.cond (b:=(!a.1)) rfl (fun h=>?_) (fun h=>?_)
 {
 have c:=Zk c h
 refine WA.join (fun v=>∃(p:Zf),J v [(0,pt 0)] [(0,bx (Ze p))]∧Zcj k p=some r) ?_ ?_
 {
 rintro v ⟨p,u,c⟩
 refine Wj u ?_
 clear u
 obtain ⟨e,a0,c⟩:=Zh c
 refine Wos [(1,.call [0] (oi e.1) [bx (Ze e.2)] [])] [(2,oi e.1)] [(0,bx (Ze e.2))] [SM 147 [pt 0] [bx (Ze p)] (oi e.1) [bx (Ze e.2)],([0]:List Nat).Nodup] ⟨(ZmS k _ _ a0),nd,trivial⟩ ?_
 refine WA.ret ?_
 obtain rfl:=zj_ c
 exact Zq (oi e.1) [bx (Ze e.2)] kr kr kr kr nd rfl rfl }
 {
 refine WA.join (fun v=>∃(o:Bool),J v [(0,pt 0),(21,ob o)] [(0,bx (Ze a.2))]∧ZbO k a o=some r) ?_ ?_
 {
 rintro v ⟨o,u,c⟩
 refine Wj u ?_
 clear u
 refine WA.cond (b:=o) rfl (fun i=>?_) (fun i=>?_)
 {
 have c:=Zk c i
 refine Wr [] [(0,pt 0)] [(0,bx (Ze ({ a.2 with f_Bad:=true }:Zf)))] ?_
 exact ⟨({ a.2 with f_Bad:=true }:Zf),jk,c⟩ }
 {
 have c:=Zj c i
 refine WA.skip ?_
 exact ⟨a.2,jk,c⟩ } }
 {
 rcases zo_ (decide (a.2.f_I<(a.2.f_S.length:Int))) with f | f
 {
 have c:=Zk c f
 obtain ⟨w,y,c⟩:=Zh c
 obtain ⟨s,z,c⟩:=Zh c
 refine Wd [(10,.bool true),(12,.callR [0] (one (.int .u8 w))),(13,.callR [] (ob s))] [(0,pt 0),(21,ob s)] [(0,bx (Ze a.2))] [(decide (a.2.f_I<(a.2.f_S.length:Int)))=true,SM 100 [pt 0] [bx (Ze a.2)] (one (.int .u8 w)) [bx (Ze a.2)],([0]:List Nat).Nodup,SM 146 [one (.str ([93,91,94,45]:List UInt8)),one (.int .u8 w)] [] (ob s) [],([]:List Nat).Nodup] ⟨f,(Zar k _ _ y),nd,(Zhp k _ _ _ z),nd,trivial⟩ ?_
 exact ⟨s,jk,c⟩ }
 {
 have c:=Zj c f
 refine Wd [(10,.bool false),(12,.callR [] (.tup [])),(13,.callR [] (.tup []))] [(0,pt 0),(21,ob false)] [(0,bx (Ze a.2))] [(decide (a.2.f_I<(a.2.f_S.length:Int)))=false] ⟨f,trivial⟩ ?_
 exact ⟨false,jk,c⟩ } } } }
 {
 have c:=Zj c h
 refine WA.skip ?_
 obtain ⟨d,a1,c⟩:=Zh c
 refine Wos [(1,.callR [0] (one (.int .u8 d)))] [(0,pt 0),(3,one (.int .u8 d))] [(0,bx (Ze a.2))] [SM 100 [pt 0] [bx (Ze a.2)] (one (.int .u8 d)) [bx (Ze a.2)],([0]:List Nat).Nodup] ⟨(Zar k _ _ a1),nd,trivial⟩ ?_
 refine Ws [] [(0,pt 0),(3,one (.int .u8 d))] [(0,bx (Ze ({ a.2 with f_I:=(w64 (a.2.f_I+1)) }:Zf)))] ?_
 refine WA.seq ?_
 refine WA.block ?_
 refine Ws [] [(0,pt 0),(3,one (.int .u8 d)),(36,ob (d == 100))] [(0,bx (Ze ({ a.2 with f_I:=(w64 (a.2.f_I+1)) }:Zf)))] ?_
 refine WA.cond (b:=(d == 100)) rfl (fun j=>?_) (fun j=>?_)
 {
 have c:=Zk c j
 refine Ws [] [(2,oi (-1))] [(0,bx (Ze ({ a.2 with f_I:=(w64 (a.2.f_I+1)) }:Zf)))] ?_
 refine WA.ret ?_
 obtain rfl:=zj_ c
 exact Zq (oi (-1)) [bx (Ze ({ a.2 with f_I:=(w64 (a.2.f_I+1)) }:Zf))] kr kr kr kr nd rfl rfl }
 {
 have c:=Zj c j
 refine Ws [] [(0,pt 0),(3,one (.int .u8 d)),(39,ob (d == 110))] [(0,bx (Ze ({ a.2 with f_I:=(w64 (a.2.f_I+1)) }:Zf)))] ?_
 refine WA.cond (b:=(d == 110)) rfl (fun l=>?_) (fun l=>?_)
 {
 have c:=Zk c l
 refine Ws [] [(2,oi 10)] [(0,bx (Ze ({ a.2 with f_I:=(w64 (a.2.f_I+1)) }:Zf)))] ?_
 refine WA.ret ?_
 obtain rfl:=zj_ c
 exact Zq (oi 10) [bx (Ze ({ a.2 with f_I:=(w64 (a.2.f_I+1)) }:Zf))] kr kr kr kr nd rfl rfl }
 {
 have c:=Zj c l
 refine Ws [] [(0,pt 0),(3,one (.int .u8 d)),(42,ob (d == 116))] [(0,bx (Ze ({ a.2 with f_I:=(w64 (a.2.f_I+1)) }:Zf)))] ?_
 refine WA.cond (b:=(d == 116)) rfl (fun m=>?_) (fun m=>?_)
 {
 have c:=Zk c m
 refine Ws [] [(2,oi 9)] [(0,bx (Ze ({ a.2 with f_I:=(w64 (a.2.f_I+1)) }:Zf)))] ?_
 refine WA.ret ?_
 obtain rfl:=zj_ c
 exact Zq (oi 9) [bx (Ze ({ a.2 with f_I:=(w64 (a.2.f_I+1)) }:Zf))] kr kr kr kr nd rfl rfl }
 {
 have c:=Zj c m
 refine WA.join (fun v=>∃(q:Bool),J v [(0,pt 0),(3,one (.int .u8 d)),(45,ob q)] [(0,bx (Ze ({ a.2 with f_I:=(w64 (a.2.f_I+1)) }:Zf)))]∧Zhx a d q=some r) ?_ ?_
 {
 rintro v ⟨q,u,c⟩
 refine Wj u ?_
 clear u
 refine WA.cond (b:=q) rfl (fun n=>?_) (fun n=>?_)
 {
 have c:=Zk c n
 refine Ws [] [(2,oi (w64 d))] [(0,bx (Ze ({ a.2 with f_I:=(w64 (a.2.f_I+1)) }:Zf)))] ?_
 refine WA.ret ?_
 obtain rfl:=zj_ c
 exact Zq (oi (w64 d)) [bx (Ze ({ a.2 with f_I:=(w64 (a.2.f_I+1)) }:Zf))] kr kr kr kr nd rfl rfl }
 {
 have c:=Zj c n
 refine WA.skip ?_
 refine Ws [] [] [(0,bx (Ze ({ ({ a.2 with f_I:=(w64 (a.2.f_I+1)) }:Zf) with f_Bad:=true }:Zf)))] ?_
 refine Ws [] [(2,oi 0)] [(0,bx (Ze ({ ({ a.2 with f_I:=(w64 (a.2.f_I+1)) }:Zf) with f_Bad:=true }:Zf)))] ?_
 refine WA.ret ?_
 obtain rfl:=zj_ c
 exact Zq (oi 0) [bx (Ze ({ ({ a.2 with f_I:=(w64 (a.2.f_I+1)) }:Zf) with f_Bad:=true }:Zf))] kr kr kr kr nd rfl rfl } }
 {
 rcases zo_ (d != 0) with g | g
 {
 have c:=Zk c g
 obtain ⟨t,a2,c⟩:=Zh c
 refine Wo [(2,.bool true),(4,.callR [] (ob t))] [(0,pt 0),(3,one (.int .u8 d)),(45,ob t)] [(0,bx (Ze ({ a.2 with f_I:=(w64 (a.2.f_I+1)) }:Zf)))] [(d != 0)=true,SM 146 [one (.str ([92,46,91,93,40,41,123,125,42,43,63,124,94,36,45,47]:List UInt8)),one (.int .u8 d)] [] (ob t) [],([]:List Nat).Nodup] ⟨g,(Zhp k _ _ _ a2),nd,trivial⟩ ?_
 exact ⟨t,jk,c⟩ }
 {
 have c:=Zj c g
 refine Wo [(2,.bool false)] [(0,pt 0),(3,one (.int .u8 d)),(45,ob false)] [(0,bx (Ze ({ a.2 with f_I:=(w64 (a.2.f_I+1)) }:Zf)))] [(d != 0)=false] ⟨g,trivial⟩ ?_
 exact ⟨false,jk,c⟩ } } } } } }
def Zhn (a:Zf) (b:List Zb):Option (Zd×Zf):=
  (some ((⟨1,b,([]:List Zd),0,0⟩:Zd),a))
def ZcJ (k:Nat) (d:Bool×Zf) (a:Zf) (c:List Zb):Option (Zd×Zf):=
  (cond a.f_Bad ((some ((⟨0,([]:List Zb),([]:List Zd),0,0⟩:Zd),a))) ((F174 k c).bind fun b=>((cond d.1 ((F175 k b).bind fun e=>(Zhn a e)) ((Zhn a b))))))
def Zbk (k:Nat) (c:Zf→(List Zb)→Option (Zd×Zf)) (e:Bool×Zf) (d:Zf) (b:List Zb):Option (Zd×Zf):=
  (F74 k d 93).bind fun a=>(cond a.1 ((ZcJ k e a.2 b)) (c a.2 b))
def ZbK (k:Nat) (d:Zf→(List Zb)→Option (Zd×Zf)) (f:Bool×Zf) (a:List Zb) (c:Int×Zf) (e:Zf) (b:Int):Option (Zd×Zf):=
  if a.length+([(⟨c.1,b⟩:Zb)]:List Zb).length≤1073741824 then (Zbk k d f e (a ++ ([(⟨c.1,b⟩:Zb)]:List Zb))) else none
def ZbJ (k:Nat) (c:Zf→(List Zb)→Option (Zd×Zf)) (d:Bool×Zf) (f:Zf) (b:List Zb):Option (Zd×Zf):=
  (cond (!f.f_Bad) ((F173 k f).bind fun a=>((cond (a.1 == (-1)) (if b.length+([(⟨48,57⟩:Zb)]:List Zb).length≤1073741824 then (Zbk k c d a.2 (b ++ ([(⟨48,57⟩:Zb)]:List Zb))) else none) ((F74 k a.2 45).bind fun g=>(cond g.1 ((F173 k g.2).bind fun e=>((cond (decide (e.1<a.1)) ((ZbK k c d b a ({ e.2 with f_Bad:=true }:Zf) e.1)) ((ZbK k c d b a e.2 e.1))))) ((ZbK k c d b a g.2 a.1))))))) ((ZcJ k d f b)))
def ZaE (k:Nat) (a:Bool×Zf):Nat→Zf→(List Zb)→Option (Zd×Zf)
  | 0,_,_=>none
  | d+1,b,c=>ZbJ k (ZaE k a d) a b c
def F144 (k:Nat) (v0:Zf):Option (Zd×Zf):=
  (F74 k v0 94).bind fun a=>((ZaE k a k a.2 ([]:List Zb)))
theorem ZpX (k:Nat) (v0:Zf) (r:Zd×Zf) (c:F144 k v0=some r):SM 144 [pt 0] [bx (Ze v0)] (tv (Zc r.1)) [bx (Ze r.2)]:=by
 refine Zz [0] Tryz.func144 rfl kr kr ?_
 show WA _ _ 53 _ _ _
 refine Ws [(0,.obj 102)] [(0,pt 0),(2,pt 102)] [(0,bx (Ze v0)),(102,bx (Zc (⟨0,([]:List Zb),([]:List Zd),0,0⟩:Zd)))] ?_
 obtain ⟨a,b3,c⟩:=Zh c
 refine Wos [(1,.call [0] (ob a.1) [bx (Ze a.2)] [])] [(0,pt 0),(2,pt 102),(3,ob a.1)] [(0,bx (Ze a.2)),(102,bx (Zc (⟨0,([]:List Zb),([]:List Zd),0,0⟩:Zd)))] [SM 74 [pt 0,one (.int .u8 94)] [bx (Ze v0)] (ob a.1) [bx (Ze a.2)],([0]:List Nat).Nodup] ⟨(Zaz k _ _ _ b3),nd,trivial⟩ ?_
 refine Ws [(0,.obj 104)] [(0,pt 0),(2,pt 102),(3,ob a.1),(4,ar 104 0)] [(0,bx (Ze a.2)),(102,bx (Zc (⟨0,([]:List Zb),([]:List Zd),0,0⟩:Zd))),(104,.arr 2 (([]:List Zb).map Za))] ?_
 refine WA.join (fun v=>∃(h:Zf) (q:List Zb) (v158:Nat),J v [(0,pt 0),(2,pt 102),(3,ob a.1),(4,ar 104 v158)] [(0,bx (Ze h)),(102,bx (Zc (⟨0,([]:List Zb),([]:List Zd),0,0⟩:Zd))),(104,.arr 2 (q.map Za))]∧v158=(q:List _).length∧ZcJ k a h q=some r) ?_ ?_
 {
 rintro v ⟨h,q,v158,u,c3,c⟩
 refine Wj u ?_
 clear u
 refine WA.seq ?_
 refine Ws [] [(2,pt 102),(3,ob a.1),(4,ar 104 v158),(44,ob h.f_Bad)] [(0,bx (Ze h)),(102,bx (Zc (⟨0,([]:List Zb),([]:List Zd),0,0⟩:Zd))),(104,.arr 2 (q.map Za))] ?_
 refine WA.cond (b:=h.f_Bad) rfl (fun a5=>?_) (fun a5=>?_)
 {
 have c:=Zk c a5
 refine Ws [] [(2,pt 102)] [(0,bx (Ze h)),(102,bx (Zc (⟨0,([]:List Zb),([]:List Zd),0,0⟩:Zd)))] ?_
 refine WA.ret ?_
 obtain rfl:=zj_ c
 exact Zq (tv (Zc (⟨0,([]:List Zb),([]:List Zd),0,0⟩:Zd))) [bx (Ze h)] kr kr kr kr nd rfl rfl }
 {
 have c:=Zj c a5
 refine WA.skip ?_
 refine WA.seq ?_
 refine WA.freeze 104 4 (s:=2) (n:=v158) (els:=(q.map Za)) rfl rfl zt ?_
 refine Wk [(2,pt 102),(3,ob a.1),(4,one (.sl (q.map Za)))] [(0,bx (Ze h)),(102,bx (Zc (⟨0,([]:List Zb),([]:List Zd),0,0⟩:Zd)))] ?_
 obtain ⟨x,b8,c⟩:=Zh c
 refine Wo [(1,.callR [] (one (.sl (x.map Za))))] [(2,pt 102),(3,ob a.1),(4,one (.sl (x.map Za)))] [(0,bx (Ze h)),(102,bx (Zc (⟨0,([]:List Zb),([]:List Zd),0,0⟩:Zd)))] [SM 174 [one (.sl (q.map Za))] [] (one (.sl (x.map Za))) [],([]:List Nat).Nodup] ⟨(Zqa k _ _ b8),nd,trivial⟩ ?_
 refine WA.join (fun v=>∃(z:List Zb),J v [(2,pt 102),(4,one (.sl (z.map Za)))] [(0,bx (Ze h)),(102,bx (Zc (⟨0,([]:List Zb),([]:List Zd),0,0⟩:Zd)))]∧Zhn h z=some r) ?_ ?_
 {
 rintro v ⟨z,u,c⟩
 refine Wj u ?_
 clear u
 refine Ws [] [(2,pt 102)] [(0,bx (Ze h)),(102,bx (Zc (⟨1,z,([]:List Zd),0,0⟩:Zd)))] ?_
 refine WA.ret ?_
 obtain rfl:=zj_ c
 exact Zq (tv (Zc (⟨1,z,([]:List Zd),0,0⟩:Zd))) [bx (Ze h)] kr kr kr kr nd rfl rfl }
 {
 refine Ws [] [(2,pt 102),(4,one (.sl (x.map Za))),(48,ob a.1)] [(0,bx (Ze h)),(102,bx (Zc (⟨0,([]:List Zb),([]:List Zd),0,0⟩:Zd)))] ?_
 refine WA.cond (b:=a.1) rfl (fun a6=>?_) (fun a6=>?_)
 {
 have c:=Zk c a6
 obtain ⟨a9,b9,c⟩:=Zh c
 refine Wo [(1,.callR [] (one (.sl (a9.map Za))))] [(2,pt 102),(4,one (.sl (a9.map Za)))] [(0,bx (Ze h)),(102,bx (Zc (⟨0,([]:List Zb),([]:List Zd),0,0⟩:Zd)))] [SM 175 [one (.sl (x.map Za))] [] (one (.sl (a9.map Za))) [],([]:List Nat).Nodup] ⟨(Zqb k _ _ b9),nd,trivial⟩ ?_
 exact ⟨a9,jk,c⟩ }
 {
 have c:=Zj c a6
 refine WA.skip ?_
 exact ⟨x,jk,c⟩ } } } }
 {
 refine WA.block ?_
 refine WA.loop (fun m v=>∃(j:Zf) (e:List Zb) (f:Nat),J v [(0,pt 0),(2,pt 102),(3,ob a.1),(4,ar 104 f)] [(0,bx (Ze j)),(102,bx (Zc (⟨0,([]:List Zb),([]:List Zd),0,0⟩:Zd))),(104,.arr 2 (e.map Za))]∧f=(e:List _).length∧ZaE k a m j e=some r) k ⟨a.2,([]:List Zb),0,jk,zt,c⟩ ?_
 clear c
 rintro m4 v ⟨j,e,f,u,c1,c⟩
 refine Wj u ?_
 clear u
 cases m4 with
 | zero=>cases c
 | succ m4=>
  obtain ⟨a7,b0⟩:∃g,g=ZaE k a m4:=⟨_,rfl⟩
  have c:ZbJ k a7 a j e=some r:=by first | (rw [b0];exact c) | exact c
  refine WA.seq ?_
  refine Ws [] [(0,pt 0),(2,pt 102),(3,ob a.1),(4,ar 104 f),(13,ob (!j.f_Bad))] [(0,bx (Ze j)),(102,bx (Zc (⟨0,([]:List Zb),([]:List Zd),0,0⟩:Zd))),(104,.arr 2 (e.map Za))] ?_
  refine WA.cond (b:=(!j.f_Bad)) rfl (fun a0=>?_) (fun a0=>?_)
  {
 have c:=Zk c a0
 refine WA.skip ?_
 refine WA.block ?_
 obtain ⟨d,b4,c⟩:=Zh c
 refine Wos [(1,.call [0] (oi d.1) [bx (Ze d.2)] [])] [(0,pt 0),(2,pt 102),(3,ob a.1),(4,ar 104 f),(5,oi d.1)] [(0,bx (Ze d.2)),(102,bx (Zc (⟨0,([]:List Zb),([]:List Zd),0,0⟩:Zd))),(104,.arr 2 (e.map Za))] [SM 173 [pt 0] [bx (Ze j)] (oi d.1) [bx (Ze d.2)],([0]:List Nat).Nodup] ⟨(ZmV k _ _ b4),nd,trivial⟩ ?_
 refine WA.join (fun v=>∃(a8:Zf) (t:List Zb) (w:Nat),J v [(0,pt 0),(2,pt 102),(3,ob a.1),(4,ar 104 w)] [(0,bx (Ze a8)),(102,bx (Zc (⟨0,([]:List Zb),([]:List Zd),0,0⟩:Zd))),(104,.arr 2 (t.map Za))]∧w=(t:List _).length∧Zbk k a7 a a8 t=some r) ?_ ?_
 {
 rintro v ⟨a8,t,w,u,c2,c⟩
 refine Wj u ?_
 clear u
 obtain ⟨p,b7,c⟩:=Zh c
 refine Wos [(1,.call [0] (ob p.1) [bx (Ze p.2)] [])] [(0,pt 0),(2,pt 102),(3,ob a.1),(4,ar 104 w),(40,ob p.1)] [(0,bx (Ze p.2)),(102,bx (Zc (⟨0,([]:List Zb),([]:List Zd),0,0⟩:Zd))),(104,.arr 2 (t.map Za))] [SM 74 [pt 0,one (.int .u8 93)] [bx (Ze a8)] (ob p.1) [bx (Ze p.2)],([0]:List Nat).Nodup] ⟨(Zaz k _ _ _ b7),nd,trivial⟩ ?_
 refine WA.cond (b:=p.1) rfl (fun a4=>?_) (fun a4=>?_)
 {
 have c:=Zk c a4
 refine WA.exit ?_
 exact ⟨p.2,t,w,jk,zt,c⟩ }
 {
 have c:=Zj c a4
 refine WA.skip ?_
 exact ⟨m4,zl_ _,p.2,t,w,jk,zt,by rw [b0] at c;exact c⟩ } }
 {
 refine Ws [] [(0,pt 0),(2,pt 102),(3,ob a.1),(4,ar 104 f),(5,oi d.1),(17,ob (d.1 == (-1)))] [(0,bx (Ze d.2)),(102,bx (Zc (⟨0,([]:List Zb),([]:List Zd),0,0⟩:Zd))),(104,.arr 2 (e.map Za))] ?_
 refine WA.cond (b:=(d.1 == (-1))) rfl (fun a1=>?_) (fun a1=>?_)
 {
 have c:=Zk c a1
 obtain ⟨b1,c⟩:=Zo c
 refine Wm (((e.map Za) ++ (([(⟨48,57⟩:Zb)]:List Zb).map Za)):(List (List PV))) ((e ++ ([(⟨48,57⟩:Zb)]:List Zb)).map Za) (fun m_=>([(0,pt 0),(2,pt 102),(3,ob a.1),(4,ar 104 (f+1))],[(0,bx (Ze d.2)),(102,bx (Zc (⟨0,([]:List Zb),([]:List Zd),0,0⟩:Zd))),(104,.arr 2 m_)],[f=(e.map Za).length,(e.map Za).length+(([(⟨48,57⟩:Zb)]:List Zb).map Za).length≤1073741824,∀es,es∈(([(⟨48,57⟩:Zb)]:List Zb).map Za)→es.length=2])) (zm) [] ⟨zt,(by first | exact b1 | (simp only [List.length_map,Zi];exact b1)),(ZQ ([(⟨48,57⟩:Zb)]:List Zb)),trivial⟩ ?_
 exact ⟨d.2,(e ++ ([(⟨48,57⟩:Zb)]:List Zb)),(f+1),jk,zt,c⟩ }
 {
 have c:=Zj c a1
 refine Ws [] [(0,pt 0),(2,pt 102),(3,ob a.1),(4,ar 104 f),(5,oi d.1),(6,oi d.1)] [(0,bx (Ze d.2)),(102,bx (Zc (⟨0,([]:List Zb),([]:List Zd),0,0⟩:Zd))),(104,.arr 2 (e.map Za))] ?_
 refine WA.join (fun v=>∃(y:Zf) (l:Int),J v [(0,pt 0),(2,pt 102),(3,ob a.1),(4,ar 104 f),(5,oi d.1),(6,oi l)] [(0,bx (Ze y)),(102,bx (Zc (⟨0,([]:List Zb),([]:List Zd),0,0⟩:Zd))),(104,.arr 2 (e.map Za))]∧ZbK k a7 a e d y l=some r) ?_ ?_
 {
 rintro v ⟨y,l,u,c⟩
 refine Wj u ?_
 clear u
 obtain ⟨b2,c⟩:=Zo c
 refine Wm (((e.map Za) ++ (([(⟨d.1,l⟩:Zb)]:List Zb).map Za)):(List (List PV))) ((e ++ ([(⟨d.1,l⟩:Zb)]:List Zb)).map Za) (fun m_=>([(0,pt 0),(2,pt 102),(3,ob a.1),(4,ar 104 (f+1))],[(0,bx (Ze y)),(102,bx (Zc (⟨0,([]:List Zb),([]:List Zd),0,0⟩:Zd))),(104,.arr 2 m_)],[f=(e.map Za).length,(e.map Za).length+(([(⟨d.1,l⟩:Zb)]:List Zb).map Za).length≤1073741824,∀es,es∈(([(⟨d.1,l⟩:Zb)]:List Zb).map Za)→es.length=2])) (zm) [] ⟨zt,(by first | exact b2 | (simp only [List.length_map,Zi];exact b2)),(ZQ ([(⟨d.1,l⟩:Zb)]:List Zb)),trivial⟩ ?_
 exact ⟨y,(e ++ ([(⟨d.1,l⟩:Zb)]:List Zb)),(f+1),jk,zt,c⟩ }
 {
 obtain ⟨o,b5,c⟩:=Zh c
 refine Wos [(1,.call [0] (ob o.1) [bx (Ze o.2)] [])] [(0,pt 0),(2,pt 102),(3,ob a.1),(4,ar 104 f),(5,oi d.1),(6,oi d.1),(24,ob o.1)] [(0,bx (Ze o.2)),(102,bx (Zc (⟨0,([]:List Zb),([]:List Zd),0,0⟩:Zd))),(104,.arr 2 (e.map Za))] [SM 74 [pt 0,one (.int .u8 45)] [bx (Ze d.2)] (ob o.1) [bx (Ze o.2)],([0]:List Nat).Nodup] ⟨(Zaz k _ _ _ b5),nd,trivial⟩ ?_
 refine WA.cond (b:=o.1) rfl (fun a2=>?_) (fun a2=>?_)
 {
 have c:=Zk c a2
 obtain ⟨i,b6,c⟩:=Zh c
 refine Wos [(1,.call [0] (oi i.1) [bx (Ze i.2)] [])] [(0,pt 0),(2,pt 102),(3,ob a.1),(4,ar 104 f),(5,oi d.1),(6,oi i.1)] [(0,bx (Ze i.2)),(102,bx (Zc (⟨0,([]:List Zb),([]:List Zd),0,0⟩:Zd))),(104,.arr 2 (e.map Za))] [SM 173 [pt 0] [bx (Ze o.2)] (oi i.1) [bx (Ze i.2)],([0]:List Nat).Nodup] ⟨(ZmV k _ _ b6),nd,trivial⟩ ?_
 refine Ws [] [(0,pt 0),(2,pt 102),(3,ob a.1),(4,ar 104 f),(5,oi d.1),(6,oi i.1),(29,ob (decide (i.1<d.1)))] [(0,bx (Ze i.2)),(102,bx (Zc (⟨0,([]:List Zb),([]:List Zd),0,0⟩:Zd))),(104,.arr 2 (e.map Za))] ?_
 refine WA.cond (b:=(decide (i.1<d.1))) rfl (fun a3=>?_) (fun a3=>?_)
 {
 have c:=Zk c a3
 refine Wr [] [(0,pt 0),(2,pt 102),(3,ob a.1),(4,ar 104 f),(5,oi d.1),(6,oi i.1)] [(0,bx (Ze ({ i.2 with f_Bad:=true }:Zf))),(102,bx (Zc (⟨0,([]:List Zb),([]:List Zd),0,0⟩:Zd))),(104,.arr 2 (e.map Za))] ?_
 exact ⟨({ i.2 with f_Bad:=true }:Zf),i.1,jk,c⟩ }
 {
 have c:=Zj c a3
 refine WA.skip ?_
 exact ⟨i.2,i.1,jk,c⟩ } }
 {
 have c:=Zj c a2
 refine WA.skip ?_
 exact ⟨o.2,d.1,jk,c⟩ } } } } }
  {
 have c:=Zj c a0
 refine WA.exit ?_
 exact ⟨j,e,f,jk,zt,c⟩ } }
def Zhf (b:Zd×Zf) (a:Zf):Option (Zd×Zf):=
  (some (b.1,a))
def ZbH (k:Nat) (b:Zf):Option (Zd×Zf):=
  (F147 k b).bind fun a=>(F145 k a.1).bind fun c=>(some (c,a.2))
def Zdq (k:Nat) (a:Bool×Zf) (c:Int) (b:Bool):Option (Zd×Zf):=
  cond b ((F145 k (w64 c)).bind fun d=>(some (d,({ a.2 with f_I:=(w64 (a.2.f_I+1)) }:Zf)))) (((ZbH k ({ ({ a.2 with f_I:=(w64 (a.2.f_I+1)) }:Zf) with f_Bad:=true }:Zf))))
def Zhg (k:Nat) (a:Bool×Zf) (b:Bool):Option (Zd×Zf):=
  cond b ((ZbH k ({ a.2 with f_Bad:=true }:Zf))) ((ZbH k a.2))
def F119 (R51:Zf→Option (Zd×Zf)) (k:Nat) (v0:Zf):Option (Zd×Zf):=
  (F100 k v0).bind fun i=>(F74 k v0 46).bind fun c=>(cond c.1 ((F143 k).bind fun j=>(some ((⟨1,j,([]:List Zd),0,0⟩:Zd),c.2))) ((F74 k c.2 40).bind fun d=>(cond d.1 ((R51 d.2).bind fun e=>(F74 k e.2 41).bind fun f=>(cond (!f.1) ((Zhf e ({ f.2 with f_Bad:=true }:Zf))) ((Zhf e f.2)))) ((F74 k d.2 91).bind fun g=>(cond g.1 ((F144 k g.2).bind fun h=>(some (h.1,h.2))) ((F74 k g.2 92).bind fun a=>(cond a.1 ((F100 k a.2).bind fun b=>(((cond (b == 100) ((some ((⟨1,([(⟨48,57⟩:Zb)]:List Zb),([]:List Zd),0,0⟩:Zd),({ a.2 with f_I:=(w64 (a.2.f_I+1)) }:Zf)))) ((cond (b == 110) ((F145 k 10).bind fun l=>(some (l,({ a.2 with f_I:=(w64 (a.2.f_I+1)) }:Zf)))) ((cond (b == 116) ((F145 k 9).bind fun m=>(some (m,({ a.2 with f_I:=(w64 (a.2.f_I+1)) }:Zf)))) (cond (b != 0) ((F146 k ([92,46,91,93,40,41,123,125,42,43,63,124,94,36,45,47]:List UInt8) b).bind fun n=>(Zdq k a b n)) ((Zdq k a b false))))))))))) (cond (decide (a.2.f_I<(a.2.f_S.length:Int))) ((F146 k ([93,91,40,41,123,125,42,43,63,124,94,36]:List UInt8) i).bind fun o=>(Zhg k a o)) ((Zhg k a false))))))))))
theorem ZpV (R51:Zf→Option (Zd×Zf)) (IH51:∀(v0:Zf) (r:Zd×Zf),R51 v0=some r→SM 51 [pt 0] [bx (Ze v0)] (tv (Zc r.1)) [bx (Ze r.2)]) (k:Nat) (v0:Zf) (r:Zd×Zf) (c:F119 R51 k v0=some r):SM 119 [pt 0] [bx (Ze v0)] (tv (Zc r.1)) [bx (Ze r.2)]:=by
 refine Zz [0] Tryz.func119 rfl kr kr ?_
 show WA _ _ 90 _ _ _
 refine Ws [(0,.obj 102)] [(0,pt 0),(2,pt 102)] [(0,bx (Ze v0)),(102,bx (Zc (⟨0,([]:List Zb),([]:List Zd),0,0⟩:Zd)))] ?_
 refine WA.join (fun q=>∃(a5:Zf),J q [(0,pt 0),(2,pt 102)] [(0,bx (Ze a5)),(102,bx (Zc (⟨0,([]:List Zb),([]:List Zd),0,0⟩:Zd)))]∧ZbH k a5=some r) ?_ ?_
 {
 rintro q ⟨a5,p,c⟩
 refine Wj p ?_
 clear p
 obtain ⟨m,c8,c⟩:=Zh c
 obtain ⟨b2,c9,c⟩:=Zh c
 refine Wos [(1,.call [0] (oi m.1) [bx (Ze m.2)] []),(2,.callR [] (tv (Zc b2)))] [(2,pt 102)] [(0,bx (Ze m.2)),(102,bx (Zc b2))] [SM 147 [pt 0] [bx (Ze a5)] (oi m.1) [bx (Ze m.2)],([0]:List Nat).Nodup,SM 145 [oi m.1] [] (tv (Zc b2)) [],([]:List Nat).Nodup] ⟨(ZmS k _ _ c8),nd,(Zho k _ _ c9),nd,trivial⟩ ?_
 refine WA.ret ?_
 obtain rfl:=zj_ c
 exact Zq (tv (Zc b2)) [bx (Ze m.2)] kr kr kr kr nd rfl rfl }
 {
 obtain ⟨j,b3,c⟩:=Zh c
 refine Wos [(1,.callR [0] (one (.int .u8 j)))] [(0,pt 0),(2,pt 102),(3,one (.int .u8 j))] [(0,bx (Ze v0)),(102,bx (Zc (⟨0,([]:List Zb),([]:List Zd),0,0⟩:Zd)))] [SM 100 [pt 0] [bx (Ze v0)] (one (.int .u8 j)) [bx (Ze v0)],([0]:List Nat).Nodup] ⟨(Zar k _ _ b3),nd,trivial⟩ ?_
 refine WA.block ?_
 obtain ⟨f,b4,c⟩:=Zh c
 refine Wos [(1,.call [0] (ob f.1) [bx (Ze f.2)] [])] [(0,pt 0),(2,pt 102),(3,one (.int .u8 j)),(8,ob f.1)] [(0,bx (Ze f.2)),(102,bx (Zc (⟨0,([]:List Zb),([]:List Zd),0,0⟩:Zd)))] [SM 74 [pt 0,one (.int .u8 46)] [bx (Ze v0)] (ob f.1) [bx (Ze f.2)],([0]:List Nat).Nodup] ⟨(Zaz k _ _ _ b4),nd,trivial⟩ ?_
 refine WA.cond (b:=f.1) rfl (fun t=>?_) (fun t=>?_)
 {
 have c:=Zk c t
 obtain ⟨a6,b5,c⟩:=Zh c
 refine Wos [(0,.callR [] (one (.sl (a6.map Za))))] [(2,pt 102)] [(0,bx (Ze f.2)),(102,bx (Zc (⟨1,a6,([]:List Zd),0,0⟩:Zd)))] [SM 143 [] [] (one (.sl (a6.map Za))) [],([]:List Nat).Nodup] ⟨(ZjS k _ b5),nd,trivial⟩ ?_
 refine WA.ret ?_
 obtain rfl:=zj_ c
 exact Zq (tv (Zc (⟨1,a6,([]:List Zd),0,0⟩:Zd))) [bx (Ze f.2)] kr kr kr kr nd rfl rfl }
 {
 have c:=Zj c t
 obtain ⟨h,b6,c⟩:=Zh c
 refine Wos [(1,.call [0] (ob h.1) [bx (Ze h.2)] [])] [(0,pt 0),(2,pt 102),(3,one (.int .u8 j)),(13,ob h.1)] [(0,bx (Ze h.2)),(102,bx (Zc (⟨0,([]:List Zb),([]:List Zd),0,0⟩:Zd)))] [SM 74 [pt 0,one (.int .u8 40)] [bx (Ze f.2)] (ob h.1) [bx (Ze h.2)],([0]:List Nat).Nodup] ⟨(Zaz k _ _ _ b6),nd,trivial⟩ ?_
 refine WA.cond (b:=h.1) rfl (fun u=>?_) (fun u=>?_)
 {
 have c:=Zk c u
 obtain ⟨e,b7,c⟩:=Zh c
 refine Wos [(1,.call [0] (tv (Zc e.1)) [bx (Ze e.2)] []),(2,.obj 104)] [(0,pt 0),(2,pt 102),(4,pt 104)] [(0,bx (Ze e.2)),(102,bx (Zc (⟨0,([]:List Zb),([]:List Zd),0,0⟩:Zd))),(104,bx (Zc e.1))] [SM 51 [pt 0] [bx (Ze h.2)] (tv (Zc e.1)) [bx (Ze e.2)],([0]:List Nat).Nodup] ⟨(IH51 _ _ b7),nd,trivial⟩ ?_
 refine WA.join (fun q=>∃(s:Zf),J q [(2,pt 102),(4,pt 104)] [(0,bx (Ze s)),(102,bx (Zc (⟨0,([]:List Zb),([]:List Zd),0,0⟩:Zd))),(104,bx (Zc e.1))]∧Zhf e s=some r) ?_ ?_
 {
 rintro q ⟨s,p,c⟩
 refine Wj p ?_
 clear p
 refine Ws [] [(2,pt 102)] [(0,bx (Ze s)),(102,bx (Zc e.1))] ?_
 refine WA.ret ?_
 obtain rfl:=zj_ c
 exact Zq (tv (Zc e.1)) [bx (Ze s)] kr kr kr kr nd rfl rfl }
 {
 obtain ⟨g,b8,c⟩:=Zh c
 refine Wos [(1,.call [0] (ob g.1) [bx (Ze g.2)] [])] [(0,pt 0),(2,pt 102),(4,pt 104),(20,ob (!g.1))] [(0,bx (Ze g.2)),(102,bx (Zc (⟨0,([]:List Zb),([]:List Zd),0,0⟩:Zd))),(104,bx (Zc e.1))] [SM 74 [pt 0,one (.int .u8 41)] [bx (Ze e.2)] (ob g.1) [bx (Ze g.2)],([0]:List Nat).Nodup] ⟨(Zaz k _ _ _ b8),nd,trivial⟩ ?_
 refine WA.cond (b:=(!g.1)) rfl (fun v=>?_) (fun v=>?_)
 {
 have c:=Zk c v
 refine Wr [] [(2,pt 102),(4,pt 104)] [(0,bx (Ze ({ g.2 with f_Bad:=true }:Zf))),(102,bx (Zc (⟨0,([]:List Zb),([]:List Zd),0,0⟩:Zd))),(104,bx (Zc e.1))] ?_
 exact ⟨({ g.2 with f_Bad:=true }:Zf),jk,c⟩ }
 {
 have c:=Zj c v
 refine WA.skip ?_
 exact ⟨g.2,jk,c⟩ } } }
 {
 have c:=Zj c u
 obtain ⟨i,b9,c⟩:=Zh c
 refine Wos [(1,.call [0] (ob i.1) [bx (Ze i.2)] [])] [(0,pt 0),(2,pt 102),(3,one (.int .u8 j)),(25,ob i.1)] [(0,bx (Ze i.2)),(102,bx (Zc (⟨0,([]:List Zb),([]:List Zd),0,0⟩:Zd)))] [SM 74 [pt 0,one (.int .u8 91)] [bx (Ze h.2)] (ob i.1) [bx (Ze i.2)],([0]:List Nat).Nodup] ⟨(Zaz k _ _ _ b9),nd,trivial⟩ ?_
 refine WA.cond (b:=i.1) rfl (fun w=>?_) (fun w=>?_)
 {
 have c:=Zk c w
 obtain ⟨l,c0,c⟩:=Zh c
 refine Wos [(1,.call [0] (tv (Zc l.1)) [bx (Ze l.2)] [])] [(2,pt 102)] [(0,bx (Ze l.2)),(102,bx (Zc l.1))] [SM 144 [pt 0] [bx (Ze i.2)] (tv (Zc l.1)) [bx (Ze l.2)],([0]:List Nat).Nodup] ⟨(ZpX k _ _ c0),nd,trivial⟩ ?_
 refine WA.ret ?_
 obtain rfl:=zj_ c
 exact Zq (tv (Zc l.1)) [bx (Ze l.2)] kr kr kr kr nd rfl rfl }
 {
 have c:=Zj c w
 obtain ⟨a,c1,c⟩:=Zh c
 refine Wos [(1,.call [0] (ob a.1) [bx (Ze a.2)] [])] [(0,pt 0),(2,pt 102),(3,one (.int .u8 j)),(30,ob a.1)] [(0,bx (Ze a.2)),(102,bx (Zc (⟨0,([]:List Zb),([]:List Zd),0,0⟩:Zd)))] [SM 74 [pt 0,one (.int .u8 92)] [bx (Ze i.2)] (ob a.1) [bx (Ze a.2)],([0]:List Nat).Nodup] ⟨(Zaz k _ _ _ c1),nd,trivial⟩ ?_
 refine WA.cond (b:=a.1) rfl (fun x=>?_) (fun x=>?_)
 {
 have c:=Zk c x
 obtain ⟨d,c2,c⟩:=Zh c
 refine Wos [(1,.callR [0] (one (.int .u8 d)))] [(0,pt 0),(2,pt 102),(5,one (.int .u8 d))] [(0,bx (Ze a.2)),(102,bx (Zc (⟨0,([]:List Zb),([]:List Zd),0,0⟩:Zd)))] [SM 100 [pt 0] [bx (Ze a.2)] (one (.int .u8 d)) [bx (Ze a.2)],([0]:List Nat).Nodup] ⟨(Zar k _ _ c2),nd,trivial⟩ ?_
 refine Ws [] [(0,pt 0),(2,pt 102),(5,one (.int .u8 d))] [(0,bx (Ze ({ a.2 with f_I:=(w64 (a.2.f_I+1)) }:Zf))),(102,bx (Zc (⟨0,([]:List Zb),([]:List Zd),0,0⟩:Zd)))] ?_
 refine WA.seq ?_
 refine WA.block ?_
 refine Ws [] [(0,pt 0),(2,pt 102),(5,one (.int .u8 d)),(42,ob (d == 100))] [(0,bx (Ze ({ a.2 with f_I:=(w64 (a.2.f_I+1)) }:Zf))),(102,bx (Zc (⟨0,([]:List Zb),([]:List Zd),0,0⟩:Zd)))] ?_
 refine WA.cond (b:=(d == 100)) rfl (fun y=>?_) (fun y=>?_)
 {
 have c:=Zk c y
 refine Ws [] [(2,pt 102)] [(0,bx (Ze ({ a.2 with f_I:=(w64 (a.2.f_I+1)) }:Zf))),(102,bx (Zc (⟨1,([(⟨48,57⟩:Zb)]:List Zb),([]:List Zd),0,0⟩:Zd)))] ?_
 refine WA.ret ?_
 obtain rfl:=zj_ c
 exact Zq (tv (Zc (⟨1,([(⟨48,57⟩:Zb)]:List Zb),([]:List Zd),0,0⟩:Zd))) [bx (Ze ({ a.2 with f_I:=(w64 (a.2.f_I+1)) }:Zf))] kr kr kr kr nd rfl rfl }
 {
 have c:=Zj c y
 refine Ws [] [(0,pt 0),(2,pt 102),(5,one (.int .u8 d)),(48,ob (d == 110))] [(0,bx (Ze ({ a.2 with f_I:=(w64 (a.2.f_I+1)) }:Zf))),(102,bx (Zc (⟨0,([]:List Zb),([]:List Zd),0,0⟩:Zd)))] ?_
 refine WA.cond (b:=(d == 110)) rfl (fun z=>?_) (fun z=>?_)
 {
 have c:=Zk c z
 obtain ⟨a7,c3,c⟩:=Zh c
 refine Wos [(0,.callR [] (tv (Zc a7)))] [(2,pt 102)] [(0,bx (Ze ({ a.2 with f_I:=(w64 (a.2.f_I+1)) }:Zf))),(102,bx (Zc a7))] [SM 145 [oi 10] [] (tv (Zc a7)) [],([]:List Nat).Nodup] ⟨(Zho k _ _ c3),nd,trivial⟩ ?_
 refine WA.ret ?_
 obtain rfl:=zj_ c
 exact Zq (tv (Zc a7)) [bx (Ze ({ a.2 with f_I:=(w64 (a.2.f_I+1)) }:Zf))] kr kr kr kr nd rfl rfl }
 {
 have c:=Zj c z
 refine Ws [] [(0,pt 0),(2,pt 102),(5,one (.int .u8 d)),(52,ob (d == 116))] [(0,bx (Ze ({ a.2 with f_I:=(w64 (a.2.f_I+1)) }:Zf))),(102,bx (Zc (⟨0,([]:List Zb),([]:List Zd),0,0⟩:Zd)))] ?_
 refine WA.cond (b:=(d == 116)) rfl (fun a0=>?_) (fun a0=>?_)
 {
 have c:=Zk c a0
 obtain ⟨a8,c4,c⟩:=Zh c
 refine Wos [(0,.callR [] (tv (Zc a8)))] [(2,pt 102)] [(0,bx (Ze ({ a.2 with f_I:=(w64 (a.2.f_I+1)) }:Zf))),(102,bx (Zc a8))] [SM 145 [oi 9] [] (tv (Zc a8)) [],([]:List Nat).Nodup] ⟨(Zho k _ _ c4),nd,trivial⟩ ?_
 refine WA.ret ?_
 obtain rfl:=zj_ c
 exact Zq (tv (Zc a8)) [bx (Ze ({ a.2 with f_I:=(w64 (a.2.f_I+1)) }:Zf))] kr kr kr kr nd rfl rfl }
 {
 have c:=Zj c a0
 refine WA.join (fun q=>∃(a3:Bool),J q [(0,pt 0),(2,pt 102),(5,one (.int .u8 d)),(56,ob a3)] [(0,bx (Ze ({ a.2 with f_I:=(w64 (a.2.f_I+1)) }:Zf))),(102,bx (Zc (⟨0,([]:List Zb),([]:List Zd),0,0⟩:Zd)))]∧Zdq k a d a3=some r) ?_ ?_
 {
 rintro q ⟨a3,p,c⟩
 refine Wj p ?_
 clear p
 refine WA.cond (b:=a3) rfl (fun a1=>?_) (fun a1=>?_)
 {
 have c:=Zk c a1
 obtain ⟨b0,c6,c⟩:=Zh c
 refine Wos [(2,.callR [] (tv (Zc b0)))] [(2,pt 102)] [(0,bx (Ze ({ a.2 with f_I:=(w64 (a.2.f_I+1)) }:Zf))),(102,bx (Zc b0))] [SM 145 [oi (w64 d)] [] (tv (Zc b0)) [],([]:List Nat).Nodup] ⟨(Zho k _ _ c6),nd,trivial⟩ ?_
 refine WA.ret ?_
 obtain rfl:=zj_ c
 exact Zq (tv (Zc b0)) [bx (Ze ({ a.2 with f_I:=(w64 (a.2.f_I+1)) }:Zf))] kr kr kr kr nd rfl rfl }
 {
 have c:=Zj c a1
 refine WA.skip ?_
 refine Wr [] [(0,pt 0),(2,pt 102)] [(0,bx (Ze ({ ({ a.2 with f_I:=(w64 (a.2.f_I+1)) }:Zf) with f_Bad:=true }:Zf))),(102,bx (Zc (⟨0,([]:List Zb),([]:List Zd),0,0⟩:Zd)))] ?_
 exact ⟨({ ({ a.2 with f_I:=(w64 (a.2.f_I+1)) }:Zf) with f_Bad:=true }:Zf),jk,c⟩ } }
 {
 rcases zo_ (d != 0) with n | n
 {
 have c:=Zk c n
 obtain ⟨a9,c5,c⟩:=Zh c
 refine Wo [(2,.bool true),(4,.callR [] (ob a9))] [(0,pt 0),(2,pt 102),(5,one (.int .u8 d)),(56,ob a9)] [(0,bx (Ze ({ a.2 with f_I:=(w64 (a.2.f_I+1)) }:Zf))),(102,bx (Zc (⟨0,([]:List Zb),([]:List Zd),0,0⟩:Zd)))] [(d != 0)=true,SM 146 [one (.str ([92,46,91,93,40,41,123,125,42,43,63,124,94,36,45,47]:List UInt8)),one (.int .u8 d)] [] (ob a9) [],([]:List Nat).Nodup] ⟨n,(Zhp k _ _ _ c5),nd,trivial⟩ ?_
 exact ⟨a9,jk,c⟩ }
 {
 have c:=Zj c n
 refine Wo [(2,.bool false)] [(0,pt 0),(2,pt 102),(5,one (.int .u8 d)),(56,ob false)] [(0,bx (Ze ({ a.2 with f_I:=(w64 (a.2.f_I+1)) }:Zf))),(102,bx (Zc (⟨0,([]:List Zb),([]:List Zd),0,0⟩:Zd)))] [(d != 0)=false] ⟨n,trivial⟩ ?_
 exact ⟨false,jk,c⟩ } } } } } }
 {
 have c:=Zj c x
 refine WA.join (fun q=>∃(a4:Bool),J q [(0,pt 0),(2,pt 102),(69,ob a4)] [(0,bx (Ze a.2)),(102,bx (Zc (⟨0,([]:List Zb),([]:List Zd),0,0⟩:Zd)))]∧Zhg k a a4=some r) ?_ ?_
 {
 rintro q ⟨a4,p,c⟩
 refine Wj p ?_
 clear p
 refine WA.cond (b:=a4) rfl (fun a2=>?_) (fun a2=>?_)
 {
 have c:=Zk c a2
 refine Wr [] [(0,pt 0),(2,pt 102)] [(0,bx (Ze ({ a.2 with f_Bad:=true }:Zf))),(102,bx (Zc (⟨0,([]:List Zb),([]:List Zd),0,0⟩:Zd)))] ?_
 exact ⟨({ a.2 with f_Bad:=true }:Zf),jk,c⟩ }
 {
 have c:=Zj c a2
 refine WA.skip ?_
 exact ⟨a.2,jk,c⟩ } }
 {
 rcases zo_ (decide (a.2.f_I<(a.2.f_S.length:Int))) with o | o
 {
 have c:=Zk c o
 obtain ⟨b1,c7,c⟩:=Zh c
 refine Wd [(10,.bool true),(12,.callR [] (ob b1))] [(0,pt 0),(2,pt 102),(69,ob b1)] [(0,bx (Ze a.2)),(102,bx (Zc (⟨0,([]:List Zb),([]:List Zd),0,0⟩:Zd)))] [(decide (a.2.f_I<(a.2.f_S.length:Int)))=true,SM 146 [one (.str ([93,91,40,41,123,125,42,43,63,124,94,36]:List UInt8)),one (.int .u8 j)] [] (ob b1) [],([]:List Nat).Nodup] ⟨o,(Zhp k _ _ _ c7),nd,trivial⟩ ?_
 exact ⟨b1,jk,c⟩ }
 {
 have c:=Zj c o
 refine Wd [(10,.bool false),(12,.callR [] (.tup []))] [(0,pt 0),(2,pt 102),(69,ob false)] [(0,bx (Ze a.2)),(102,bx (Zc (⟨0,([]:List Zb),([]:List Zd),0,0⟩:Zd)))] [(decide (a.2.f_I<(a.2.f_S.length:Int)))=false] ⟨o,trivial⟩ ?_
 exact ⟨false,jk,c⟩ } } } } } } }
def F101 (R51:Zf→Option (Zd×Zf)) (k:Nat) (v0:Zf):Option (Zd×Zf):=
  (F119 R51 k v0).bind fun a=>(F74 k a.2 42).bind fun b=>(cond b.1 ((some ((⟨4,([]:List Zb),([a.1]:List Zd),0,(-1)⟩:Zd),b.2))) ((F74 k b.2 43).bind fun c=>(cond c.1 ((some ((⟨4,([]:List Zb),([a.1]:List Zd),1,(-1)⟩:Zd),c.2))) ((F74 k c.2 63).bind fun d=>(cond d.1 ((some ((⟨4,([]:List Zb),([a.1]:List Zd),0,1⟩:Zd),d.2))) ((F74 k d.2 123).bind fun e=>(cond e.1 ((F120 k e.2 a.1).bind fun f=>(some (f.1,f.2))) (((some (a.1,e.2)))))))))))
theorem ZpP (R51:Zf→Option (Zd×Zf)) (IH51:∀(v0:Zf) (r:Zd×Zf),R51 v0=some r→SM 51 [pt 0] [bx (Ze v0)] (tv (Zc r.1)) [bx (Ze r.2)]) (k:Nat) (v0:Zf) (r:Zd×Zf) (c:F101 R51 k v0=some r):SM 101 [pt 0] [bx (Ze v0)] (tv (Zc r.1)) [bx (Ze r.2)]:=by
 refine Zz [0] Tryz.func101 rfl kr kr ?_
 show WA _ _ 31 _ _ _
 refine Ws [(0,.obj 102)] [(0,pt 0),(2,pt 102)] [(0,bx (Ze v0)),(102,bx (Zc (⟨0,([]:List Zb),([]:List Zd),0,0⟩:Zd)))] ?_
 obtain ⟨a,o,c⟩:=Zh c
 refine Wos [(1,.call [0] (tv (Zc a.1)) [bx (Ze a.2)] []),(2,.obj 103)] [(0,pt 0),(2,pt 102),(3,pt 103)] [(0,bx (Ze a.2)),(102,bx (Zc (⟨0,([]:List Zb),([]:List Zd),0,0⟩:Zd))),(103,bx (Zc a.1))] [SM 119 [pt 0] [bx (Ze v0)] (tv (Zc a.1)) [bx (Ze a.2)],([0]:List Nat).Nodup] ⟨(ZpV R51 IH51 k _ _ o),nd,trivial⟩ ?_
 refine WA.seq ?_
 refine WA.block ?_
 obtain ⟨d,p,c⟩:=Zh c
 refine Wos [(1,.call [0] (ob d.1) [bx (Ze d.2)] [])] [(0,pt 0),(2,pt 102),(3,pt 103),(6,ob d.1)] [(0,bx (Ze d.2)),(102,bx (Zc (⟨0,([]:List Zb),([]:List Zd),0,0⟩:Zd))),(103,bx (Zc a.1))] [SM 74 [pt 0,one (.int .u8 42)] [bx (Ze a.2)] (ob d.1) [bx (Ze d.2)],([0]:List Nat).Nodup] ⟨(Zaz k _ _ _ p),nd,trivial⟩ ?_
 refine WA.cond (b:=d.1) rfl (fun i=>?_) (fun i=>?_)
 {
 have c:=Zk c i
 refine WA.seq ?_
 refine Wm ([(Zc a.1)]:(List (List PV))) (Zm ([a.1]:List Zd)) (fun n=>([(2,pt 102)],[(0,bx (Ze d.2)),(102,bx ([.int .i64 4] ++ [.sl (([]:List Zb).map Za)] ++ [.sl n] ++ [.int .i64 0] ++ [.int .i64 (-1)]))],[])) (zm) [] trivial ?_
 refine WA.ret ?_
 obtain rfl:=zj_ c
 exact Zq (tv (Zc (⟨4,([]:List Zb),([a.1]:List Zd),0,(-1)⟩:Zd))) [bx (Ze d.2)] kr kr kr kr nd rfl rfl }
 {
 have c:=Zj c i
 obtain ⟨e,q,c⟩:=Zh c
 refine Wos [(1,.call [0] (ob e.1) [bx (Ze e.2)] [])] [(0,pt 0),(2,pt 102),(3,pt 103),(12,ob e.1)] [(0,bx (Ze e.2)),(102,bx (Zc (⟨0,([]:List Zb),([]:List Zd),0,0⟩:Zd))),(103,bx (Zc a.1))] [SM 74 [pt 0,one (.int .u8 43)] [bx (Ze d.2)] (ob e.1) [bx (Ze e.2)],([0]:List Nat).Nodup] ⟨(Zaz k _ _ _ q),nd,trivial⟩ ?_
 refine WA.cond (b:=e.1) rfl (fun j=>?_) (fun j=>?_)
 {
 have c:=Zk c j
 refine WA.seq ?_
 refine Wm ([(Zc a.1)]:(List (List PV))) (Zm ([a.1]:List Zd)) (fun n=>([(2,pt 102)],[(0,bx (Ze e.2)),(102,bx ([.int .i64 4] ++ [.sl (([]:List Zb).map Za)] ++ [.sl n] ++ [.int .i64 1] ++ [.int .i64 (-1)]))],[])) (zm) [] trivial ?_
 refine WA.ret ?_
 obtain rfl:=zj_ c
 exact Zq (tv (Zc (⟨4,([]:List Zb),([a.1]:List Zd),1,(-1)⟩:Zd))) [bx (Ze e.2)] kr kr kr kr nd rfl rfl }
 {
 have c:=Zj c j
 obtain ⟨f,s,c⟩:=Zh c
 refine Wos [(1,.call [0] (ob f.1) [bx (Ze f.2)] [])] [(0,pt 0),(2,pt 102),(3,pt 103),(18,ob f.1)] [(0,bx (Ze f.2)),(102,bx (Zc (⟨0,([]:List Zb),([]:List Zd),0,0⟩:Zd))),(103,bx (Zc a.1))] [SM 74 [pt 0,one (.int .u8 63)] [bx (Ze e.2)] (ob f.1) [bx (Ze f.2)],([0]:List Nat).Nodup] ⟨(Zaz k _ _ _ s),nd,trivial⟩ ?_
 refine WA.cond (b:=f.1) rfl (fun l=>?_) (fun l=>?_)
 {
 have c:=Zk c l
 refine WA.seq ?_
 refine Wm ([(Zc a.1)]:(List (List PV))) (Zm ([a.1]:List Zd)) (fun n=>([(2,pt 102)],[(0,bx (Ze f.2)),(102,bx ([.int .i64 4] ++ [.sl (([]:List Zb).map Za)] ++ [.sl n] ++ [.int .i64 0] ++ [.int .i64 1]))],[])) (zm) [] trivial ?_
 refine WA.ret ?_
 obtain rfl:=zj_ c
 exact Zq (tv (Zc (⟨4,([]:List Zb),([a.1]:List Zd),0,1⟩:Zd))) [bx (Ze f.2)] kr kr kr kr nd rfl rfl }
 {
 have c:=Zj c l
 obtain ⟨g,t,c⟩:=Zh c
 refine Wos [(1,.call [0] (ob g.1) [bx (Ze g.2)] [])] [(0,pt 0),(2,pt 102),(3,pt 103),(24,ob g.1)] [(0,bx (Ze g.2)),(102,bx (Zc (⟨0,([]:List Zb),([]:List Zd),0,0⟩:Zd))),(103,bx (Zc a.1))] [SM 74 [pt 0,one (.int .u8 123)] [bx (Ze f.2)] (ob g.1) [bx (Ze g.2)],([0]:List Nat).Nodup] ⟨(Zaz k _ _ _ t),nd,trivial⟩ ?_
 refine WA.cond (b:=g.1) rfl (fun m=>?_) (fun m=>?_)
 {
 have c:=Zk c m
 obtain ⟨h,u,c⟩:=Zh c
 refine Wos [(2,.call [0] (tv (Zc h.1)) [bx (Ze h.2)] [])] [(2,pt 102)] [(0,bx (Ze h.2)),(102,bx (Zc h.1))] [SM 120 [pt 0,tv (Zc a.1)] [bx (Ze g.2)] (tv (Zc h.1)) [bx (Ze h.2)],([0]:List Nat).Nodup] ⟨(ZpW k _ _ _ u),nd,trivial⟩ ?_
 refine WA.ret ?_
 obtain rfl:=zj_ c
 exact Zq (tv (Zc h.1)) [bx (Ze h.2)] kr kr kr kr nd rfl rfl }
 {
 have c:=Zj c m
 refine WA.skip ?_
 refine Ws [] [(2,pt 102)] [(0,bx (Ze g.2)),(102,bx (Zc a.1))] ?_
 refine WA.ret ?_
 obtain rfl:=zj_ c
 exact Zq (tv (Zc a.1)) [bx (Ze g.2)] kr kr kr kr nd rfl rfl } } } }
def Zcu (R51:Zf→Option (Zd×Zf)) (k:Nat) (d:Zf→(List Zd)→Option (Zd×Zf)) (b:Zf) (a:List Zd) (e:Bool):Option (Zd×Zf):=
  cond e ((F101 R51 k b).bind fun c=>if a.length+([c.1]:List Zd).length≤1073741824 then d c.2 (a ++ ([c.1]:List Zd)) else none) (((cond ((a.length:Int) == 1) (if (0:Int)≤0∧0<(a.length:Int) then (idxL a 0).bind fun f=>(some (f,b)) else none) (((some ((⟨2,([]:List Zb),a,0,0⟩:Zd),b)))))))
def Zda (R51:Zf→Option (Zd×Zf)) (k:Nat) (b:Zf→(List Zd)→Option (Zd×Zf)) (a:Zf) (c:List Zd):Option (Zd×Zf):=
  cond (!a.f_Bad) (cond (decide (a.f_I<(a.f_S.length:Int))) ((F100 k a).bind fun d=>cond (d != 124) ((F100 k a).bind fun e=>(Zcu R51 k b a c (e != 41))) ((Zcu R51 k b a c false))) ((Zcu R51 k b a c false))) ((Zcu R51 k b a c false))
def Zb2 (R51:Zf→Option (Zd×Zf)) (k:Nat):Nat→Zf→(List Zd)→Option (Zd×Zf)
  | 0,_,_=>none
  | c+1,a,b=>Zda R51 k (Zb2 R51 k c) a b
def F73 (R51:Zf→Option (Zd×Zf)) (k:Nat) (v0:Zf):Option (Zd×Zf):=
  ((Zb2 R51 k k v0 ([]:List Zd)))
theorem Zn6 (R51:Zf→Option (Zd×Zf)) (IH51:∀(v0:Zf) (r:Zd×Zf),R51 v0=some r→SM 51 [pt 0] [bx (Ze v0)] (tv (Zc r.1)) [bx (Ze r.2)]) (k:Nat) (v0:Zf) (r:Zd×Zf) (d:F73 R51 k v0=some r):SM 73 [pt 0] [bx (Ze v0)] (tv (Zc r.1)) [bx (Ze r.2)]:=by
 refine Zz [0] Tryz.func73 rfl kr kr ?_
 show WA _ _ 44 _ _ _
 refine Ws [(0,.obj 102)] [(0,pt 0),(2,pt 102)] [(0,bx (Ze v0)),(102,bx (Zc (⟨0,([]:List Zb),([]:List Zd),0,0⟩:Zd)))] ?_
 refine Ws [(0,.obj 103)] [(0,pt 0),(2,pt 102),(3,ar 103 0)] [(0,bx (Ze v0)),(102,bx (Zc (⟨0,([]:List Zb),([]:List Zd),0,0⟩:Zd))),(103,.arr 5 (Zm ([]:List Zd)))] ?_
 refine WA.seq ?_
 refine WA.block ?_
 refine WA.loop (fun m s_=>∃(a:Zf) (c:List Zd) (e:Nat),J s_ [(0,pt 0),(2,pt 102),(3,ar 103 e)] [(0,bx (Ze a)),(102,bx (Zc (⟨0,([]:List Zb),([]:List Zd),0,0⟩:Zd))),(103,.arr 5 (Zm c))]∧e=(c:List _).length∧Zb2 R51 k m a c=some r) k ⟨v0,([]:List Zd),0,jk,zt,d⟩ ?_
 clear d
 rintro m2 s_ ⟨a,c,e,he,a6,d⟩
 refine Wj he ?_
 clear he
 cases m2 with
 | zero=>cases d
 | succ m2=>
  obtain ⟨z,v⟩:∃g,g=Zb2 R51 k m2:=⟨_,rfl⟩
  have d:Zda R51 k z a c=some r:=by first | (rw [v];exact d) | exact d
  refine WA.seq ?_
  refine WA.join (fun s_=>∃(q:Bool),J s_ [(0,pt 0),(2,pt 102),(3,ar 103 e),(30,ob q)] [(0,bx (Ze a)),(102,bx (Zc (⟨0,([]:List Zb),([]:List Zd),0,0⟩:Zd))),(103,.arr 5 (Zm c))]∧Zcu R51 k z a c q=some r) ?_ ?_
  {
 rintro s_ ⟨q,he,d⟩
 refine Wj he ?_
 clear he
 refine WA.cond (b:=q) rfl (fun o=>?_) (fun o=>?_)
 {
 have d:=Zk d o
 refine WA.skip ?_
 refine WA.block ?_
 obtain ⟨f,a4,d⟩:=Zh d
 obtain ⟨w,d⟩:=Zo d
 refine Wm ((((Zm c) ++ ([(Zc f.1)])),[(Zc f.1)]):(List (List PV))×(List (List PV))) ((Zm (c ++ ([f.1]:List Zd))),(Zm ([f.1]:List Zd))) (fun m_=>([(0,pt 0),(2,pt 102),(3,ar 103 (e+1))],[(0,bx (Ze f.2)),(102,bx (Zc (⟨0,([]:List Zb),([]:List Zd),0,0⟩:Zd))),(103,.arr 5 m_.1)],[SM 101 [pt 0] [bx (Ze a)] (tv (Zc f.1)) [bx (Ze f.2)],([0]:List Nat).Nodup,e=(Zm c).length,(Zm c).length+m_.2.length≤1073741824,∀es,es∈m_.2→es.length=5])) (ZH zm zm) [(2,.call [0] (tv (Zc f.1)) [bx (Ze f.2)] [])] ⟨(ZpP R51 IH51 k _ _ a4),nd,zt,(by first | exact w | (simp only [List.length_map,Zi];exact w)),(ZcC ([f.1]:List Zd)),trivial⟩ ?_
 exact ⟨m2,zl_ _,f.2,(c ++ ([f.1]:List Zd)),(e+1),jk,zt,by rw [v] at d;exact d⟩ }
 {
 have d:=Zj d o
 refine WA.exit ?_
 refine WA.seq ?_
 refine WA.seq ?_
 refine Wm ((e:Nat):Int) (c.length:Int) (fun m_=>([(2,pt 102),(3,ar 103 e),(38,ob (m_ == 1))],[(0,bx (Ze a)),(102,bx (Zc (⟨0,([]:List Zb),([]:List Zd),0,0⟩:Zd))),(103,.arr 5 (Zm c))],[])) ((by first | (simp only [zl,Zi];done) | (simp only [zl,Zi];omega) | omega)) [] trivial ?_
 refine WA.cond (b:=((c.length:Int) == 1)) rfl (fun p=>?_) (fun p=>?_)
 {
 have d:=Zk d p
 obtain ⟨x,d⟩:=Zo d
 obtain ⟨u,a5,d⟩:=Zh d
 refine Wos [(2,.cells (Zc u))] [(2,pt 102)] [(0,bx (Ze a)),(102,bx (Zc u))] [e=(Zm c).length,(0:Int)≤0,0<((e:Nat):Int),e=(Zm c).length,(Zm c)[Int.toNat 0]?=some (Zc u)] ⟨zt,x.1,(by have h_:=x.2;(try simp only [zl,Zi] at h_ ⊢);omega),zt,(Zs (ZR a5)),trivial⟩ ?_
 refine WA.ret ?_
 obtain rfl:=zj_ d
 exact Zq (tv (Zc u)) [bx (Ze a)] kr kr kr kr nd rfl rfl }
 {
 have d:=Zj d p
 refine WA.skip ?_
 refine WA.seq ?_
 refine WA.freeze 103 3 (s:=5) (n:=e) (els:=(Zm c)) rfl rfl zt ?_
 refine Wk [(2,pt 102),(3,one (.sl (Zm c)))] [(0,bx (Ze a)),(102,bx (Zc (⟨0,([]:List Zb),([]:List Zd),0,0⟩:Zd)))] ?_
 refine Wr [] [(2,pt 102)] [(0,bx (Ze a)),(102,bx (Zc (⟨2,([]:List Zb),c,0,0⟩:Zd)))] ?_
 refine WA.ret ?_
 obtain rfl:=zj_ d
 exact Zq (tv (Zc (⟨2,([]:List Zb),c,0,0⟩:Zd))) [bx (Ze a)] kr kr kr kr nd rfl rfl } } }
  {
 rcases zo_ (!a.f_Bad) with h | h
 {
 have d:=Zk d h
 rcases zo_ (decide (a.f_I<(a.f_S.length:Int))) with i | i
 {
 have d:=Zk d i
 obtain ⟨j,y,d⟩:=Zh d
 rcases zo_ (j != 124) with l | l
 {
 have d:=Zk d l
 obtain ⟨t,a3,d⟩:=Zh d
 refine Wd [(5,.bool true),(17,.bool true),(19,.callR [0] (one (.int .u8 j))),(22,.bool true),(24,.callR [0] (one (.int .u8 t)))] [(0,pt 0),(2,pt 102),(3,ar 103 e),(30,ob (t != 41))] [(0,bx (Ze a)),(102,bx (Zc (⟨0,([]:List Zb),([]:List Zd),0,0⟩:Zd))),(103,.arr 5 (Zm c))] [(!a.f_Bad)=true,(decide (a.f_I<(a.f_S.length:Int)))=true,SM 100 [pt 0] [bx (Ze a)] (one (.int .u8 j)) [bx (Ze a)],([0]:List Nat).Nodup,(j != 124)=true,SM 100 [pt 0] [bx (Ze a)] (one (.int .u8 t)) [bx (Ze a)],([0]:List Nat).Nodup] ⟨h,i,(Zar k _ _ y),nd,l,(Zar k _ _ a3),nd,trivial⟩ ?_
 exact ⟨(t != 41),jk,d⟩ }
 {
 have d:=Zj d l
 refine Wd [(5,.bool true),(17,.bool true),(19,.callR [0] (one (.int .u8 j))),(22,.bool false),(24,.callR [] (.tup []))] [(0,pt 0),(2,pt 102),(3,ar 103 e),(30,ob false)] [(0,bx (Ze a)),(102,bx (Zc (⟨0,([]:List Zb),([]:List Zd),0,0⟩:Zd))),(103,.arr 5 (Zm c))] [(!a.f_Bad)=true,(decide (a.f_I<(a.f_S.length:Int)))=true,SM 100 [pt 0] [bx (Ze a)] (one (.int .u8 j)) [bx (Ze a)],([0]:List Nat).Nodup,(j != 124)=false] ⟨h,i,(Zar k _ _ y),nd,l,trivial⟩ ?_
 exact ⟨false,jk,d⟩ } }
 {
 have d:=Zj d i
 refine Wd [(5,.bool true),(17,.bool false),(19,.callR [] (.tup [])),(24,.callR [] (.tup []))] [(0,pt 0),(2,pt 102),(3,ar 103 e),(30,ob false)] [(0,bx (Ze a)),(102,bx (Zc (⟨0,([]:List Zb),([]:List Zd),0,0⟩:Zd))),(103,.arr 5 (Zm c))] [(!a.f_Bad)=true,(decide (a.f_I<(a.f_S.length:Int)))=false] ⟨h,i,trivial⟩ ?_
 exact ⟨false,jk,d⟩ } }
 {
 have d:=Zj d h
 refine Wd [(5,.bool false),(19,.callR [] (.tup [])),(24,.callR [] (.tup []))] [(0,pt 0),(2,pt 102),(3,ar 103 e),(30,ob false)] [(0,bx (Ze a)),(102,bx (Zc (⟨0,([]:List Zb),([]:List Zd),0,0⟩:Zd))),(103,.arr 5 (Zm c))] [(!a.f_Bad)=false] ⟨h,trivial⟩ ?_
 exact ⟨false,jk,d⟩ } }
def Zb0 (R51:Zf→Option (Zd×Zf)) (k:Nat) (d:Zf→(List Zd)→Option (Zd×Zf)) (e:Zf) (a:List Zd):Option (Zd×Zf):=
  (F74 k e 124).bind fun b=>(cond b.1 ((F73 R51 k b.2).bind fun c=>if a.length+([c.1]:List Zd).length≤1073741824 then d c.2 (a ++ ([c.1]:List Zd)) else none) (((cond ((a.length:Int) == 1) (if (0:Int)≤0∧0<(a.length:Int) then (idxL a 0).bind fun f=>(some (f,b.2)) else none) (((some ((⟨3,([]:List Zb),a,0,0⟩:Zd),b.2))))))))
def Zb1 (R51:Zf→Option (Zd×Zf)) (k:Nat):Nat→Zf→(List Zd)→Option (Zd×Zf)
  | 0,_,_=>none
  | c+1,a,b=>Zb0 R51 k (Zb1 R51 k c) a b
def ZhC (R51:Zf→Option (Zd×Zf)) (k:Nat) (v0:Zf):Option (Zd×Zf):=
  (F73 R51 k v0).bind fun a=>(Zb1 R51 k k a.2 ([a.1]:List Zd))
theorem ZoZ (R51:Zf→Option (Zd×Zf)) (IH51:∀(v0:Zf) (r:Zd×Zf),R51 v0=some r→SM 51 [pt 0] [bx (Ze v0)] (tv (Zc r.1)) [bx (Ze r.2)]) (k:Nat) (v0:Zf) (r:Zd×Zf) (c:ZhC R51 k v0=some r):SM 51 [pt 0] [bx (Ze v0)] (tv (Zc r.1)) [bx (Ze r.2)]:=by
 refine Zz [0] Tryz.func51 rfl kr kr ?_
 show WA _ _ 22 _ _ _
 refine Ws [(0,.obj 102)] [(0,pt 0),(2,pt 102)] [(0,bx (Ze v0)),(102,bx (Zc (⟨0,([]:List Zb),([]:List Zd),0,0⟩:Zd)))] ?_
 refine WA.seq ?_
 obtain ⟨h,v,c⟩:=Zh c
 refine Wm ([(Zc h.1)]:(List (List PV))) (Zm ([h.1]:List Zd)) (fun q=>([(0,pt 0),(2,pt 102),(3,ar 106 1)],[(0,bx (Ze h.2)),(102,bx (Zc (⟨0,([]:List Zb),([]:List Zd),0,0⟩:Zd))),(106,.arr 5 q)],[SM 73 [pt 0] [bx (Ze v0)] (tv (Zc h.1)) [bx (Ze h.2)],([0]:List Nat).Nodup])) (zm) [(1,.call [0] (tv (Zc h.1)) [bx (Ze h.2)] []),(2,.obj 106)] ⟨(Zn6 R51 IH51 k _ _ v),nd,trivial⟩ ?_
 refine WA.seq ?_
 refine WA.block ?_
 refine WA.loop (fun m s_=>∃(i:Zf) (a:List Zd) (e:Nat),J s_ [(0,pt 0),(2,pt 102),(3,ar 106 e)] [(0,bx (Ze i)),(102,bx (Zc (⟨0,([]:List Zb),([]:List Zd),0,0⟩:Zd))),(106,.arr 5 (Zm a))]∧e=(a:List _).length∧Zb1 R51 k m i a=some r) k ⟨h.2,([h.1]:List Zd),1,jk,zt,c⟩ ?_
 clear c
 rintro m0 s_ ⟨i,a,e,he,a0,c⟩
 refine Wj he ?_
 clear he
 cases m0 with
 | zero=>cases c
 | succ m0=>
  obtain ⟨z,p⟩:∃g,g=Zb1 R51 k m0:=⟨_,rfl⟩
  have c:Zb0 R51 k z i a=some r:=by first | (rw [p];exact c) | exact c
  refine WA.seq ?_
  obtain ⟨d,w,c⟩:=Zh c
  refine Wos [(1,.call [0] (ob d.1) [bx (Ze d.2)] [])] [(0,pt 0),(2,pt 102),(3,ar 106 e),(8,ob d.1)] [(0,bx (Ze d.2)),(102,bx (Zc (⟨0,([]:List Zb),([]:List Zd),0,0⟩:Zd))),(106,.arr 5 (Zm a))] [SM 74 [pt 0,one (.int .u8 124)] [bx (Ze i)] (ob d.1) [bx (Ze d.2)],([0]:List Nat).Nodup] ⟨(Zaz k _ _ _ w),nd,trivial⟩ ?_
  refine WA.cond (b:=d.1) rfl (fun j=>?_) (fun j=>?_)
  {
 have c:=Zk c j
 refine WA.skip ?_
 refine WA.block ?_
 obtain ⟨f,x,c⟩:=Zh c
 obtain ⟨t,c⟩:=Zo c
 refine Wm ((((Zm a) ++ ([(Zc f.1)])),[(Zc f.1)]):(List (List PV))×(List (List PV))) ((Zm (a ++ ([f.1]:List Zd))),(Zm ([f.1]:List Zd))) (fun q=>([(0,pt 0),(2,pt 102),(3,ar 106 (e+1))],[(0,bx (Ze f.2)),(102,bx (Zc (⟨0,([]:List Zb),([]:List Zd),0,0⟩:Zd))),(106,.arr 5 q.1)],[SM 73 [pt 0] [bx (Ze d.2)] (tv (Zc f.1)) [bx (Ze f.2)],([0]:List Nat).Nodup,e=(Zm a).length,(Zm a).length+q.2.length≤1073741824,∀es,es∈q.2→es.length=5])) (ZH zm zm) [(2,.call [0] (tv (Zc f.1)) [bx (Ze f.2)] [])] ⟨(Zn6 R51 IH51 k _ _ x),nd,zt,(by first | exact t | (simp only [List.length_map,Zi];exact t)),(ZcC ([f.1]:List Zd)),trivial⟩ ?_
 exact ⟨m0,zl_ _,f.2,(a ++ ([f.1]:List Zd)),(e+1),jk,zt,by rw [p] at c;exact c⟩ }
  {
 have c:=Zj c j
 refine WA.exit ?_
 refine WA.seq ?_
 refine WA.seq ?_
 refine Wm ((e:Nat):Int) (a.length:Int) (fun q=>([(2,pt 102),(3,ar 106 e),(16,ob (q == 1))],[(0,bx (Ze d.2)),(102,bx (Zc (⟨0,([]:List Zb),([]:List Zd),0,0⟩:Zd))),(106,.arr 5 (Zm a))],[])) ((by first | (simp only [zl,Zi];done) | (simp only [zl,Zi];omega) | omega)) [] trivial ?_
 refine WA.cond (b:=((a.length:Int) == 1)) rfl (fun l=>?_) (fun l=>?_)
 {
 have c:=Zk c l
 obtain ⟨u,c⟩:=Zo c
 obtain ⟨o,y,c⟩:=Zh c
 refine Wos [(2,.cells (Zc o))] [(2,pt 102)] [(0,bx (Ze d.2)),(102,bx (Zc o))] [e=(Zm a).length,(0:Int)≤0,0<((e:Nat):Int),e=(Zm a).length,(Zm a)[Int.toNat 0]?=some (Zc o)] ⟨zt,u.1,(by have h_:=u.2;(try simp only [zl,Zi] at h_ ⊢);omega),zt,(Zs (ZR y)),trivial⟩ ?_
 refine WA.ret ?_
 obtain rfl:=zj_ c
 exact Zq (tv (Zc o)) [bx (Ze d.2)] kr kr kr kr nd rfl rfl }
 {
 have c:=Zj c l
 refine WA.skip ?_
 refine WA.seq ?_
 refine WA.freeze 106 3 (s:=5) (n:=e) (els:=(Zm a)) rfl rfl zt ?_
 refine Wk [(2,pt 102),(3,one (.sl (Zm a)))] [(0,bx (Ze d.2)),(102,bx (Zc (⟨0,([]:List Zb),([]:List Zd),0,0⟩:Zd)))] ?_
 refine Wr [] [(2,pt 102)] [(0,bx (Ze d.2)),(102,bx (Zc (⟨3,([]:List Zb),a,0,0⟩:Zd)))] ?_
 refine WA.ret ?_
 obtain rfl:=zj_ c
 exact Zq (tv (Zc (⟨3,([]:List Zb),a,0,0⟩:Zd))) [bx (Ze d.2)] kr kr kr kr nd rfl rfl } }
def F51:Nat→Zf→Option (Zd×Zf)
  | 0,_=>none
  | k+1,v0=>ZhC (F51 k) k v0
theorem Zn5:∀(k:Nat),∀(v0:Zf) (r:Zd×Zf),F51 k v0=some r→SM 51 [pt 0] [bx (Ze v0)] (tv (Zc r.1)) [bx (Ze r.2)]
  | 0=>fun _ _ a=>by cases a
  | k+1=>fun v0 r a=>ZoZ (F51 k) (Zn5 k) k v0 r a
def Zgm (b:Zd×Zf) (a:Bool):Option (Zd×Int):=
  cond a ((some ((⟨0,([]:List Zb),([]:List Zd),0,0⟩:Zd),8))) (((some (b.1,0))))
def ZiG (k:Nat) (a:Zd×Zf) (b:Bool):Option (Zd×Int):=
  cond b ((some ((⟨0,([]:List Zb),([]:List Zd),0,0⟩:Zd),3))) ((cond a.2.f_Long ((Zgm a true)) ((F20 k a.1).bind fun c=>cond (decide (c > 200)) ((Zgm a true)) ((F42 k a.1 1).bind fun d=>(Zgm a (decide (d > 14)))))))
def F28 (k:Nat) (v0:List UInt8):Option (Zd×Int):=
  ((cond (decide ((v0.length:Int) > 400)) ((some ((⟨0,([]:List Zb),([]:List Zd),0,0⟩:Zd),8))) ((F25 k v0).bind fun b=>(cond (!b) ((some ((⟨0,([]:List Zb),([]:List Zd),0,0⟩:Zd),3))) (((F51 k (⟨v0,0,false,false⟩:Zf)).bind fun a=>(cond a.2.f_Bad ((ZiG k a true)) ((ZiG k a (a.2.f_I != (v0.length:Int)))))))))))
theorem ZqL (k:Nat) (v0:List UInt8) (r:Zd×Int) (c:F28 k v0=some r):SM 28 [one (.str v0)] [] (.tup [(true,pvL (Zc r.1)),(false,[.pv (.int .i64 r.2)])]) []:=by
 refine Zz [] Tryz.func28 rfl kr kr ?_
 show WA _ _ 49 _ _ _
 refine Ws [(0,.obj 102)] [(0,one (.str v0)),(2,pt 102)] [(102,bx (Zc (⟨0,([]:List Zb),([]:List Zd),0,0⟩:Zd)))] ?_
 refine WA.seq ?_
 refine Ws [] [(0,one (.str v0)),(2,pt 102),(8,ob (decide ((v0.length:Int) > 400)))] [(102,bx (Zc (⟨0,([]:List Zb),([]:List Zd),0,0⟩:Zd)))] ?_
 refine WA.cond (b:=(decide ((v0.length:Int) > 400))) rfl (fun h=>?_) (fun h=>?_)
 {
 have c:=Zk c h
 refine Ws [] [(2,pt 102),(3,oi 8)] [(102,bx (Zc (⟨0,([]:List Zb),([]:List Zd),0,0⟩:Zd)))] ?_
 refine WA.ret ?_
 obtain rfl:=zj_ c
 exact Zq (.tup [(true,pvL (Zc (⟨0,([]:List Zb),([]:List Zd),0,0⟩:Zd))),(false,[.pv (.int .i64 8)])]) [] kr kr kr kr nd rfl rfl }
 {
 have c:=Zj c h
 refine WA.skip ?_
 refine WA.seq ?_
 obtain ⟨o,u,c⟩:=Zh c
 refine Wos [(1,.callR [] (ob o))] [(0,one (.str v0)),(2,pt 102),(12,ob (!o))] [(102,bx (Zc (⟨0,([]:List Zb),([]:List Zd),0,0⟩:Zd)))] [SM 25 [one (.str v0)] [] (ob o) [],([]:List Nat).Nodup] ⟨(Zn0 k _ _ u),nd,trivial⟩ ?_
 refine WA.cond (b:=(!o)) rfl (fun i=>?_) (fun i=>?_)
 {
 have c:=Zk c i
 refine Ws [] [(2,pt 102),(3,oi 3)] [(102,bx (Zc (⟨0,([]:List Zb),([]:List Zd),0,0⟩:Zd)))] ?_
 refine WA.ret ?_
 obtain rfl:=zj_ c
 exact Zq (.tup [(true,pvL (Zc (⟨0,([]:List Zb),([]:List Zd),0,0⟩:Zd))),(false,[.pv (.int .i64 3)])]) [] kr kr kr kr nd rfl rfl }
 {
 have c:=Zj c i
 refine WA.skip ?_
 refine Ws [(2,.obj 116)] [(0,one (.str v0)),(2,pt 102),(4,pt 116)] [(102,bx (Zc (⟨0,([]:List Zb),([]:List Zd),0,0⟩:Zd))),(116,bx (Ze (⟨v0,0,false,false⟩:Zf)))] ?_
 obtain ⟨a,v,c⟩:=Zh c
 refine Wos [(1,.call [116] (tv (Zc a.1)) [bx (Ze a.2)] []),(2,.obj 105)] [(0,one (.str v0)),(2,pt 102),(4,pt 116),(5,pt 105)] [(102,bx (Zc (⟨0,([]:List Zb),([]:List Zd),0,0⟩:Zd))),(105,bx (Zc a.1)),(116,bx (Ze a.2))] [SM 51 [pt 0] [bx (Ze (⟨v0,0,false,false⟩:Zf))] (tv (Zc a.1)) [bx (Ze a.2)],([116]:List Nat).Nodup] ⟨(Zn5 k _ _ v),nd,trivial⟩ ?_
 refine WA.seq ?_
 refine WA.join (fun t=>∃(m:Bool),J t [(2,pt 102),(4,pt 116),(5,pt 105),(31,ob m)] [(102,bx (Zc (⟨0,([]:List Zb),([]:List Zd),0,0⟩:Zd))),(105,bx (Zc a.1)),(116,bx (Ze a.2))]∧ZiG k a m=some r) ?_ ?_
 {
 rintro t ⟨m,s,c⟩
 refine Wj s ?_
 clear s
 refine WA.cond (b:=m) rfl (fun j=>?_) (fun j=>?_)
 {
 have c:=Zk c j
 refine Ws [] [(2,pt 102),(3,oi 3)] [(102,bx (Zc (⟨0,([]:List Zb),([]:List Zd),0,0⟩:Zd)))] ?_
 refine WA.ret ?_
 obtain rfl:=zj_ c
 exact Zq (.tup [(true,pvL (Zc (⟨0,([]:List Zb),([]:List Zd),0,0⟩:Zd))),(false,[.pv (.int .i64 3)])]) [] kr kr kr kr nd rfl rfl }
 {
 have c:=Zj c j
 refine WA.skip ?_
 refine WA.seq ?_
 refine WA.join (fun t=>∃(n:Bool),J t [(2,pt 102),(5,pt 105),(46,ob n)] [(102,bx (Zc (⟨0,([]:List Zb),([]:List Zd),0,0⟩:Zd))),(105,bx (Zc a.1))]∧Zgm a n=some r) ?_ ?_
 {
 rintro t ⟨n,s,c⟩
 refine Wj s ?_
 clear s
 refine WA.cond (b:=n) rfl (fun l=>?_) (fun l=>?_)
 {
 have c:=Zk c l
 refine Ws [] [(2,pt 102),(3,oi 8)] [(102,bx (Zc (⟨0,([]:List Zb),([]:List Zd),0,0⟩:Zd)))] ?_
 refine WA.ret ?_
 obtain rfl:=zj_ c
 exact Zq (.tup [(true,pvL (Zc (⟨0,([]:List Zb),([]:List Zd),0,0⟩:Zd))),(false,[.pv (.int .i64 8)])]) [] kr kr kr kr nd rfl rfl }
 {
 have c:=Zj c l
 refine WA.skip ?_
 refine Ws [] [(2,pt 102),(3,oi 0)] [(102,bx (Zc a.1))] ?_
 refine WA.ret ?_
 obtain rfl:=zj_ c
 exact Zq (.tup [(true,pvL (Zc a.1)),(false,[.pv (.int .i64 0)])]) [] kr kr kr kr nd rfl rfl } }
 {
 rcases zo_ a.2.f_Long with d | d
 {
 have c:=Zk c d
 refine Wo [(4,.bool true)] [(2,pt 102),(5,pt 105),(46,ob true)] [(102,bx (Zc (⟨0,([]:List Zb),([]:List Zd),0,0⟩:Zd))),(105,bx (Zc a.1))] [a.2.f_Long=true] ⟨d,trivial⟩ ?_
 exact ⟨true,jk,c⟩ }
 {
 have c:=Zj c d
 obtain ⟨e,q,c⟩:=Zh c
 rcases zo_ (decide (e > 200)) with g | g
 {
 have c:=Zk c g
 refine Wo [(4,.bool false),(6,.callR [] (oi e)),(9,.bool true)] [(2,pt 102),(5,pt 105),(46,ob true)] [(102,bx (Zc (⟨0,([]:List Zb),([]:List Zd),0,0⟩:Zd))),(105,bx (Zc a.1))] [a.2.f_Long=false,SM 20 [tv (Zc a.1)] [] (oi e) [],([]:List Nat).Nodup,(decide (e > 200))=true] ⟨d,(ZiC k _ _ q),nd,g,trivial⟩ ?_
 exact ⟨true,jk,c⟩ }
 {
 have c:=Zj c g
 obtain ⟨p,w,c⟩:=Zh c
 refine Wo [(4,.bool false),(6,.callR [] (oi e)),(9,.bool false),(11,.callR [] (oi p))] [(2,pt 102),(5,pt 105),(46,ob (decide (p > 14)))] [(102,bx (Zc (⟨0,([]:List Zb),([]:List Zd),0,0⟩:Zd))),(105,bx (Zc a.1))] [a.2.f_Long=false,SM 20 [tv (Zc a.1)] [] (oi e) [],([]:List Nat).Nodup,(decide (e > 200))=false,SM 42 [tv (Zc a.1),oi 1] [] (oi p) [],([]:List Nat).Nodup] ⟨d,(ZiC k _ _ q),nd,g,(Zgp k _ _ _ w),nd,trivial⟩ ?_
 exact ⟨(decide (p > 14)),jk,c⟩ } } } } }
 {
 rcases zo_ a.2.f_Bad with f | f
 {
 have c:=Zk c f
 refine Wo [(4,.bool true)] [(2,pt 102),(4,pt 116),(5,pt 105),(31,ob true)] [(102,bx (Zc (⟨0,([]:List Zb),([]:List Zd),0,0⟩:Zd))),(105,bx (Zc a.1)),(116,bx (Ze a.2))] [a.2.f_Bad=true] ⟨f,trivial⟩ ?_
 exact ⟨true,jk,c⟩ }
 {
 have c:=Zj c f
 refine Wo [(4,.bool false)] [(2,pt 102),(4,pt 116),(5,pt 105),(31,ob (a.2.f_I != (v0.length:Int)))] [(102,bx (Zc (⟨0,([]:List Zb),([]:List Zd),0,0⟩:Zd))),(105,bx (Zc a.1)),(116,bx (Ze a.2))] [a.2.f_Bad=false] ⟨f,trivial⟩ ?_
 exact ⟨(a.2.f_I != (v0.length:Int)),jk,c⟩ } } } }
end Go.Proofs.YthilboheomikjaaGreatDoor
end
section
namespace Go.Proofs.YthilboheomikjaaGreatDoor
open Go.AL Go.Lib
set_option maxRecDepth 100000
def rx (s:List UInt8) (q:Nat) (b o:Bool):Zf:=⟨s,(q:Int),b,o⟩
def BadR (s:List UInt8) (r:Zf):Prop:=∃(q:Nat) (o:Bool),r=rx s q true o∧q≤s.length+1
def pk (s:List UInt8) (q:Nat):Int:=match s[q]? with
  | some x=>(x.toNat:Int)
  | none=>0
theorem Za4 {s:List UInt8} {q:Nat} {x:UInt8} (h:s[q]?=some x):pk s q=x.toNat:=by unfold pk;rw [h]
theorem ZfH {s:List UInt8} {q:Nat} (h:s.length≤q):pk s q=0:=by unfold pk;rw [List.getElem?_eq_none h]
theorem ZaP {k q:Nat} {s:List UInt8} {b o:Bool}:F100 k (rx s q b o)=some (pk s q):=by
  unfold F100 rx
  simp only
  by_cases h:q<s.length
  · obtain ⟨x,hx⟩:∃x,s[q]?=some x:=⟨_,List.getElem?_eq_getElem h⟩
    rw [dt (by omega),zt_,Zy,hx,zb_,Za4 hx]
  · rw [df (by omega),zf_,ZfH (by omega)]
theorem ZcW {k q:Nat} {s:List UInt8} {b o:Bool} {x:UInt8} {c:Int} (hs:s.length≤1000000) (h:s[q]?=some x) (hc:(x.toNat:Int)=c):F74 k (rx s q b o) c=some (true,rx s (q+1) b o):=by
  have hq:=(List.getElem?_eq_some_iff.1 h).1
  unfold F74 Zgy rx
  simp only
  rw [dt (by omega),zt_,Zy,h,zb_,ZX hc,zt_,ZS (by omega)]
theorem ZaK {k q:Nat} {s:List UInt8} {b o:Bool} {c:Int} (h:∀x,s[q]?=some x→(x.toNat:Int)≠c):F74 k (rx s q b o) c=some (false,rx s q b o):=by
  unfold F74 Zgy rx
  simp only
  by_cases hq:q<s.length
  · obtain ⟨x,hx⟩:∃x,s[q]?=some x:=⟨_,List.getElem?_eq_getElem hq⟩
    rw [dt (by omega),zt_,Zy,hx,zb_,ZE (h x hx),zf_]
  · rw [df (by omega),zf_,zf_]
theorem Za5 (k:Nat) {q:Nat} {s:List UInt8} {b o:Bool} (c:Int) (hs:s.length≤1000000):∃t q',F74 k (rx s q b o) c=some (t,rx s q' b o)∧((t=true∧q'=q+1∧q<s.length)∨(t=false∧q'=q)):=by
  by_cases h:∃x,s[q]?=some x∧(x.toNat:Int)=c
  · obtain ⟨x,hx,hc⟩:=h
    exact ⟨true,q+1,ZcW hs hx hc,.inl ⟨rfl,rfl,(List.getElem?_eq_some_iff.1 hx).1⟩⟩
  · exact ⟨false,q,ZaK fun x hx hc=>h ⟨x,hx,hc⟩,.inr ⟨rfl,rfl⟩⟩
theorem Zaq {k k' p:Nat} {s:List UInt8} {o o':Bool} (c:UInt8) (hs:s.length≤1000000) (hp:p≤s.length) :
    (s[p]?=some c∧F71 k (rd s p o) [c]=some (true,rd s (p+1) o)∧F74 k' (rx s p false o') (c.toNat:Int)=some (true,rx s (p+1) false o')∧p+1≤s.length)∨
    (s[p]?≠some c∧F71 k (rd s p o) [c]=some (false,rd s p o)∧F74 k' (rx s p false o') (c.toNat:Int)=some (false,rx s p false o')):=by
  by_cases h:s[p]?=some c
  · exact .inl ⟨h,ZcZ hs h,ZcW hs h rfl,(List.getElem?_eq_some_iff.1 h).1⟩
  · refine .inr ⟨h,ZcY hp h,ZaK fun x hx hc=>h ?_⟩
    rw [hx]
    congr 1
    exact UInt8.toNat_inj.1 (by omega)
theorem Zqc {k q:Nat} {s:List UInt8} (h:s.length≤q):F46 k s (q:Int)=some (0,0):=by
  unfold F46 Zgs
  rw [df (by omega),zf_,dt (by omega),zt_]
theorem Zge {k q:Nat} {s:List UInt8} {b o:Bool} (h:s.length≤q):F147 k (rx s q b o)=some (0,rx s q true o):=by
  unfold F147 Zdz rx
  simp only
  rw [Zqc h,zb_]
  rfl
theorem ZcF {k q:Nat} {s:List UInt8} {b o:Bool} (hk:5≤k) (hs:s.length≤1000000) (h:q<s.length) (hb:bad (s.drop q)):F147 k (rx s q b o)=some (0,rx s q true o):=by
  unfold F147 Zdz rx
  simp only
  rw [ZiQ hk h (by omega),zb_]
  unfold nxt
  rw [if_pos hb]
  rfl
theorem Zbq {k q:Nat} {s:List UInt8} {b o:Bool} (hk:5≤k) (hs:s.length≤1000000) (h:q<s.length) (hb:¬bad (s.drop q)):F147 k (rx s q b o)=some (((decodeL (s.drop q)).1:Int),rx s (q+(decodeL (s.drop q)).2) b o):=by
  have hne:s.drop q≠[]:=fun c=>by have:=List.drop_eq_nil_iff.1 c;omega
  have hw:=decodeL_width (s.drop q)
  have hle:=decodeL_le _ hne
  rw [List.length_drop] at hle
  unfold F147 Zdz rx
  simp only
  rw [ZiQ hk h (by omega),zb_]
  unfold nxt
  rw [if_neg hb]
  simp only
  rw [df (by omega),zf_,ZE (by omega),zf_,Zv (by omega) (by omega)]
  rfl
theorem ZjF {k q:Nat} {s:List UInt8} {o:Bool} (hk:5≤k) (hs:s.length≤1000000) (hq:q≤s.length+1):∃c r,F147 k (rx s q true o)=some (c,r)∧BadR s r:=by
  by_cases h:q<s.length
  · by_cases hb:bad (s.drop q)
    · exact ⟨_,_,ZcF hk hs h hb,q,o,rfl,hq⟩
    · have hne:s.drop q≠[]:=fun c=>by have:=List.drop_eq_nil_iff.1 c;omega
      have hle:=decodeL_le _ hne
      rw [List.length_drop] at hle
      exact ⟨_,_,Zbq hk hs h hb,_,o,rfl,by omega⟩
  · exact ⟨_,_,Zge (by omega),q,o,rfl,hq⟩
theorem Zi9 {l:List UInt8} {c:Int} (hl:l.length≤1000):∀(t:List UInt8) (i m:Nat),l.drop i=t→t.length<m→i≤l.length→Zdy l c m (i:Int)=some (t.any fun b=>(b.toNat:Int) == c)
  | [],i,m,hd,hm,hi=>by
    obtain ⟨m,rfl⟩:∃q,m=q+1:=⟨m-1,by simp at hm;omega⟩
    have:=ZV hd
    show Zdx _ _ _ _=_
    unfold Zdx
    rw [df (by omega),zf_]
    rfl
  | x :: t,i,m,hd,hm,hi=>by
    obtain ⟨m,rfl⟩:∃q,m=q+1:=⟨m-1,by omega⟩
    obtain ⟨g1,g2,g3⟩:=ZO hd
    rw [List.length_cons] at hm
    show Zdx (Zdy l c m) l c (i:Int)=_
    unfold Zdx
    rw [dt (by omega),zt_,Zy,g2,zb_,ZS (by omega),Zi9 hl t (i+1) m g3 (by omega) (by omega),List.any_cons]
    cases (x.toNat:Int) == c <;> rfl
theorem ZbC {k:Nat} {l:List UInt8} {c:Int} (hl:l.length≤1000) (hk:l.length<k):F146 k l c=some (l.any fun b=>(b.toNat:Int) == c):=Zi9 hl l 0 k rfl hk (Nat.zero_le _)
def isD (x:UInt8):Prop:=48≤x.toNat∧x.toNat≤57
instance (x:UInt8):Decidable (isD x):=by unfold isD;infer_instance
def dv (x:UInt8):Nat:=x.toNat-48
theorem Zb6 {k q m:Nat} {s:List UInt8} {b o:Bool} {n:Int} {j:Nat} {x:UInt8} (hs:s.length≤1000000) (hx:s[q]?=some x) (hd:isD x) (hj:j<4) (hn:0≤n) (hn2:n≤100000) :
    ZaF k (m+1) (rx s q b o) n (j:Int)=ZaF k m (rx s (q+1) b o) (n*10+dv x) ((j+1:Nat):Int):=by
  have hq:=(List.getElem?_eq_some_iff.1 hx).1
  unfold isD at hd
  show ZdA k (ZaF k m) (rx s q b o) n (j:Int)=_
  unfold ZdA ZcK
  rw [ZaP,zb_,Za4 hx,dt (by omega),zt_,zb_,dt (by omega),zt_,dt (by omega),zt_,zb_]
  have e1:IntKind.wrap .u8 ((x.toNat:Int)-48)=(dv x:Int):=by unfold dv;simp [IntKind.wrap,IntKind.bits,IntKind.signed];omega
  have hdv:dv x≤9:=by unfold dv;omega
  rw [e1,ZS (by omega),Zv (x:=(dv x:Int)) (by omega) (by omega),Zv (x:=n*10) (by omega) (by omega),Zv (x:=n*10+(dv x:Int)) (by omega) (by omega)]
  unfold rx
  simp only
  rw [ZS (by omega)]
theorem ZaY {k q m:Nat} {s:List UInt8} {b o:Bool} {n:Int} {j:Nat} (h:(∀x,s[q]?=some x→¬isD x)∨4≤j) :
    ZaF k (m+1) (rx s q b o) n (j:Int)=some (n,rx s q (b || decide (j=0∨3<j)) o):=by
  show ZdA k (ZaF k m) (rx s q b o) n (j:Int)=_
  have fin:ZcK k (ZaF k m) (rx s q b o) n (j:Int) false=some (n,rx s q (b || decide (j=0∨3<j)) o):=by
    unfold ZcK Zhq Zhr
    rw [zf_]
    by_cases h0:j=0
    · rw [ZX (by omega),zt_,zt_,dt (.inl h0),Bool.or_true];rfl
    · rw [ZE (by omega),zf_]
      by_cases h3:3<j
      · rw [dt (by omega),zt_,dt (.inr h3),Bool.or_true];rfl
      · rw [df (by omega),zf_,df (by omega),Bool.or_false]
  unfold ZdA
  rw [ZaP,zb_]
  by_cases hq:q<s.length
  · obtain ⟨x,hx⟩:∃x,s[q]?=some x:=⟨_,List.getElem?_eq_getElem hq⟩
    rw [Za4 hx]
    by_cases h1:(x.toNat:Int)≥48
    · rw [dt h1,zt_,zb_]
      by_cases h2:(x.toNat:Int)≤57
      · rw [dt h2,zt_,df ?_]
        · exact fin
        · rcases h with h | h
          · exact absurd ⟨by omega,by omega⟩ (h x hx)
          · omega
      · rw [df h2,zf_];exact fin
    · rw [df h1,zf_];exact fin
  · rw [ZfH (by omega),df (by omega),zf_];exact fin
theorem ZjA {k:Nat} {s:List UInt8} {o:Bool} (hs:s.length≤1000000):∀(d m q:Nat) (n:Int) (j:Nat),j+d=4→d<m→q≤s.length+1→0≤n→n+1≤10 ^ j→∃n' r,ZaF k m (rx s q true o) n (j:Int)=some (n',r)∧BadR s r
  | d,0,q,n,j,_,hm,_,_,_=>by omega
  | 0,m+1,q,n,j,hj,hm,hq,h0,h1=>⟨_,_,ZaY (.inr (by omega)),q,o,rfl,hq⟩
  | d+1,m+1,q,n,j,hj,hm,hq,h0,h1=>by
    by_cases h:∃x,s[q]?=some x∧isD x
    · obtain ⟨x,hx,hd⟩:=h
      have hqq:=(List.getElem?_eq_some_iff.1 hx).1
      have hb:(10:Int) ^ j≤1000:=by
        have:j=0∨j=1∨j=2∨j=3:=by omega
        rcases this with rfl | rfl | rfl | rfl <;> decide
      rw [Zb6 hs hx hd (by omega) h0 (by omega)]
      have hdv:dv x≤9:=by unfold dv;unfold isD at hd;omega
      refine ZjA hs d m (q+1) _ (j+1) (by omega) (by omega) (by omega) (by omega) ?_
      rw [Int.pow_succ];omega
    · exact ⟨_,_,ZaY (.inl fun x hx hd=>h ⟨x,hx,hd⟩),q,o,rfl,hq⟩
theorem ZgK {k q:Nat} {s:List UInt8} {o:Bool} (hk:5≤k) (hs:s.length≤1000000) (hq:q≤s.length+1):∃n r,F148 k (rx s q true o)=some (n,r)∧BadR s r:=ZjA hs 4 k q 0 0 rfl (by omega) hq (by omega) (by decide)
theorem ZfX {k p q m:Nat} {s:List UInt8} {o:Bool} {x:UInt8} (hs:s.length≤1000000) (hx:s[q]?=some x) (hd:isD x) (hp:q<p+4) (hpl:p≤s.length):ZaM k (rd s p o) (m+1) (rd s q o)=ZaM k (rd s p o) m (rd s (q+1) o):=by
  have hq:=(List.getElem?_eq_some_iff.1 hx).1
  unfold isD at hd
  show Zdw k (ZaM k (rd s p o) m) (rd s p o) (rd s q o)=_
  unfold Zdw Zcf
  have e4:w64 ((p:Int)+4)=(p:Int)+4:=Zv (by omega) (by omega)
  unfold rd
  simp only
  rw [e4,dt (by omega),zt_,dt (by omega),zt_,Zy,hx,zb_,dt (by omega),zt_,zb_,dt (by omega),zt_,ZS (by omega)]
theorem Zea {k p q m:Nat} {s:List UInt8} {o:Bool} (hs:s.length≤1000000) (hpl:p≤s.length) (h:(∀x,s[q]?=some x→¬isD x)∨p+4≤q) :
    ZaM k (rd s p o) (m+1) (rd s q o)=Zcg k (rd s p o) (rd s q o) (decide (q=p∨p+3<q)):=by
  show Zdw k (ZaM k (rd s p o) m) (rd s p o) (rd s q o)=_
  have fin:Zcf k (ZaM k (rd s p o) m) (rd s p o) (rd s q o) false=Zcg k (rd s p o) (rd s q o) (decide (q=p∨p+3<q)):=by
    unfold Zcf rd
    simp only
    rw [zf_,Zv (x:=(p:Int)+3) (by omega) (by omega)]
    by_cases h0:q=p
    · rw [ZX (by omega),zt_,dt (.inl h0)]
    · rw [ZE (by omega),zf_]
      congr 1
      by_cases h3:p+3<q
      · rw [dt (by omega),dt (.inr h3)]
      · rw [df (by omega),df (by omega)]
  unfold Zdw
  have e4:w64 ((rd s p o).f_at+4)=(p:Int)+4:=Zv (by show -9223372036854775808≤(p:Int)+4;omega) (by show (p:Int)+4≤_;omega)
  rw [e4]
  by_cases hq:q<s.length
  · obtain ⟨x,hx⟩:∃x,s[q]?=some x:=⟨_,List.getElem?_eq_getElem hq⟩
    have ex:idxL (rd s q o).f_s (rd s q o).f_at=some x:=by show idxL s (q:Int)=_;rw [Zy,hx]
    rw [show decide ((rd s q o).f_at<((rd s q o).f_s.length:Int))=true from dt (by show (q:Int)<s.length;omega),zt_]
    by_cases h4:q<p+4
    · rw [show decide ((rd s q o).f_at<(p:Int)+4)=true from dt (by show (q:Int)<_;omega),zt_,ex,zb_]
      by_cases h1:(x.toNat:Int)≥48
      · rw [dt h1,zt_,zb_,df ?_]
        · exact fin
        · rcases h with h | h
          · intro c;exact h x hx ⟨by omega,by omega⟩
          · omega
      · rw [df h1,zf_];exact fin
    · rw [show decide ((rd s q o).f_at<(p:Int)+4)=false from df (by show ¬(q:Int)<_;omega),zf_];exact fin
  · rw [show decide ((rd s q o).f_at<((rd s q o).f_s.length:Int))=false from df (by show ¬(q:Int)<s.length;omega),zf_];exact fin
theorem Zh8:((List.range 10).all fun a=>(atoi [UInt8.ofNat (48+a)] == some (a:Int)) && (List.range 10).all fun b=>(atoi [UInt8.ofNat (48+a),UInt8.ofNat (48+b)] == some ((a*10+b:Nat):Int)) && (List.range 10).all fun c=>atoi [UInt8.ofNat (48+a),UInt8.ofNat (48+b),UInt8.ofNat (48+c)] == some (((a*10+b)*10+c:Nat):Int))=true:=by kernel_rfl
theorem d_of {x:UInt8} (h:isD x):x=UInt8.ofNat (48+dv x)∧dv x<10:=by
  unfold isD at h
  unfold dv
  refine ⟨?_,by omega⟩
  rw [show 48+(x.toNat-48)=x.toNat by omega,UInt8.ofNat_toNat]
theorem ZqZ {a:UInt8} (ha:isD a):atoi [a]=some (dv a:Int):=by
  obtain ⟨e,h⟩:=d_of ha
  have:=List.all_eq_true.1 Zh8 (dv a) (List.mem_range.2 h)
  simp only [Bool.and_eq_true,beq_iff_eq] at this
  rw [←e] at this
  exact this.1
theorem Zq0 {a b:UInt8} (ha:isD a) (hb:isD b):atoi [a,b]=some ((dv a*10+dv b:Nat):Int):=by
  obtain ⟨e,h⟩:=d_of ha
  obtain ⟨e2,h2⟩:=d_of hb
  have:=List.all_eq_true.1 Zh8 (dv a) (List.mem_range.2 h)
  simp only [Bool.and_eq_true] at this
  have:=List.all_eq_true.1 this.2 (dv b) (List.mem_range.2 h2)
  simp only [Bool.and_eq_true,beq_iff_eq] at this
  rw [←e,←e2] at this
  exact this.1
theorem Zq1 {a b c:UInt8} (ha:isD a) (hb:isD b) (hc:isD c):atoi [a,b,c]=some (((dv a*10+dv b)*10+dv c:Nat):Int):=by
  obtain ⟨e,h⟩:=d_of ha
  obtain ⟨e2,h2⟩:=d_of hb
  obtain ⟨e3,h3⟩:=d_of hc
  have:=List.all_eq_true.1 Zh8 (dv a) (List.mem_range.2 h)
  simp only [Bool.and_eq_true] at this
  have:=List.all_eq_true.1 this.2 (dv b) (List.mem_range.2 h2)
  simp only [Bool.and_eq_true] at this
  have:=List.all_eq_true.1 this.2 (dv c) (List.mem_range.2 h3)
  simp only [beq_iff_eq] at this
  rw [←e,←e2,←e3] at this
  exact this
theorem Zj5 {k p q:Nat} {s:List UInt8} {o:Bool} {n:Nat} (hs:s.length≤1000000) (h1:p<q) (h2:q≤p+3) (hq:q≤s.length) (hn:atoi ((s.take q).drop p)=some (n:Int)) :
    Zcg k (rd s p o) (rd s q o) (decide (q=p∨p+3<q))=some (some ((n:Int),rd s q (o || decide (20<n)))):=by
  rw [df (by omega)]
  unfold Zcg Zhk F172 rd
  simp only
  rw [zf_,if_pos ⟨by omega,by omega,by omega⟩,Int.toNat_natCast,Int.toNat_natCast,if_pos (by rw [List.length_drop,List.length_take];omega),hn,zb_]
  cases o
  · rw [zf_,Bool.false_or]
    congr 4
    exact decide_eq_decide.2 (by omega)
  · rw [zt_,Bool.true_or]
theorem ZkA {k k' p:Nat} {s:List UInt8} {o o':Bool} (hk:6≤k) (hk':6≤k') (hs:s.length≤1000000) (hp:p≤s.length) :
    (F142 k (rd s p o)=some none∧∃n r,F148 k' (rx s p false o')=some (n,r)∧BadR s r)∨
    (∃n p':Nat,F142 k (rd s p o)=some (some ((n:Int),rd s p' (o || decide (20<n))))∧F148 k' (rx s p false o')=some ((n:Int),rx s p' false o')∧p<p'∧p'≤s.length):=by
  obtain ⟨m,rfl⟩:∃m,k=m+1:=⟨k-1,by omega⟩
  obtain ⟨m',rfl⟩:∃m,k'=m+1:=⟨k'-1,by omega⟩
  have bad4:∀q,(q=p∨p+3<q)→Zcg (m+1) (rd s p o) (rd s q o) (decide (q=p∨p+3<q))=some none:=fun q h=>by rw [dt h];rfl
  show (ZaM (m+1) (rd s p o) (m+1) (rd s p o)=_∧∃n r,ZaF (m'+1) (m'+1) (rx s p false o') 0 ((0:Nat):Int)=_∧_)∨(∃n p':Nat,ZaM (m+1) (rd s p o) (m+1) (rd s p o)=_∧ZaF (m'+1) (m'+1) (rx s p false o') 0 ((0:Nat):Int)=_∧_)
  by_cases h0:¬(∃x,s[p]?=some x∧isD x)
  · have h0':∀x,s[p]?=some x→¬isD x:=fun x hx hd=>h0 ⟨x,hx,hd⟩
    refine .inl ⟨by rw [Zea hs hp (.inl h0')];exact bad4 p (.inl rfl),_,_,ZaY (.inl h0'),p,o',rfl,by omega⟩
  obtain ⟨x,hx,dx⟩:=Classical.not_not.1 h0
  have hx1:=(List.getElem?_eq_some_iff.1 hx).1
  have bx:dv x≤9:=by have:=d_of dx;omega
  obtain ⟨m,rfl⟩:∃q,m=q+1:=⟨m-1,by omega⟩
  obtain ⟨m',rfl⟩:∃q,m'=q+1:=⟨m'-1,by omega⟩
  rw [ZfX hs hx dx (by omega) hp,Zb6 hs hx dx (by omega) (by omega) (by omega)]
  have eds:(s.take (p+1)).drop p=[x]:=by
    rw [List.drop_take,Zal hx,show p+1-p=1 by omega];rfl
  by_cases h1:¬(∃y,s[p+1]?=some y∧isD y)
  · have h1':∀y,s[p+1]?=some y→¬isD y:=fun y hy hd=>h1 ⟨y,hy,hd⟩
    refine .inr ⟨dv x,p+1,?_,?_,by omega,by omega⟩
    · rw [Zea hs hp (.inl h1')];exact Zj5 hs (by omega) (by omega) (by omega) (by rw [eds];exact ZqZ dx)
    · rw [ZaY (.inl h1'),df (by omega)];simp
  obtain ⟨y,hy,dy⟩:=Classical.not_not.1 h1
  have hy1:=(List.getElem?_eq_some_iff.1 hy).1
  have by_:dv y≤9:=by have:=d_of dy;omega
  obtain ⟨m,rfl⟩:∃q,m=q+1:=⟨m-1,by omega⟩
  obtain ⟨m',rfl⟩:∃q,m'=q+1:=⟨m'-1,by omega⟩
  rw [ZfX hs hy dy (by omega) hp,Zb6 hs hy dy (by omega) (by omega) (by omega)]
  have eds2:(s.take (p+1+1)).drop p=[x,y]:=by
    rw [List.drop_take,Zal hx,Zal hy,show p+1+1-p=2 by omega];rfl
  by_cases h2:¬(∃z,s[p+1+1]?=some z∧isD z)
  · have h2':∀z,s[p+1+1]?=some z→¬isD z:=fun z hz hd=>h2 ⟨z,hz,hd⟩
    refine .inr ⟨dv x*10+dv y,p+1+1,?_,?_,by omega,by omega⟩
    · rw [Zea hs hp (.inl h2')];exact Zj5 hs (by omega) (by omega) (by omega) (by rw [eds2];exact Zq0 dx dy)
    · rw [ZaY (.inl h2'),df (by omega)];simp
  obtain ⟨z,hz,dz⟩:=Classical.not_not.1 h2
  have hz1:=(List.getElem?_eq_some_iff.1 hz).1
  have bz:dv z≤9:=by have:=d_of dz;omega
  obtain ⟨m,rfl⟩:∃q,m=q+1:=⟨m-1,by omega⟩
  obtain ⟨m',rfl⟩:∃q,m'=q+1:=⟨m'-1,by omega⟩
  rw [ZfX hs hz dz (by omega) hp,Zb6 hs hz dz (by omega) (by omega) (by omega)]
  have eds3:(s.take (p+1+1+1)).drop p=[x,y,z]:=by
    rw [List.drop_take,Zal hx,Zal hy,Zal hz,show p+1+1+1-p=3 by omega];rfl
  by_cases h3:¬(∃u,s[p+1+1+1]?=some u∧isD u)
  · have h3':∀u,s[p+1+1+1]?=some u→¬isD u:=fun u hu hd=>h3 ⟨u,hu,hd⟩
    refine .inr ⟨(dv x*10+dv y)*10+dv z,p+1+1+1,?_,?_,by omega,by omega⟩
    · rw [Zea hs hp (.inl h3')];exact Zj5 hs (by omega) (by omega) (by omega) (by rw [eds3];exact Zq1 dx dy dz)
    · rw [ZaY (.inl h3'),df (by omega)];simp
  obtain ⟨u,hu,du⟩:=Classical.not_not.1 h3
  have hu1:=(List.getElem?_eq_some_iff.1 hu).1
  obtain ⟨m,rfl⟩:∃q,m=q+1:=⟨m-1,by omega⟩
  obtain ⟨m',rfl⟩:∃q,m'=q+1:=⟨m'-1,by omega⟩
  rw [ZfX hs hu du (by omega) hp,Zb6 hs hu du (by omega) (by omega) (by omega),Zea hs hp (.inr (by omega)),ZaY (.inr (by omega))]
  exact .inl ⟨bad4 _ (.inr (by omega)),_,_,rfl,p+1+1+1+1,o',by rw [dt (by omega)];rfl,by omega⟩
theorem Zlk {q:Nat} {s:List UInt8} {b o:Bool} {a:Zd} {y:Int×Zf} {m:Int}:ZeJ a y m (rx s q b o)=some (⟨4,[],[a],y.1,m⟩,rx s q b (o || decide (20<y.1∨20<m∨(0≤m∧m<y.1)))):=by
  unfold ZeJ Zdr Zhh rx
  simp only
  by_cases h1:y.1 > 20
  · rw [dt h1,zt_,zt_,dt (.inl h1),Bool.or_true]
  · rw [df h1,zf_]
    by_cases h2:m > 20
    · rw [dt h2,zt_,zt_,dt (.inr (.inl h2)),Bool.or_true]
    · rw [df h2,zf_]
      by_cases h3:m≥0
      · rw [dt h3,zt_]
        by_cases h4:m<y.1
        · rw [dt h4,zt_,dt (.inr (.inr ⟨h3,h4⟩)),Bool.or_true]
        · rw [df h4,zf_,df (by omega),Bool.or_false]
      · rw [df h3,zf_,zf_,df (by omega),Bool.or_false]
theorem ZcX {k q:Nat} {s:List UInt8} {o:Bool} {a:Zd} {y:Int×Zf} {m:Int} (hs:s.length≤1000000) (hq:q≤s.length+1):∃x r,ZbI k a y (rx s q true o) m=some (x,r)∧BadR s r:=by
  obtain ⟨t,q3,e3,h3⟩:=Za5 k (q:=q) (b:=true) (o:=o) 125 hs
  unfold ZbI
  rw [e3,zb_]
  cases t
  · have e:({ (false,rx s q3 true o).2 with f_Bad:=true }:Zf)=rx s q3 true o:=rfl
    simp only [Bool.not_false,zt_]
    rw [e,Zlk]
    exact ⟨_,_,rfl,q3,_,rfl,by omega⟩
  · simp only [Bool.not_true,zf_]
    rw [Zlk]
    exact ⟨_,_,rfl,q3,_,rfl,by omega⟩
theorem ZoN {k q:Nat} {s:List UInt8} {o:Bool} {a:Zd} (hk:6≤k) (hs:s.length≤1000000) (hq:q≤s.length+1):∃x r,F120 k (rx s q true o) a=some (x,r)∧BadR s r:=by
  obtain ⟨n,r,e1,q1,o1,rfl,h1⟩:=ZgK (k:=k) (o:=o) (by omega) hs hq
  unfold F120
  rw [e1,zb_]
  obtain ⟨t,q2,e2,h2⟩:=Za5 k (q:=q1) (b:=true) (o:=o1) 44 hs
  simp only
  rw [e2,zb_]
  cases t
  · exact ZcX hs (by omega)
  · simp only [zt_]
    rw [ZaP,zb_]
    cases pk s q2 != 125
    · exact ZcX hs (by omega)
    · obtain ⟨n2,r2,e3,q3,o3,rfl,h3⟩:=ZgK (k:=k) (q:=q2) (o:=o1) (by omega) hs (by omega)
      rw [zt_,e3,zb_]
      exact ZcX hs h3
theorem ZpD {k k' p:Nat} {s:List UInt8} {o:Bool} {a:Zd} (hk:6≤k) (hk':6≤k') (hs:s.length≤1000000) (hp:p≤s.length) :
    (F118 k (rd s p o)=some none∧∃x r,F120 k' (rx s p false o) a=some (x,r)∧BadR s r)∨
    (∃(n m:Int) (p':Nat) (o':Bool),F118 k (rd s p o)=some (some (n,m,rd s p' o'))∧F120 k' (rx s p false o) a=some (⟨4,[],[a],n,m⟩,rx s p' false o')∧p<p'∧p'≤s.length):=by
  unfold F118 F120
  rcases ZkA (k:=k) (k':=k') (o:=o) (o':=o) hk hk' hs hp with ⟨e1,n,r,e2,q,o2,rfl,hq⟩ | ⟨n,p1,e1,e2,h1,h2⟩
  · rw [e1,e2,zb_]
    refine .inl ⟨rfl,?_⟩
    obtain ⟨t,q2,e3,h3⟩:=Za5 k' (q:=q) (b:=true) (o:=o2) 44 hs
    simp only
    rw [e3,zb_]
    cases t
    · exact ZcX hs (by omega)
    · simp only [zt_]
      rw [ZaP,zb_]
      cases pk s q2 != 125
      · exact ZcX hs (by omega)
      · obtain ⟨n2,r2,e3,q3,o3,rfl,h3⟩:=ZgK (k:=k') (q:=q2) (o:=o2) (by omega) hs (by omega)
        rw [zt_,e3,zb_]
        exact ZcX hs h3
  · rw [e1,e2,zb_]
    simp only [orP,zb_]
    have last:∀(m:Int) (p2:Nat) (o1 o2:Bool),p<p2→p2≤s.length→(o1=(o2 || decide (20<(n:Int)∨20<m∨(0≤m∧m<(n:Int)))))→
        (Za2 k ((n:Int),rd s p1 (o || decide (20<n))) (rd s p2 o1) m=some none∧∃x r,ZbI k' a ((n:Int),rx s p1 false o) (rx s p2 false o2) m=some (x,r)∧BadR s r)∨
        (∃(n' m':Int) (p':Nat) (o':Bool),Za2 k ((n:Int),rd s p1 (o || decide (20<n))) (rd s p2 o1) m=some (some (n',m',rd s p' o'))∧ZbI k' a ((n:Int),rx s p1 false o) (rx s p2 false o2) m=some (⟨4,[],[a],n',m'⟩,rx s p' false o')∧p<p'∧p'≤s.length):=fun m p2 o1 o2 hp2 hp3 ho=>by
      unfold Za2 ZbI
      rcases Zaq (k:=k) (k':=k') (o:=o1) (o':=o2) 125 hs hp3 with ⟨_,f1,f2,f3⟩ | ⟨_,f1,f2⟩
      · have f2':F74 k' (rx s p2 false o2) 125=_:=f2
        rw [f1,f2',zb_,zb_]
        refine .inr ⟨n,m,p2+1,o1,rfl,?_,by omega,f3⟩
        simp only [Bool.not_true,zf_]
        rw [Zlk,ho]
      · have f2':F74 k' (rx s p2 false o2) 125=_:=f2
        rw [f1,f2',zb_,zb_]
        refine .inl ⟨rfl,?_⟩
        simp only [Bool.not_false,zt_]
        have e:({ rx s p2 false o2 with f_Bad:=true }:Zf)=rx s p2 true o2:=rfl
        rw [e,Zlk]
        exact ⟨_,_,rfl,p2,_,rfl,by omega⟩
    rcases Zaq (k:=k) (k':=k') (o:=o || decide (20<n)) (o':=o) 44 hs h2 with ⟨_,f1,f2,f3⟩ | ⟨_,f1,f2⟩
    · have f2':F74 k' (rx s p1 false o) 44=_:=f2
      rw [f1,f2',zb_,zb_]
      simp only [zt_]
      rw [is1 f3,zb_,ZaP,zb_]
      by_cases hb:s[p1+1]?=some 125
      · rw [dt hb,Za4 hb,Bool.not_true,zf_]
        have:(((125:UInt8).toNat:Int) != 125)=false:=rfl
        rw [this,zf_]
        exact last (-1) (p1+1) _ _ (by omega) f3 (by congr 1;exact decide_eq_decide.2 (by omega))
      · have hpk:(pk s (p1+1) != 125)=true:=by
          by_cases hl:p1+1<s.length
          · obtain ⟨x,hx⟩:∃x,s[p1+1]?=some x:=⟨_,List.getElem?_eq_getElem hl⟩
            rw [Za4 hx]
            have:x.toNat≠125:=fun c=>hb (by rw [hx];congr 1;exact UInt8.toNat_inj.1 (by simpa using c))
            simp;omega
          · rw [ZfH (by omega)];rfl
        rw [df hb,hpk,Bool.not_false,zt_,zt_]
        rcases ZkA (k:=k) (k':=k') (o:=o || decide (20<n)) (o':=o) hk hk' hs f3 with ⟨e3,n2,r,e4,q,o2,rfl,hq⟩ | ⟨n2,p2,e3,e4,h3,h4⟩
        · rw [e3,e4,zb_]
          exact .inl ⟨rfl,ZcX hs hq⟩
        · rw [e3,e4,zb_,zb_]
          simp only
          have hflag:∀z:Bool,cond z (Za2 k ((n:Int),rd s p1 (o || decide (20<n))) { rd s p2 z with f_over:=true } (n2:Int)) (Za2 k ((n:Int),rd s p1 (o || decide (20<n))) { rd s p2 z with f_over:=decide ((n2:Int)<(n:Int)) } (n2:Int)) =
              Za2 k ((n:Int),rd s p1 (o || decide (20<n))) (rd s p2 (z || decide ((n2:Int)<(n:Int)))) (n2:Int):=fun z=>by
            cases z
            · rw [zf_,Bool.false_or];rfl
            · rw [zt_,Bool.true_or];rfl
          have e5:=hflag ((o || decide (20<n)) || decide (20<n2))
          have e6:(rd s p2 ((o || decide (20<n)) || decide (20<n2))).f_over=((o || decide (20<n)) || decide (20<n2)):=rfl
          rw [e6,e5]
          refine last (n2:Int) p2 _ o (by omega) h4 ?_
          cases o
          · simp only [Bool.false_or]
            rw [Bool.eq_iff_iff]
            simp only [Bool.or_eq_true,decide_eq_true_eq]
            omega
          · simp
    · have f2':F74 k' (rx s p1 false o) 44=_:=f2
      rw [f1,f2',zb_,zb_]
      simp only [zf_]
      exact last (n:Int) p1 _ _ h1 h2 (by congr 1;exact decide_eq_decide.2 (by omega))
end Go.Proofs.YthilboheomikjaaGreatDoor
end
section
namespace Go.Proofs.YthilboheomikjaaGreatDoor
open Go.AL Go.Lib
set_option maxRecDepth 100000
theorem Zhm (k:Nat):F143 k=some ptsR:=rfl
theorem Zg5 {self8:List Zb→Int→Option (List Zb)} {v0 v1:List Zb} {i:Nat} {x:Zb} (hx:v0[i]?=some x) (h1:v1.length≤1000) (h0:v0.length≤1048576):∀(l acc:List Zb) (j m:Nat),v1.drop j=l→acc.length+l.length≤1073741824→l.length<m→j≤v1.length→
    Zcc self8 v0 v1 (i:Int) m acc (j:Int)=self8 (acc ++ l.flatMap (cutR x)) (w64 ((i:Int)+1))
  | [],acc,j,m,hd,ha,hm,hj=>by
    obtain ⟨m,rfl⟩:∃q,m=q+1:=⟨m-1,by simp at hm;omega⟩
    have:=ZV hd
    show ZcP _ _ _ _ _ _ _=_
    unfold ZcP
    rw [df (by omega),zf_,List.flatMap_nil,List.append_nil]
  | y :: l,acc,j,m,hd,ha,hm,hj=>by
    obtain ⟨m,rfl⟩:∃q,m=q+1:=⟨m-1,by omega⟩
    obtain ⟨g1,g2,g3⟩:=ZO hd
    rw [List.length_cons] at ha hm
    show ZcP self8 (Zcc self8 v0 v1 (i:Int) m) v0 v1 (i:Int) acc (j:Int)=_
    unfold ZcP
    have ex:idxL v0 (i:Int)=some x:=by rw [Zy];exact hx
    have ey:idxL v1 (j:Int)=some y:=by rw [Zy];exact g2
    rw [dt (by omega),zt_,ex,zb_,ey,zb_,zb_,zb_,List.flatMap_cons]
    unfold ZfV
    rw [ZS (by omega)]
    by_cases hc:mx x.f_Lo y.f_Lo≤mn x.f_Hi y.f_Hi
    · have ec:cutR x y=[⟨mx x.f_Lo y.f_Lo,mn x.f_Hi y.f_Hi⟩]:=if_pos hc
      rw [dt hc,zt_,if_pos (by simp;omega),Zg5 hx h1 h0 l _ (j+1) m g3 (by simp;omega) (by omega) (by omega),ec,List.append_assoc]
    · have ec:cutR x y=[]:=if_neg hc
      rw [df hc,zf_,Zg5 hx h1 h0 l _ (j+1) m g3 (by omega) (by omega) (by omega),ec,List.nil_append]
theorem ZjE {k:Nat} {v0 v1:List Zb} (h1:v1.length≤1000) (hk:v1.length<k) (h0:v0.length≤1048576):∀(l acc:List Zb) (i m:Nat),v0.drop i=l→acc.length+l.length*v1.length≤1073741824→l.length<m→i≤v0.length→
    ZbQ k v0 v1 m acc (i:Int)=some (acc ++ ZaC l v1)
  | [],acc,i,m,hd,ha,hm,hi=>by
    obtain ⟨m,rfl⟩:∃q,m=q+1:=⟨m-1,by simp at hm;omega⟩
    have:=ZV hd
    show ZdL _ _ _ _ _ _=_
    unfold ZdL
    rw [df (by omega),zf_]
    show _=some (acc ++ [])
    rw [List.append_nil]
  | x :: l,acc,i,m,hd,ha,hm,hi=>by
    obtain ⟨m,rfl⟩:∃q,m=q+1:=⟨m-1,by omega⟩
    obtain ⟨g1,g2,g3⟩:=ZO hd
    rw [List.length_cons] at ha hm
    rw [Nat.add_mul,Nat.one_mul] at ha
    have hrl:=ZhN x v1
    show ZdL k (ZbQ k v0 v1 m) v0 v1 acc (i:Int)=_
    unfold ZdL
    rw [dt (by omega),zt_]
    have e:=Zg5 (self8:=ZbQ k v0 v1 m) (x:=x) g2 h1 h0 v1 acc 0 k rfl (by omega) hk (Nat.zero_le _)
    have e':Zcc (ZbQ k v0 v1 m) v0 v1 (i:Int) k acc 0=ZbQ k v0 v1 m (acc ++ v1.flatMap (cutR x)) (w64 ((i:Int)+1)):=e
    rw [e',ZS (by omega),ZjE h1 hk h0 l _ (i+1) m g3 (by rw [List.length_append];omega) (by omega) (by omega),List.append_assoc]
    rfl
theorem Zkq {c:Int}:∀{l1 l2:List Zb} {b:Int},Z9 b l1→(∀r∈l1,r.f_Hi+2≤c)→Z9 c l2→b≤c→Z9 b (l1 ++ l2)
  | [],l2,b,_,_,h2,hbc=>h2.mono hbc
  | r :: l1,l2,b,⟨h1,h3,h4⟩,hr,h2,hbc=>⟨h1,h3,Zkq h4 (fun x hx=>hr x (List.mem_cons_of_mem _ hx)) h2 (hr r List.mem_cons_self)⟩
theorem Zky {x y:Zb}:Z9 x.f_Lo (cutR x y)∧∀r∈cutR x y,r.f_Hi≤x.f_Hi∧r.f_Hi≤y.f_Hi∧y.f_Lo≤r.f_Lo:=by
  have h2:=ZhK.1 (Int.le_refl (mx x.f_Lo y.f_Lo))
  have h3:=Zjp.1 (Int.le_refl (mn x.f_Hi y.f_Hi))
  unfold cutR
  split
  · rename_i h
    refine ⟨⟨h2.1,h,trivial⟩,fun r hr=>?_⟩
    obtain rfl:=List.mem_singleton.1 hr
    exact ⟨h3.1,h3.2,h2.2⟩
  · exact ⟨trivial,fun r hr=>by cases hr⟩
theorem Zh3:∀{l:List Zb} {b:Int},Z9 b l→Z9 b (ZaC l ptsR)
  | [],_,_=>trivial
  | x :: l,b,⟨h1,h2,h3⟩=>by
    have ih:=Zh3 h3
    have e:ZaC (x :: l) ptsR=(cutR x ⟨0,55295⟩ ++ (cutR x ⟨57344,1114111⟩ ++ [])) ++ ZaC l ptsR:=rfl
    rw [e,List.append_nil]
    obtain ⟨a1,a2⟩:=Zky (x:=x) (y:=⟨0,55295⟩)
    obtain ⟨b1,b2⟩:=Zky (x:=x) (y:=⟨57344,1114111⟩)
    refine Zkq (c:=x.f_Hi+2) ?_ (fun r hr=>?_) ih (by omega)
    ·
      unfold cutR at a1 a2 b1 b2 ⊢
      simp only at a1 a2 b1 b2 ⊢
      split
      · rename_i c1
        rw [if_pos c1] at a1 a2
        have q:=a2 _ List.mem_cons_self
        simp only at q
        split
        · rename_i c2
          rw [if_pos c2] at b1 b2
          have q2:=b2 _ List.mem_cons_self
          simp only at q2
          have m1:=ZhK.1 (Int.le_refl (mx x.f_Lo 0))
          have h9:x.f_Lo≤mx x.f_Lo 0:=a1.1
          exact ⟨by show b≤mx x.f_Lo 0;omega,c1,⟨by show mn x.f_Hi 55295+2≤mx x.f_Lo 57344;omega,c2,trivial⟩⟩
        · have h9:x.f_Lo≤mx x.f_Lo 0:=a1.1
          exact ⟨by show b≤mx x.f_Lo 0;omega,c1,trivial⟩
      · split
        · rename_i c2
          rw [if_pos c2] at b1
          have h9:x.f_Lo≤mx x.f_Lo 57344:=b1.1
          exact ⟨by show b≤mx x.f_Lo 57344;omega,c2,trivial⟩
        · trivial
    · rcases List.mem_append.1 hr with hr | hr
      · have:=(a2 r hr).1;omega
      · have:=(b2 r hr).1;omega
theorem Zms {k:Nat} {a:List Zb} (ha:a.length≤100000) (hk:a.length+3≤k) (hap:Z9 0 a):F190 k a ptsR=some (ZaC a ptsR)∧Zb8 (ZaC a ptsR)∧(∀c,inR (ZaC a ptsR) c↔inR a c∧ZI c)∧(ZaC a ptsR).length≤2*a.length:=by
  have h2:ptsR.length=2:=rfl
  have hl:=Zg4 ptsR a
  rw [h2] at hl
  have e:F190 k a ptsR=some ([] ++ ZaC a ptsR):=ZjE (k:=k) (v0:=a) (v1:=ptsR) (by rw [h2];omega) (by rw [h2];omega) (by omega) a [] 0 k rfl (by rw [h2];simp;omega) (by omega) (Nat.zero_le _)
  rw [List.nil_append] at e
  have ei:∀c,inR (ZaC a ptsR) c↔inR a c∧ZI c:=fun c=>by rw [Zmr,ZoG]
  exact ⟨e,⟨Zh3 hap,fun c hc=>((ei c).1 hc).2⟩,ei,by omega⟩
theorem Zjd:∀(l:List Zb) (b:Int),Z9 b l→Bd l→Z9 b (comp b l)
  | [],b,_,_=>by
    unfold comp
    split
    · rename_i h;exact ⟨Int.le_refl _,h,trivial⟩
    · trivial
  | r :: l,b,⟨h1,h2,h3⟩,hb=>by
    have ih:=Zjd l (r.f_Hi+1) (h3.mono (by omega)) fun x hx=>hb x (List.mem_cons_of_mem _ hx)
    unfold comp
    split
    · rename_i h
      exact ⟨Int.le_refl _,by simp only;omega,ih.mono (by simp only;omega)⟩
    · exact ih.mono (by omega)
theorem Zg6 {k:Nat} {y:List Zb} (hy:y.length≤100000) (hb:Bd y):∀(l acc:List Zb) (b:Int) (i m:Nat),y.drop i=l→acc.length+l.length+1≤1073741824→l.length<m→i≤y.length→0≤b→b≤1114112→
    ZdK k y m acc b (i:Int)=F190 k (acc ++ comp b l) ptsR
  | [],acc,b,i,m,hd,ha,hm,hi,h0,h1=>by
    obtain ⟨m,rfl⟩:∃q,m=q+1:=⟨m-1,by simp at hm;omega⟩
    have:=ZV hd
    have fin:∀a,ZeR k a=F190 k a ptsR:=fun a=>by
      unfold ZeR
      rw [Zhm,zb_]
      cases F190 k a ptsR <;> rfl
    show ZdJ _ _ _ _ _ _=_
    unfold ZdJ
    rw [df (by omega),zf_]
    unfold comp
    by_cases hc:b≤1114111
    · rw [dt hc,zt_,if_pos (by simp at ha ⊢;omega),fin,if_pos hc]
    · rw [df hc,zf_,fin,if_neg hc,List.append_nil]
  | r :: l,acc,b,i,m,hd,ha,hm,hi,h0,h1=>by
    obtain ⟨m,rfl⟩:∃q,m=q+1:=⟨m-1,by omega⟩
    obtain ⟨g1,g2,g3⟩:=ZO hd
    rw [List.length_cons] at ha hm
    have hr:=hb r (List.mem_of_getElem? g2)
    have ex:idxL y (i:Int)=some r:=by rw [Zy];exact g2
    show ZdJ k (ZdK k y m) y acc b (i:Int)=_
    unfold ZdJ Zhy
    rw [dt (by omega),zt_]
    simp only [ex,zb_]
    rw [ZS (by omega),Zv (x:=r.f_Hi+1) (by omega) (by omega),Zv (x:=r.f_Lo-1) (by omega) (by omega)]
    conv=>rhs;unfold comp
    by_cases hc:b<r.f_Lo
    · rw [dt hc,zt_,if_pos (by simp;omega),Zg6 hy hb l _ _ (i+1) m g3 (by simp;omega) (by omega) (by omega) (by omega) (by omega),if_pos hc,List.append_assoc]
    · rw [df hc,zf_,Zg6 hy hb l _ _ (i+1) m g3 (by omega) (by omega) (by omega) (by omega) (by omega),if_neg hc,List.nil_append]
theorem ZqB {k:Nat} {l:List Zb} (hl:l.length≤50000) (hk:l.length+10≤k) (hb:Bd l) (ha:Z9 0 l):∃l',F175 k l=some l'∧Zb8 l'∧(∀c,inR l' c↔ZI c∧¬inR l c):=by
  have hc:=Zie l 0
  obtain ⟨e1,c1,i1,n1⟩:=Zms (k:=k) (a:=comp 0 l) (by omega) (by omega) (Zjd l 0 ha hb)
  have e:F175 k l=F190 k ([] ++ comp 0 l) ptsR:=Zg6 (k:=k) (by omega) hb l [] 0 0 k rfl (by simp;omega) (by omega) (Nat.zero_le _) (by omega) (by omega)
  rw [List.nil_append,e1] at e
  refine ⟨_,e,c1,fun c=>?_⟩
  rw [i1,Zj3 l 0 ha hb]
  exact ⟨fun h=>⟨h.2,h.1.2.2⟩,fun h=>⟨⟨h.1.1,h.1.2.1,h.2⟩,h.1⟩⟩
def Zad (x:Zb) (out:List Zb):Nat→Nat
  | 0=>0
  | j+1=>match out[j]? with
    | some y=>if y.f_Lo > x.f_Lo then Zad x out j else j+1
    | none=>j+1
theorem Zmf (x:Zb) (out:List Zb):∀j,Zad x out j≤j
  | 0=>Nat.le_refl _
  | j+1=>by
    unfold Zad
    split
    · split
      · have:=Zmf x out j;omega
      · exact Nat.le_refl _
    · exact Nat.le_refl _
def ins (x:Zb) (out:List Zb):List Zb:=out.take (Zad x out out.length) ++ [x] ++ out.drop (Zad x out out.length)
theorem Zl3 (x:Zb) (out:List Zb):List.Perm (ins x out) (x :: out):=by
  unfold ins
  have:=List.take_append_drop (Zad x out out.length) out
  conv=>rhs;rw [←this]
  rw [List.append_assoc]
  exact List.perm_middle
theorem Ziv:∀{l1 l2:List Zb},Rise l1→Rise l2→(∀a∈l1,∀b∈l2,a.f_Lo≤b.f_Lo)→Rise (l1 ++ l2)
  | [],_,_,h2,_=>h2
  | x :: l1,l2,⟨h1,h3⟩,h2,h=>⟨fun y hy=>by
      rcases List.mem_append.1 hy with hy | hy
      · exact h1 y hy
      · exact h x List.mem_cons_self y hy,Ziv h3 h2 fun a ha b hb=>h a (List.mem_cons_of_mem _ ha) b hb⟩
theorem ZkZ:∀{l:List Zb} (n:Nat),Rise l→Rise (l.take n)
  | [],n,_=>by cases n <;> exact trivial
  | x :: l,0,_=>trivial
  | x :: l,n+1,⟨h1,h2⟩=>⟨fun y hy=>h1 y (List.mem_of_mem_take hy),ZkZ n h2⟩
theorem ZkY:∀{l:List Zb} (n:Nat),Rise l→Rise (l.drop n)
  | [],n,_=>by cases n <;> exact trivial
  | x :: l,0,h=>h
  | x :: l,n+1,⟨h1,h2⟩=>ZkY n h2
theorem Znn:∀{l:List Zb} {i j:Nat} {a b:Zb},Rise l→i≤j→l[i]?=some a→l[j]?=some b→a.f_Lo≤b.f_Lo
  | [],i,j,a,b,_,_,h,_=>by simp at h
  | x :: l,0,0,a,b,_,_,h1,h2=>by rw [h1] at h2;obtain rfl:=zj_ h2;exact Int.le_refl _
  | x :: l,0,j+1,a,b,⟨h,_⟩,_,h1,h2=>by
    simp at h1;subst h1
    exact h b (List.mem_of_getElem? (by simpa using h2))
  | x :: l,i+1,0,a,b,_,hij,_,_=>by omega
  | x :: l,i+1,j+1,a,b,⟨_,h⟩,hij,h1,h2=>Znn (i:=i) (j:=j) h (by omega) (by rw [List.getElem?_cons_succ] at h1;exact h1) (by rw [List.getElem?_cons_succ] at h2;exact h2)
theorem Zjy {x:Zb} {out:List Zb} (hr:Rise out):∀j,j≤out.length→(∀i y,j≤i→out[i]?=some y→x.f_Lo≤y.f_Lo)→(∀i y,i<Zad x out j→out[i]?=some y→y.f_Lo≤x.f_Lo)∧(∀i y,Zad x out j≤i→out[i]?=some y→x.f_Lo≤y.f_Lo)
  | 0,_,h=>⟨fun i y hi=>by simp [Zad] at hi,fun i y _ hy=>h i y (Nat.zero_le _) hy⟩
  | j+1,hj,h=>by
    obtain ⟨z,hz⟩:∃z,out[j]?=some z:=⟨_,List.getElem?_eq_getElem (by omega)⟩
    unfold Zad
    rw [hz]
    simp only
    by_cases hc:z.f_Lo > x.f_Lo
    · rw [if_pos hc]
      exact Zjy hr j (by omega) fun i y hi hy=>by
        by_cases e:i=j
        · subst e;rw [hz] at hy;obtain rfl:=zj_ hy;omega
        · exact h i y (by omega) hy
    · rw [if_neg hc]
      exact ⟨fun i y hi hy=>by have:=Znn hr (show i≤j by omega) hy hz;omega,h⟩
theorem Zph {x:Zb} {out:List Zb} (hr:Rise out):Rise (ins x out):=by
  obtain ⟨h1,h2⟩:=Zjy (x:=x) hr out.length (Nat.le_refl _) (fun i y hi hy=>by rw [List.getElem?_eq_none hi] at hy;cases hy)
  have hle:=Zmf x out out.length
  unfold ins
  have m1:∀a∈out.take (Zad x out out.length),a.f_Lo≤x.f_Lo:=fun a ha=>by
    obtain ⟨i,hi,rfl⟩:=List.mem_iff_getElem.1 ha
    rw [List.length_take] at hi
    refine h1 i _ (by omega) ?_
    rw [List.getElem_take];exact List.getElem?_eq_getElem _
  have m2:∀b∈out.drop (Zad x out out.length),x.f_Lo≤b.f_Lo:=fun b hb=>by
    obtain ⟨i,hi,rfl⟩:=List.mem_iff_getElem.1 hb
    rw [List.getElem_drop]
    exact h2 (Zad x out out.length+i) _ (by omega) (List.getElem?_eq_getElem _)
  refine Ziv (Ziv (ZkZ _ hr) ⟨(fun y hy=>by cases hy),trivial⟩ fun a ha b hb=>?_) (ZkY _ hr) fun a ha b hb=>?_
  · simp at hb;subst hb;exact m1 a ha
  · rcases List.mem_append.1 ha with ha | ha
    · have:=m1 a ha;have:=m2 b hb;omega
    · simp at ha;subst ha;exact m2 b hb
theorem Zjx {self8:List Zb→Int→Option (List Zb)} {v0 out:List Zb} {i:Nat} {x:Zb} (hx:v0[i]?=some x) (h0:v0.length≤100000) (ho:out.length≤100000):∀(j m:Nat),j≤out.length→j<m→Zad x out j=Zad x out out.length→
    Zcb self8 v0 out (i:Int) m (j:Int)=self8 (ins x out) ((i+1:Nat):Int)
  | j,0,_,hm,_=>by omega
  | 0,m+1,hj,hm,hp=>by
    show ZcO self8 (Zcb self8 v0 out (i:Int) m) v0 out (i:Int) ((0:Nat):Int)=_
    have ex:idxL v0 (i:Int)=some x:=by rw [Zy];exact hx
    have hi:=(List.getElem?_eq_some_iff.1 hx).1
    unfold ZcO ZdY
    rw [df (by omega),zf_,zf_,if_pos ⟨by omega,by omega,by omega⟩,if_pos (by simp),ex,zb_,if_pos (by simp),if_pos ⟨by omega,by omega,by omega⟩,if_pos (by simp;omega),ZS (by omega)]
    unfold ins
    rw [←hp]
    simp [Zad]
  | j+1,m+1,hj,hm,hp=>by
    show ZcO self8 (Zcb self8 v0 out (i:Int) m) v0 out (i:Int) ((j+1:Nat):Int)=_
    have ex:idxL v0 (i:Int)=some x:=by rw [Zy];exact hx
    have hi:=(List.getElem?_eq_some_iff.1 hx).1
    obtain ⟨z,hz⟩:∃z,out[j]?=some z:=⟨_,List.getElem?_eq_getElem (by omega)⟩
    have ez:idxL out (w64 (((j+1:Nat):Int)-1))=some z:=by rw [Zv (by omega) (by omega),show ((j+1:Nat):Int)-1=(j:Int) by omega,Zy];exact hz
    have hpj:Zad x out (j+1)=if z.f_Lo > x.f_Lo then Zad x out j else j+1:=by
      conv=>lhs;unfold Zad
      rw [hz]
    unfold ZcO ZdY
    rw [dt (by omega),zt_,ez,zb_,ex,zb_]
    by_cases hc:z.f_Lo > x.f_Lo
    · rw [if_pos hc] at hpj
      rw [dt hc,zt_,Zv (by omega) (by omega),show ((j+1:Nat):Int)-1=(j:Int) by omega]
      exact Zjx hx h0 ho j m (by omega) (by omega) (by rw [←hpj];exact hp)
    · rw [if_neg hc] at hpj
      rw [df hc,zf_,if_pos ⟨by omega,by omega,by omega⟩,if_pos (by simp;omega),zb_,if_pos (by simp;omega),if_pos ⟨by omega,by omega,by omega⟩,if_pos (by simp;omega),ZS (by omega)]
      unfold ins
      rw [←hp,hpj]
      simp
def Zex:List Zb→List Zb→List Zb
  | out,[]=>out
  | out,x :: l=>Zex (ins x out) l
theorem ZjM:∀(l out:List Zb),List.Perm (Zex out l) (out ++ l)
  | [],out=>by rw [List.append_nil];exact List.Perm.refl _
  | x :: l,out=>by
    refine (ZjM l (ins x out)).trans ?_
    exact ((Zl3 x out).append_right l).trans List.perm_middle.symm
theorem ZjN:∀(l out:List Zb),Rise out→Rise (Zex out l)
  | [],out,h=>h
  | x :: l,out,h=>ZjN l _ (Zph h)
theorem ZeG {k:Nat} {y:List Zb} (hy:y.length≤100000):∀(l acc:List Zb) (p:Zb) (i m:Nat),y.drop i=l→acc.length+1+l.length≤1073741824→l.length<m→i≤y.length→
    Zby k y m (acc ++ [p]) (i:Int)=F190 k (acc ++ mrg p l) ptsR
  | [],acc,p,i,m,hd,ha,hm,hi=>by
    obtain ⟨m,rfl⟩:∃q,m=q+1:=⟨m-1,by simp at hm;omega⟩
    have:=ZV hd
    show ZaX _ _ _ _ _=_
    unfold ZaX
    rw [df (by omega),zf_,Zhm,zb_]
    show _=F190 k (acc ++ [p]) ptsR
    cases F190 k (acc ++ [p]) ptsR <;> rfl
  | r :: l,acc,p,i,m,hd,ha,hm,hi=>by
    obtain ⟨m,rfl⟩:∃q,m=q+1:=⟨m-1,by omega⟩
    obtain ⟨h1,h2,h3⟩:=ZO hd
    rw [List.length_cons] at ha hm
    have hl:(acc ++ [p]).length=acc.length+1:=by simp
    have ew:w64 (((acc ++ [p]).length:Int)-1)=(acc.length:Int):=by rw [hl,Zv (by omega) (by omega)];omega
    have el:idxL (acc ++ [p]) (acc.length:Int)=some p:=by rw [Zy];simp
    have er:idxL y (i:Int)=some r:=by rw [Zy];exact h2
    show ZaX k (Zby k y m) y _ _=_
    unfold ZaX
    rw [dt (by omega),zt_,dt (by omega),zt_,er,zb_,ew,if_pos ⟨by omega,by omega⟩,el,zb_]
    unfold ZdZ Zd0
    rw [ew,er,ZS (by omega)]
    by_cases hc:r.f_Lo≤w64 (p.f_Hi+1)
    · rw [dt hc,zt_,if_pos ⟨by omega,by omega⟩,el,zb_,zb_,if_pos ⟨by omega,by omega⟩,zb_]
      have es:(acc ++ [p]).set (Int.toNat (acc.length:Int)) { p with f_Hi:=mx p.f_Hi r.f_Hi } = acc ++ [{ p with f_Hi:=mx p.f_Hi r.f_Hi }]:=by
        rw [Int.toNat_natCast,List.set_append_right (h:=Nat.le_refl _),Nat.sub_self];rfl
      rw [es,ZeG hy l acc _ (i+1) m h3 (by omega) (by omega) (by omega)]
      conv=>rhs;unfold mrg
      rw [if_pos hc]
    · rw [df hc,zf_,zb_,if_pos (by rw [hl];simp;omega),ZeG hy l (acc ++ [p]) r (i+1) m h3 (by rw [hl];omega) (by omega) (by omega)]
      conv=>rhs;unfold mrg
      rw [if_neg hc,List.append_assoc]
      rfl
theorem ZnO {k m:Nat} {y:List Zb} (hy:y.length≤100000) (hm:y.length<m):Zby k y m [] 0=F190 k (mrgs y) ptsR:=by
  obtain ⟨m,rfl⟩:∃q,m=q+1:=⟨m-1,by omega⟩
  cases y with
  | nil=>
    show ZaX _ _ _ _ _=_
    unfold ZaX
    rw [df (by simp),zf_,Zhm,zb_]
    show _=F190 k [] ptsR
    cases F190 k [] ptsR <;> rfl
  | cons r l=>
    rw [List.length_cons] at hy hm
    show ZaX k (Zby k (r :: l) m) (r :: l) _ _=_
    unfold ZaX
    rw [dt (by simp),zt_,df (by simp),zf_]
    unfold ZdZ Zd0
    rw [zf_,Zc2,zb_,if_pos (by simp)]
    have e1:w64 ((0:Int)+1)=((1:Nat):Int):=by rw [Zv (by omega) (by omega)];rfl
    rw [e1]
    have:=ZeG (k:=k) (y:=r :: l) (by rw [List.length_cons];exact hy) l [] r 1 m rfl (by simp;omega) (by omega) (by simp)
    rw [List.nil_append] at this ⊢
    exact this
theorem Zk3 {k:Nat} {v0:List Zb} (h0:v0.length≤50000) (hk:v0.length+2<k):∀(l out:List Zb) (i m:Nat),v0.drop i=l→out.length+l.length≤v0.length→l.length<m→i≤v0.length→
    ZdI k v0 m out (i:Int)=F190 k (mrgs (Zex out l)) ptsR
  | [],out,i,m,hd,ha,hm,hi=>by
    obtain ⟨m,rfl⟩:∃q,m=q+1:=⟨m-1,by simp at hm;omega⟩
    have:=ZV hd
    show ZdH _ _ _ _ _=_
    unfold ZdH
    rw [df (by omega),zf_]
    rw [List.length_nil] at ha
    exact ZnO (by omega) (by omega)
  | x :: l,out,i,m,hd,ha,hm,hi=>by
    obtain ⟨m,rfl⟩:∃q,m=q+1:=⟨m-1,by omega⟩
    obtain ⟨g1,g2,g3⟩:=ZO hd
    rw [List.length_cons] at ha hm
    show ZdH k (ZdI k v0 m) v0 out (i:Int)=_
    unfold ZdH
    rw [dt (by omega),zt_,Zjx g2 (by omega) (by omega) out.length k (Nat.le_refl _) (by omega) rfl,Zk3 h0 hk l (ins x out) (i+1) m g3 (by rw [(Zl3 x out).length_eq,List.length_cons];omega) (by omega) (by omega)]
    rfl
theorem ZqW {k:Nat} {l:List Zb} (hl:l.length≤50000) (hk:l.length+10≤k) (hb:Bd l):∃l',F174 k l=some l'∧Zb8 l'∧(∀c,inR l' c↔inR l c∧ZI c)∧l'.length≤2*l.length:=by
  have hp:List.Perm (Zex [] l) l:=ZjM l []
  obtain ⟨h1,h2,h3⟩:=Zjs (ZjN l [] trivial) (hb.perm hp)
  have hm:=Zin (Zex [] l)
  have hpl:=hp.length_eq
  obtain ⟨e1,c1,i1,n1⟩:=Zms (k:=k) (a:=mrgs (Zex [] l)) (by omega) (by omega) h1
  have e:F174 k l=F190 k (mrgs (Zex [] l)) ptsR:=Zk3 hl (by omega) l [] 0 k rfl (by simp) (by omega) (Nat.zero_le _)
  exact ⟨_,by rw [e,e1],c1,fun c=>by rw [i1,h2,Zl2 hp],by omega⟩
end Go.Proofs.YthilboheomikjaaGreatDoor
end
section
namespace Go.Proofs.YthilboheomikjaaGreatDoor
open Go.AL Go.Lib
set_option maxRecDepth 100000
def mk16:List UInt8:=[92,46,91,93,40,41,123,125,42,43,63,124,94,36,45,47]
def esc (b:UInt8):Option Int:=if b=100 then some (-1) else if b=110 then some 10 else if b=116 then some 9 else if mk16.contains b then some (b.toNat:Int) else none
def rgv (v:Int):Zb:=if v = -1 then ⟨48,57⟩ else ⟨v,v⟩
theorem Zql:((List.range 256).all fun n=>decide (UInt8.ofNat n=100) || decide (UInt8.ofNat n=110) || decide (UInt8.ofNat n=116) || (if mk16.contains (UInt8.ofNat n) then decide (n≤126) && decide (n≠0) && decide (0≤indexByte mk16 (UInt8.ofNat n)) && (mk16.any fun x=>(x.toNat:Int) == (n:Int)) else decide (indexByte mk16 (UInt8.ofNat n)<0) && !(mk16.any fun x=>(x.toNat:Int) == (n:Int))))=true:=by kernel_rfl
theorem Zcm (b:UInt8):(b=100∧esc b=some (-1))∨(b=110∧esc b=some 10)∨(b=116∧esc b=some 9)∨
    ((b.toNat≠100∧b.toNat≠110∧b.toNat≠116)∧((b.toNat≤126∧b.toNat≠0∧0≤indexByte mk16 b∧(mk16.any fun x=>(x.toNat:Int) == (b.toNat:Int))=true∧esc b=some (b.toNat:Int))∨(indexByte mk16 b<0∧(mk16.any fun x=>(x.toNat:Int) == (b.toNat:Int))=false∧esc b=none))):=by
  by_cases h1:b=100
  · exact .inl ⟨h1,by subst h1;rfl⟩
  by_cases h2:b=110
  · exact .inr (.inl ⟨h2,by subst h2;rfl⟩)
  by_cases h3:b=116
  · exact .inr (.inr (.inl ⟨h3,by subst h3;rfl⟩))
  have h:=List.all_eq_true.1 Zql b.toNat (List.mem_range.2 b.toNat_lt)
  simp only [UInt8.ofNat_toNat] at h
  rw [df h1,df h2,df h3,Bool.false_or,Bool.false_or,Bool.false_or] at h
  have n1:b.toNat≠100:=fun c=>h1 (UInt8.toNat_inj.1 c)
  have n2:b.toNat≠110:=fun c=>h2 (UInt8.toNat_inj.1 c)
  have n3:b.toNat≠116:=fun c=>h3 (UInt8.toNat_inj.1 c)
  refine .inr (.inr (.inr ⟨⟨n1,n2,n3⟩,?_⟩))
  unfold esc
  rw [if_neg h1,if_neg h2,if_neg h3]
  by_cases hc:mk16.contains b=true
  · rw [if_pos hc] at h ⊢
    simp only [Bool.and_eq_true,decide_eq_true_eq] at h
    exact .inl ⟨h.1.1.1,h.1.1.2,h.1.2,h.2,rfl⟩
  · rw [if_neg hc] at h ⊢
    simp only [Bool.and_eq_true,decide_eq_true_eq,Bool.not_eq_true'] at h
    exact .inr ⟨h.1,h.2,rfl⟩
theorem Zqm {b:UInt8} {v:Int} (h:esc b=some v):-1≤v∧v≤126:=by
  rcases Zcm b with ⟨_,e⟩ | ⟨_,e⟩ | ⟨_,e⟩ | ⟨_,⟨h1,_,_,_,e⟩ | ⟨_,_,e⟩⟩
  all_goals (rw [e] at h;first | (obtain rfl:=zj_ h;omega) | cases h)
theorem Zko {l:List UInt8} (hb:¬bad l) (h:128≤(l.getD 0 0).toNat):128≤(decodeL l).1:=by
  unfold bad at hb
  rw [decodeL_N] at hb ⊢
  generalize (l.getD 0 0).toNat=b0 at *;generalize (l.getD 1 0).toNat=b1 at *;generalize (l.getD 2 0).toNat=b2 at *;generalize (l.getD 3 0).toNat=b3 at *
  unfold decodeN at hb ⊢
  repeat' split
  all_goals first | (exfalso;simp_all;done) | (simp only [];omega)
theorem Zoj {k p:Nat} {s:List UInt8} {o:Bool} {b:UInt8} {v:Int} (hs:s.length≤1000000) (h:s[p]?=some b) (he:esc b=some v):F139 k (rd s p o) [92,46,91,93,40,41,123,125,42,43,63,124,94,36,45,47]=some (some ([rgv v],rd s (p+1) o)):=by
  unfold F139 ZeK Zdu F170
  rcases Zcm b with ⟨e0,e⟩ | ⟨e0,e⟩ | ⟨e0,e⟩ | ⟨⟨n1,n2,n3⟩,⟨h1,h2,h3,h4,e⟩ | ⟨_,_,e⟩⟩
  · rw [e] at he;obtain rfl:=zj_ he
    subst e0
    rw [ZcD hs h (by decide)]
    rfl
  · rw [e] at he;obtain rfl:=zj_ he
    subst e0
    rw [ZcD hs h (by decide)]
    rfl
  · rw [e] at he;obtain rfl:=zj_ he
    subst e0
    rw [ZcD hs h (by decide)]
    rfl
  · rw [e] at he;obtain rfl:=zj_ he
    rw [ZcD hs h (by omega)]
    have eu:UInt8.ofNat b.toNat=b:=UInt8.ofNat_toNat
    have ew:(Int.toNat (IntKind.wrap .u8 (b.toNat:Int))).toUInt8=b:=by
      have:IntKind.wrap .u8 (b.toNat:Int)=b.toNat:=by simp [IntKind.wrap,IntKind.bits,IntKind.signed];omega
      rw [this];simp
    simp only [orP,zb_]
    rw [ZE (by omega),zf_,ZE (by omega),zf_,ZE (by omega),zf_,df (by omega),zf_,ew,df (by unfold mk16 at h3;omega),zf_]
    unfold rgv
    rw [if_neg (by omega)]
  · rw [e] at he;cases he
theorem Zoi {k p:Nat} {s:List UInt8} {o:Bool} (hs:s.length≤1000000) (hp:p≤s.length) (h:∀b,s[p]?=some b→esc b=none):F139 k (rd s p o) [92,46,91,93,40,41,123,125,42,43,63,124,94,36,45,47]=some none:=by
  unfold F139 ZeK Zdu F170
  by_cases hl:p<s.length
  · obtain ⟨b,hb⟩:∃b,s[p]?=some b:=⟨_,List.getElem?_eq_getElem hl⟩
    have he:=h b hb
    rcases Zcm b with ⟨e0,e⟩ | ⟨e0,e⟩ | ⟨e0,e⟩ | ⟨⟨n1,n2,n3⟩,⟨h1,h2,h3,h4,e⟩ | ⟨h1,_,e⟩⟩
    · rw [e] at he;cases he
    · rw [e] at he;cases he
    · rw [e] at he;cases he
    · rw [e] at he;cases he
    · by_cases h8:b.toNat<128
      · rw [ZcD hs hb h8]
        have ew:(Int.toNat (IntKind.wrap .u8 (b.toNat:Int))).toUInt8=b:=by
          have:IntKind.wrap .u8 (b.toNat:Int)=b.toNat:=by simp [IntKind.wrap,IntKind.bits,IntKind.signed];omega
          rw [this];simp
        simp only [orP,zb_]
        rw [ZE (by omega),zf_,ZE (by omega),zf_,ZE (by omega),zf_]
        by_cases h9:(b.toNat:Int) > 126
        · rw [dt h9,zt_,zt_]
        · rw [df h9,zf_,ew,dt (by unfold mk16 at h1;omega),zt_]
      · by_cases hbad:bad (s.drop p)
        · rw [Zio hs hl hbad];rfl
        · have hw:=Zko hbad (by rw [Zal hb];simpa using h8)
          rw [Zdm hs hl hbad]
          simp only [orP,zb_]
          rw [ZE (by omega),zf_,ZE (by omega),zf_,ZE (by omega),zf_,dt (by omega),zt_,zt_]
  · obtain rfl:p=s.length:=by omega
    rw [Zip hs]
    rfl
theorem Zh4 {k p:Nat} {s:List UInt8} {b o:Bool} (hk:20≤k) (hs:s.length≤1000000) (h:s[p]?=some 92) :
    (∃c v,s[p+1]?=some c∧esc c=some v∧F173 k (rx s p b o)=some (v,rx s (p+1+1) b o))∨((∀c,s[p+1]?=some c→esc c=none)∧F173 k (rx s p b o)=some (0,rx s (p+1+1) true o)):=by
  have hp:=(List.getElem?_eq_some_iff.1 h).1
  have ep:∀c:Bool,({ rx s (p+1) c o with f_I:=w64 ((rx s (p+1) c o).f_I+1) }:Zf)=rx s (p+1+1) c o:=fun c=>by
    have:w64 (((p+1:Nat):Int)+1)=((p+1+1:Nat):Int):=ZS (by omega)
    show ({ f_S:=s,f_I:=w64 (((p+1:Nat):Int)+1),f_Bad:=c,f_Long:=o }:Zf)=_
    rw [this];rfl
  have ew:w64 ((rx s (p+1) b o).f_I+1)=((p+1+1:Nat):Int):=ZS (by omega)
  unfold F173 Zhx
  rw [ZcW (c:=92) hs h rfl,zb_]
  simp only [Bool.not_true,zf_]
  rw [ZaP,zb_,ep]
  by_cases hl:p+1<s.length
  · obtain ⟨c,hc⟩:∃c,s[p+1]?=some c:=⟨_,List.getElem?_eq_getElem hl⟩
    rw [Za4 hc]
    rcases Zcm c with ⟨e0,e⟩ | ⟨e0,e⟩ | ⟨e0,e⟩ | ⟨⟨n1,n2,n3⟩,⟨h1,h2,h3,h4,e⟩ | ⟨h1,h4,e⟩⟩
    · subst e0;exact .inl ⟨_,_,hc,e,rfl⟩
    · subst e0;exact .inl ⟨_,_,hc,e,rfl⟩
    · subst e0;exact .inl ⟨_,_,hc,e,rfl⟩
    · refine .inl ⟨_,_,hc,e,?_⟩
      unfold mk16 at h4
      rw [ZE (by omega),zf_,ZE (by omega),zf_,ZE (by omega),zf_,show ((c.toNat:Int) != 0)=true by simp;omega,zt_,ZbC (by simp) (by simp;omega),zb_,h4,zt_,Zv (by omega) (by omega)]
    · refine .inr ⟨fun c' hc'=>by rw [hc] at hc';obtain rfl:=zj_ hc';exact e,?_⟩
      unfold mk16 at h4
      rw [ZE (by omega),zf_,ZE (by omega),zf_,ZE (by omega),zf_]
      cases (c.toNat:Int) != 0
      · simp only [zf_]
        rw [ew];rfl
      · rw [zt_,ZbC (by simp) (by simp;omega),zb_,h4,zf_,ew];rfl
  · rw [ZfH (by omega)]
    refine .inr ⟨(fun c hc=>by rw [List.getElem?_eq_none (by omega)] at hc;cases hc),?_⟩
    simp only [show ((0:Int) == 100)=false from rfl,show ((0:Int) == 110)=false from rfl,show ((0:Int) == 116)=false from rfl,show ((0:Int) != 0)=false from rfl,zf_]
    rw [ew];rfl
theorem ZmJ {k q:Nat} {s:List UInt8} {o:Bool} (hk:20≤k) (hs:s.length≤1000000) (hq:q≤s.length+1):∃v r,F173 k (rx s q true o)=some (v,r)∧BadR s r:=by
  by_cases h:s[q]?=some 92
  · have hp:=(List.getElem?_eq_some_iff.1 h).1
    rcases Zh4 (b:=true) (o:=o) hk hs h with ⟨c,v,_,_,e⟩ | ⟨_,e⟩
    · exact ⟨_,_,e,_,o,rfl,by omega⟩
    · exact ⟨_,_,e,_,o,rfl,by omega⟩
  · obtain ⟨v,r,e,hr⟩:=ZjF (k:=k) (o:=o) (by omega) hs hq
    have j1:Zcj k (rx s q true o)=some (v,r):=by unfold Zcj;rw [e];rfl
    refine ⟨v,r,?_,hr⟩
    unfold F173 ZbO
    rw [ZaK fun x hx hc=>h (by rw [hx];congr 1;exact UInt8.toNat_inj.1 (by show x.toNat=92;omega)),zb_]
    simp only [Bool.not_false,zt_]
    have eb:({ rx s q true o with f_Bad:=true }:Zf)=rx s q true o:=rfl
    rw [eb]
    cases decide ((rx s q true o).f_I<((rx s q true o).f_S.length:Int))
    · rw [zf_,zf_];exact j1
    · rw [zt_,ZaP,zb_,ZbC (by simp) (by simp;omega),zb_]
      cases (([93,91,94,45]:List UInt8).any fun x=>(x.toNat:Int) == pk s q)
      · rw [zf_];exact j1
      · rw [zt_];exact j1
theorem ZpO {b:UInt8} (h:128≤b.toNat):(([93,91,94,45]:List UInt8).any fun x=>(x.toNat:Int) == (b.toNat:Int))=false∧(([93,91,40,41,123,125,42,43,63,124,94,36]:List UInt8).any fun x=>(x.toNat:Int) == (b.toNat:Int))=false:=by
  simp;omega
theorem Zet {k k' p:Nat} {s:List UInt8} {o o':Bool} (hk:20≤k) (hk':20≤k') (hs:s.length≤1000000) (hp:p≤s.length) :
    (F169 k (rd s p o)=some none∧∃v r,F173 k' (rx s p false o')=some (v,r)∧BadR s r)∨
    (∃(v:Int) (p':Nat),-1≤v∧v≤1114111∧F97 k (rd s p o) [92,100]=some (decide (v = -1))∧F169 k (rd s p o)=some (some ([rgv v],rd s p' o))∧F173 k' (rx s p false o')=some (v,rx s p' false o')∧p<p'∧p'≤s.length):=by
  by_cases h:s[p]?=some 92
  · have hp1:=(List.getElem?_eq_some_iff.1 h).1
    have e9:F169 k (rd s p o)=(orP (F139 k (rd s (p+1) o) ([92,46,91,93,40,41,123,125,42,43,63,124,94,36,45,47]:List UInt8)) fun y103=>(some (some (y103.1,y103.2)))):=by
      unfold F169
      rw [ZcZ hs h];rfl
    rw [e9]
    rcases Zh4 (k:=k') (b:=false) (o:=o') hk' hs h with ⟨c,v,hc,he,e⟩ | ⟨hc,e⟩
    · have hr:=Zqm he
      rw [Zoj hs hc he]
      refine .inr ⟨v,p+1+1,by omega,by omega,?_,rfl,e,by omega,by have:=(List.getElem?_eq_some_iff.1 hc).1;omega⟩
      rw [Zf0 (by omega),Zal h,Zal hc]
      congr 1
      simp only [List.isPrefixOf,Bool.and_true,beq_self_eq_true,Bool.true_and]
      rcases Zcm c with ⟨e0,e1⟩ | ⟨e0,e1⟩ | ⟨e0,e1⟩ | ⟨⟨n1,n2,n3⟩,⟨h1,h2,h3,h4,e1⟩ | ⟨_,_,e1⟩⟩
      · rw [e1] at he;obtain rfl:=zj_ he;subst e0;rfl
      · rw [e1] at he;obtain rfl:=zj_ he;subst e0;rfl
      · rw [e1] at he;obtain rfl:=zj_ he;subst e0;rfl
      · rw [e1] at he;obtain rfl:=zj_ he
        have:((100:UInt8) == c)=false:=by
          simp only [beq_eq_false_iff_ne];intro c2;apply n1;rw [←c2];rfl
        rw [this,df (by omega)]
      · rw [e1] at he;cases he
    · rw [Zoi hs (by omega) hc]
      exact .inl ⟨rfl,_,_,e,_,o',rfl,by omega⟩
  · have e9:F169 k (rd s p o)=(orP (F140 k (rd s p o)) fun y104=>(F141 k ([92,91,93,94,45]:List UInt8) (IntKind.wrap .i32 y104.1)).bind fun y105=>(cond y105 (some none) (((some (some (([(⟨y104.1,y104.1⟩:Zb)]:List Zb),y104.2))))))):=by
      unfold F169
      rw [ZcY hp h];rfl
    have er:F173 k' (rx s p false o')=cond (decide (p<s.length)) ((F146 k' ([93,91,94,45]:List UInt8) (pk s p)).bind fun y105=>ZbO k' (false,rx s p false o') y105) (ZbO k' (false,rx s p false o') false):=by
      unfold F173
      rw [ZaK fun x hx hc=>h (by rw [hx];congr 1;exact UInt8.toNat_inj.1 (by show x.toNat=92;omega)),zb_]
      simp only [Bool.not_false,zt_]
      rw [ZaP,zb_]
      congr 1
      exact decide_eq_decide.2 (by show (p:Int)<(s.length:Int)↔_;omega)
    rw [e9,er]
    by_cases hl:p<s.length
    · obtain ⟨b,hb⟩:∃b,s[p]?=some b:=⟨_,List.getElem?_eq_getElem hl⟩
      rw [dt hl,zt_,ZbC (by simp) (by simp;omega),zb_,Za4 hb]
      unfold ZbO Zcj
      simp only
      by_cases hbad:bad (s.drop p)
      · rw [Zio hs hl hbad]
        refine .inl ⟨rfl,?_⟩
        cases (([93,91,94,45]:List UInt8).any fun x=>(x.toNat:Int) == (b.toNat:Int))
        · rw [zf_,ZcF (by omega) hs hl hbad]
          exact ⟨_,_,rfl,p,o',rfl,by omega⟩
        · have eb:({ rx s p false o' with f_Bad:=true }:Zf)=rx s p true o':=rfl
          rw [zt_,eb,ZcF (by omega) hs hl hbad]
          exact ⟨_,_,rfl,p,o',rfl,by omega⟩
      · have hne:s.drop p≠[]:=fun c=>by have:=List.drop_eq_nil_iff.1 c;omega
        have hw:=decodeL_width (s.drop p)
        have hle:=decodeL_le _ hne
        rw [List.length_drop] at hle
        have hpt:=Zmg hbad
        rw [Zdm hs hl hbad]
        simp only [orP,zb_]
        have okk:F141 k [92,91,93,94,45] (IntKind.wrap .i32 ((decodeL (s.drop p)).1:Int))=some (([93,91,94,45]:List UInt8).any fun x=>(x.toNat:Int) == (b.toNat:Int)):=by
          by_cases h8:b.toNat<128
          · obtain ⟨a1,a2⟩:=Zdk (l:=s.drop (p+1)) h8
            rw [←Zal hb] at a1
            rw [a1,Zfy h8]
            have hb92:b≠92:=fun c=>h (by rw [hb,c])
            have key:((List.range 256).all fun n=>decide (UInt8.ofNat n=92) || (decide (0≤indexByte [92,91,93,94,45] (UInt8.ofNat n)) == (([93,91,94,45]:List UInt8).any fun x=>(x.toNat:Int) == (n:Int))))=true:=by kernel_rfl
            have:=List.all_eq_true.1 key b.toNat (List.mem_range.2 b.toNat_lt)
            simp only [UInt8.ofNat_toNat] at this
            rw [df hb92,Bool.false_or,beq_iff_eq] at this
            rw [this]
          · have hw2:=Zko hbad (by rw [Zal hb];simpa using h8)
            rw [Zgg (by omega) (by decide) (by simp) (by simp) hpt (by omega),(ZpO (by omega)).1]
        rw [okk,zb_]
        cases hany:(([93,91,94,45]:List UInt8).any fun x=>(x.toNat:Int) == (b.toNat:Int))
        · rw [zf_,zf_,Zbq (by omega) hs hl hbad]
          refine .inr ⟨((decodeL (s.drop p)).1:Int),p+(decodeL (s.drop p)).2,by omega,hpt.2.1,?_,?_,rfl,by omega,by omega⟩
          · rw [Zq6 hp h,df (by omega)]
          · unfold rgv;rw [if_neg (by omega)]
        · have eb:({ rx s p false o' with f_Bad:=true }:Zf)=rx s p true o':=rfl
          rw [zt_,zt_,eb,Zbq (by omega) hs hl hbad]
          exact .inl ⟨rfl,_,_,rfl,_,o',rfl,by omega⟩
    · obtain rfl:p=s.length:=by omega
      rw [Zip hs,df hl,zf_]
      unfold ZbO Zcj
      simp only
      rw [zf_,Zge (Nat.le_refl _)]
      exact .inl ⟨rfl,_,_,rfl,s.length,o',rfl,by omega⟩
end Go.Proofs.YthilboheomikjaaGreatDoor
end
section
namespace Go.Proofs.YthilboheomikjaaGreatDoor
open Go.AL Go.Lib
set_option maxRecDepth 100000
theorem Zqh {k k' q:Nat} {s:List UInt8} {o neg:Bool} {R:Zl} {R':Zf} {self5:Zl→List Zb→Bool→Option (Option (Zd×Zl))} {acc:List Zb} (hb:Bd acc) (hl:acc.length≤401) (hk:5000≤k) (hk':5000≤k') :
    ∃l,Zbj k self5 (neg,R) acc (rd s q o) false=some (some (⟨1,l,[],0,0⟩,rd s q o))∧ZcJ k' (neg,R') (rx s q false o) acc=some (⟨1,l,[],0,0⟩,rx s q false o)∧l.length≤4*acc.length+2:=by
  obtain ⟨l1,e1,a1,i1,b1,n1⟩:=Zkc (k:=k) (l:=acc) (by omega) (by omega) hb
  obtain ⟨l2,e2,c2,i2,n2⟩:=Zka (k:=k) (a:=l1) (by omega) (by omega)
  obtain ⟨m2,f2,d2,j2,q2⟩:=ZqW (k:=k') (l:=acc) (by omega) (by omega) hb
  have h2:m2=l2:=Zia d2 c2 fun c=>by rw [j2,i2,i1]
  subst h2
  have hnb:(rx s q false o).f_Bad=false:=rfl
  unfold Zbj ZcJ Zhn Zhi
  rw [zf_,e1,zb_,ZiX,zb_,e2,zb_,hnb,zf_,f2,zb_]
  cases neg
  · exact ⟨m2,rfl,rfl,by omega⟩
  · obtain ⟨l3,e3,c3,i4,n3⟩:=Zq9 (k:=k) (l:=m2) (by omega) (by omega) c2.bd c2.1
    obtain ⟨m3,f3,d3,j3⟩:=ZqB (k:=k') (l:=m2) (by omega) (by omega) c2.bd c2.1
    have h3:m3=l3:=Zia d3 c3 fun c=>by rw [j3,i4]
    subst h3
    simp only [zt_]
    rw [e3,f3]
    exact ⟨m3,rfl,rfl,by omega⟩
theorem ZlN {k q:Nat} {s:List UInt8} {o:Bool} {y:Bool×Zf} {acc:List Zb}:ZcJ k y (rx s q true o) acc=some (⟨0,[],[],0,0⟩,rx s q true o):=by
  unfold ZcJ
  rfl
theorem Zcd {k m:Nat} {s:List UInt8} {r:Zf} {y:Bool×Zf} {acc:List Zb} (hs:s.length≤1000000) (hr:BadR s r):∃x r',Zbk k (ZaE k y (m+1)) y r acc=some (x,r')∧BadR s r':=by
  obtain ⟨q,o,rfl,hq⟩:=hr
  obtain ⟨t,q2,e,h⟩:=Za5 k (q:=q) (b:=true) (o:=o) 93 hs
  unfold Zbk
  rw [e,zb_]
  cases t
  · simp only [zf_]
    show ∃x r',ZbJ k (ZaE k y m) y (rx s q2 true o) acc=_∧_
    unfold ZbJ
    rw [show (!(rx s q2 true o).f_Bad)=false from rfl,zf_,ZlN]
    exact ⟨_,_,rfl,q2,o,rfl,by omega⟩
  · simp only [zt_]
    rw [ZlN]
    exact ⟨_,_,rfl,q2,o,rfl,by omega⟩
def clsT (k:Nat) (self4:Zf→List Zb→Option (Zd×Zf)) (y101:Bool×Zf) (v138:List Zb) (y141:Int×Zf):Option (Zd×Zf):=
  cond (y141.1 == (-1)) (if v138.length+([(⟨48,57⟩:Zb)]:List Zb).length≤1073741824 then (Zbk k self4 y101 y141.2 (v138 ++ ([(⟨48,57⟩:Zb)]:List Zb))) else none) ((F74 k y141.2 45).bind fun y144=>(cond y144.1 ((F173 k y144.2).bind fun y146=>((cond (decide (y146.1<y141.1)) ((ZbK k self4 y101 v138 y141 ({ y146.2 with f_Bad:=true }:Zf) y146.1)) ((ZbK k self4 y101 v138 y141 y146.2 y146.1))))) ((ZbK k self4 y101 v138 y141 y144.2 y141.1))))
theorem ZnA {k q:Nat} {s:List UInt8} {o:Bool} {self4:Zf→List Zb→Option (Zd×Zf)} {y:Bool×Zf} {acc:List Zb}:ZbJ k self4 y (rx s q false o) acc=(F173 k (rx s q false o)).bind fun y141=>clsT k self4 y acc y141:=rfl
theorem Zes {k:Nat} {self4:Zf→List Zb→Option (Zd×Zf)} {y:Bool×Zf} {acc:List Zb} {z:Int×Zf} {r:Zf} {v:Int} (ha:acc.length≤1000000):ZbK k self4 y acc z r v=Zbk k self4 y r (acc ++ [⟨z.1,v⟩]):=by
  unfold ZbK
  rw [if_pos (by simp;omega)]
theorem Zid {k m:Nat} {s:List UInt8} {r:Zf} {v:Int} {y:Bool×Zf} {acc:List Zb} (hk:20≤k) (hs:s.length≤1000000) (ha:acc.length≤1000000) (hr:BadR s r):∃x r',clsT k (ZaE k y (m+1)) y acc (v,r)=some (x,r')∧BadR s r':=by
  unfold clsT
  simp only
  cases v == -1
  · rw [zf_]
    obtain ⟨q,o,rfl,hq⟩:=hr
    obtain ⟨t,q2,e,h⟩:=Za5 k (q:=q) (b:=true) (o:=o) 45 hs
    rw [e,zb_]
    cases t
    · simp only [zf_]
      rw [Zes ha]
      exact Zcd hs ⟨q2,o,rfl,by omega⟩
    · simp only [zt_]
      obtain ⟨w,r2,e2,h2⟩:=ZmJ (k:=k) (q:=q2) (o:=o) hk hs (by omega)
      rw [e2,zb_,Zes ha,Zes ha]
      simp only
      cases decide (w<v)
      · exact Zcd hs h2
      · obtain ⟨q3,o3,rfl,h3⟩:=h2
        exact Zcd hs ⟨q3,o3,rfl,h3⟩
  · rw [zt_,if_pos (by simp;omega)]
    exact Zcd hs hr
theorem Zmp {acc:List Zb} {v w:Int} (hb:Bd acc) (h0:0≤v) (h1:v≤w) (h2:w≤1114111):Bd (acc ++ [⟨v,w⟩]):=fun r hr=>by
  rcases List.mem_append.1 hr with hr | hr
  · exact hb r hr
  · simp at hr;subst hr;exact ⟨h0,h1,h2⟩
def LSc (s:List UInt8) (p:Nat) (o:Bool) (n:Nat) (P:Option (Option (Zd×Zl))) (R:Option (Zd×Zf)):Prop:=
  (P=some none∧∃x r,R=some (x,r)∧BadR s r)∨∃(l:List Zb) (p':Nat),P=some (some (⟨1,l,[],0,0⟩,rd s p' o))∧R=some (⟨1,l,[],0,0⟩,rx s p' false o)∧p<p'∧p'≤s.length∧l.length≤4*(n+(p'-p))+2
theorem ZnE {k k':Nat} {s:List UInt8} {o neg:Bool} {R:Zl} {R':Zf} (hk:5000≤k) (hk':5000≤k') (hs:s.length≤400):∀(d p m m':Nat) (acc:List Zb),s.length-p≤d→p≤s.length→d<m→d+1<m'→acc.length≤p→Bd acc→
    LSc s p o acc.length (Zbj k (Zaf k (neg,R) m) (neg,R) acc (rd s p o) true) (ZbJ k' (ZaE k' (neg,R') m') (neg,R') (rx s p false o) acc):=by
  intro d
  induction d with
  | zero=>
    intro p m m' acc hd hp hm hm' ha hb
    obtain rfl:p=s.length:=by omega
    rw [ZnA]
    rcases Zet (k:=k) (k':=k') (o:=o) (o':=o) (by omega) (by omega) (by omega) hp with ⟨e1,v,r,e2,hr⟩ | ⟨v,p',_,_,_,_,_,h1,h2⟩
    · obtain ⟨m',rfl⟩:∃q,m'=q+1:=⟨m'-1,by omega⟩
      refine .inl ⟨?_,?_⟩
      · unfold Zbj
        rw [zt_,Zf0 hp,zb_,e1];rfl
      · rw [e2,zb_]
        exact Zid (by omega) (by omega) (by omega) hr
    · omega
  | succ d ih=>
    intro p m m' acc hd hp hm hm' ha hb
    obtain ⟨m,rfl⟩:∃q,m=q+1:=⟨m-1,by omega⟩
    obtain ⟨m',rfl⟩:∃q,m'=q+1:=⟨m'-1,by omega⟩
    rw [ZnA]
    have after:∀(p2:Nat) (acc2:List Zb),p<p2→p2≤s.length→acc2.length=acc.length+1→Bd acc2→LSc s p o acc.length (Zaf k (neg,R) (m+1) (rd s p2 o) acc2 false) (Zbk k' (ZaE k' (neg,R') (m'+1)) (neg,R') (rx s p2 false o) acc2):=fun p2 acc2 h1 h2 h3 hb2=>by
      show LSc s p o acc.length (Zds k (Zaf k (neg,R) m) (neg,R) (rd s p2 o) acc2 false) _
      unfold Zds Zbk
      rw [zf_]
      rcases Zaq (k:=k) (k':=k') (o:=o) (o':=o) 93 (by omega) h2 with ⟨_,f1,f2,f3⟩ | ⟨_,f1,f2⟩
      · have f2':F74 k' (rx s p2 false o) 93=_:=f2
        rw [f1,f2',zb_,zb_]
        simp only [Bool.not_true,zt_]
        obtain ⟨l,e1,e2,hl⟩:=Zqh (k:=k) (k':=k') (q:=p2+1) (s:=s) (o:=o) (neg:=neg) (R:=R) (R':=R') (self5:=Zaf k (neg,R) m) hb2 (by omega) hk hk'
        exact .inr ⟨l,p2+1,e1,e2,by omega,f3,by omega⟩
      · have f2':F74 k' (rx s p2 false o) 93=_:=f2
        rw [f1,f2',zb_,zb_]
        simp only [Bool.not_false,zf_]
        show LSc s p o acc.length _ (ZbJ k' (ZaE k' (neg,R') m') (neg,R') (rx s p2 false o) acc2)
        rcases ih p2 m m' acc2 (by omega) h2 (by omega) (by omega) (by omega) hb2 with h | ⟨l,p',e1,e2,g1,g2,g3⟩
        · exact .inl h
        · exact .inr ⟨l,p',e1,e2,by omega,g2,by omega⟩
    rcases Zet (k:=k) (k':=k') (o:=o) (o':=o) (by omega) (by omega) (by omega) hp with ⟨e1,v,r,e2,hr⟩ | ⟨v,p1,v0,v1,d1,e1,e2,h1,h2⟩
    · refine .inl ⟨?_,?_⟩
      · unfold Zbj
        rw [zt_,Zf0 hp,zb_,e1];rfl
      · rw [e2,zb_]
        exact Zid (by omega) (by omega) (by omega) hr
    · have eP:Zbj k (Zaf k (neg,R) (m+1)) (neg,R) acc (rd s p o) true=(F71 k (rd s p1 o) ([45]:List UInt8)).bind fun y163=>(cond y163.1 ((F97 k y163.2 ([92,100]:List UInt8)).bind fun y165=>(orP (F169 k y163.2) fun y166=>(cond (decide (v = -1)) ((Zce (Zaf k (neg,R) (m+1)) acc ([rgv v],rd s p1 o) y166 true)) (cond y165 ((Zce (Zaf k (neg,R) (m+1)) acc ([rgv v],rd s p1 o) y166 true)) ((idxL y166.1 0).bind fun y169=>if (0:Int)≤0∧0<(([rgv v]:List Zb).length:Int) then (idxL [rgv v] 0).bind fun y171=>(Zce (Zaf k (neg,R) (m+1)) acc ([rgv v],rd s p1 o) y166 (decide (y169.f_Lo<y171.f_Lo))) else none))))) ((Zdt (Zaf k (neg,R) (m+1)) acc y163.2 [rgv v]))):=by
        unfold Zbj
        rw [zt_,d1,zb_,e1]
        simp only [orP,zb_]
      have e8:∀(rdr:Zl) (x:Zb),Zdt (Zaf k (neg,R) (m+1)) acc rdr [x]=Zaf k (neg,R) (m+1) rdr (acc ++ [x]) false:=fun rdr x=>by
        unfold Zdt
        rw [if_pos (by simp;omega)]
      rw [eP,e2,zb_]
      unfold clsT
      simp only
      rcases Zaq (k:=k) (k':=k') (o:=o) (o':=o) 45 (by omega) h2 with ⟨g0,f1,f2,f3⟩ | ⟨g0,f1,f2⟩
      ·
        rw [f1,zb_]
        simp only [zt_]
        by_cases hv:v = -1
        ·
          rw [ZX hv,zt_,if_pos (by simp;omega),dt hv]
          refine .inl ⟨?_,?_⟩
          · rw [Zf0 f3,zb_]
            rcases Zet (k:=k) (k':=k') (o:=o) (o':=o) (by omega) (by omega) (by omega) f3 with ⟨e3,_⟩ | ⟨w,p2,_,_,_,e3,_⟩
            · rw [e3];rfl
            · rw [e3];rfl
          · unfold Zbk
            have n93:F74 k' (rx s p1 false o) 93=some (false,rx s p1 false o):=ZaK fun x hx hc=>by
              rw [g0] at hx
              obtain rfl:=zj_ hx
              exact absurd hc (by decide)
            rw [n93,zb_]
            simp only [zf_]
            show ∃x r,ZbJ k' (ZaE k' (neg,R') m') (neg,R') (rx s p1 false o) _=_∧_
            rw [ZnA]
            have h3:∃v r,F173 k' (rx s p1 false o)=some (v,r)∧BadR s r:=by
              obtain ⟨a1,a2⟩:=Zdk (l:=s.drop (p1+1)) (show (45:UInt8).toNat<128 by decide)
              rw [←Zal g0] at a1 a2
              unfold F173 ZbO Zcj
              rw [ZaK fun x hx hc=>by
                rw [g0] at hx
                obtain rfl:=zj_ hx
                exact absurd hc (by decide),zb_]
              simp only [Bool.not_false,zt_]
              have hlt:decide ((rx s p1 false o).f_I<((rx s p1 false o).f_S.length:Int))=true:=dt (by show (p1:Int)<_;have:(rx s p1 false o).f_S.length=s.length:=rfl;omega)
              have eb:({ rx s p1 false o with f_Bad:=true }:Zf)=rx s p1 true o:=rfl
              rw [hlt,zt_,ZaP,zb_,Za4 g0,ZbC (by simp) (by simp;omega),zb_,show (([93,91,94,45]:List UInt8).any fun x=>(x.toNat:Int) == ((45:UInt8).toNat:Int))=true from rfl,zt_,eb,Zbq (by omega) (by omega) (by omega) a2,a1]
              exact ⟨_,_,rfl,_,o,rfl,by omega⟩
            obtain ⟨v',r,e3,hr⟩:=h3
            obtain ⟨m',rfl⟩:∃q,m'=q+1:=⟨m'-1,by omega⟩
            rw [e3,zb_]
            exact Zid (by omega) (by omega) (by simp;omega) hr
        · have f2':F74 k' (rx s p1 false o) 45=_:=f2
          rw [ZE hv,zf_,f2',zb_,df hv]
          simp only [zt_]
          rcases Zet (k:=k) (k':=k') (o:=o) (o':=o) (by omega) (by omega) (by omega) f3 with ⟨e3,w,r,e4,hr⟩ | ⟨w,p2,w0,w1,d2,e3,e4,h3,h4⟩
          · rw [Zf0 f3,zb_,e3,e4,zb_,Zes (by omega),Zes (by omega)]
            refine .inl ⟨rfl,?_⟩
            simp only
            cases decide (w<v)
            · exact Zcd (by omega) hr
            · obtain ⟨q3,o3,rfl,h3⟩:=hr
              exact Zcd (by omega) ⟨q3,o3,rfl,h3⟩
          · rw [d2,zb_,e3,e4,zb_,Zes (by omega),Zes (by omega)]
            simp only [orP,zb_]
            have hrv:rgv v=⟨v,v⟩:=by unfold rgv;rw [if_neg hv]
            by_cases hw:w<v
            · rw [dt hw,zt_]
              refine .inl ⟨?_,Zcd (by omega) ⟨p2,o,rfl,by omega⟩⟩
              rw [zf_]
              by_cases hw1:w = -1
              · rw [dt hw1,zt_];rfl
              · have hrw:rgv w=⟨w,w⟩:=by unfold rgv;rw [if_neg hw1]
                rw [df hw1,zf_,Zc2,zb_,if_pos ⟨by omega,by simp⟩,Zc2,zb_,hrv,hrw,dt hw]
                rfl
            · have hw1:w≠-1:=by omega
              have hrw:rgv w=⟨w,w⟩:=by unfold rgv;rw [if_neg hw1]
              rw [df hw,zf_,zf_,df hw1,zf_,Zc2,zb_,if_pos ⟨by omega,by simp⟩,Zc2,zb_,hrv,hrw,df hw]
              unfold Zce
              rw [zf_,Zc2,zb_,if_pos ⟨by omega,by simp⟩,Zc2,zb_]
              have es:([⟨v,v⟩]:List Zb).set (Int.toNat 0) { (⟨v,v⟩:Zb) with f_Hi:=(⟨w,w⟩:Zb).f_Lo } = [⟨v,w⟩]:=rfl
              simp only
              rw [es,e8]
              exact after p2 _ (by omega) h4 (by simp) (Zmp hb (by omega) (by omega) w1)
      ·
        rw [f1,zb_]
        simp only [zf_]
        rw [e8]
        by_cases hv:v = -1
        · have hrv:rgv v=⟨48,57⟩:=by unfold rgv;rw [if_pos hv]
          rw [ZX hv,zt_,if_pos (by simp;omega),hrv]
          exact after p1 _ h1 h2 (by simp) (Zmp hb (by omega) (by omega) (by omega))
        · have f2':F74 k' (rx s p1 false o) 45=_:=f2
          have hrv:rgv v=⟨v,v⟩:=by unfold rgv;rw [if_neg hv]
          rw [ZE hv,zf_,f2',zb_,hrv]
          simp only [zf_]
          rw [Zes (by omega)]
          exact after p1 _ h1 h2 (by simp) (Zmp hb (by omega) (by omega) v1)
theorem Zpb {k k' p:Nat} {s:List UInt8} {o:Bool} (hk:5000≤k) (hk':5000≤k') (hs:s.length≤400) (hp:p≤s.length):LSc s p o 0 (F138 k (rd s p o)) (F144 k' (rx s p false o)):=by
  unfold F138 F144
  obtain ⟨m,rfl⟩:∃q,k=q+1:=⟨k-1,by omega⟩
  obtain ⟨m',rfl⟩:∃q,k'=q+1:=⟨k'-1,by omega⟩
  have go:∀(q:Nat) (neg:Bool) (R:Zl) (R':Zf),p≤q→q≤s.length→LSc s p o 0 (Zaf (m+1) (neg,R) (m+1) (rd s q o) [] true) (ZaE (m'+1) (neg,R') (m'+1) (rx s q false o) []):=fun q neg R R' h1 h2=>by
    show LSc s p o 0 (Zds (m+1) (Zaf (m+1) (neg,R) m) (neg,R) (rd s q o) [] true) (ZbJ (m'+1) (ZaE (m'+1) (neg,R') m') (neg,R') (rx s q false o) [])
    unfold Zds
    rw [zt_]
    rcases ZnE (neg:=neg) (R:=R) (R':=R') (o:=o) hk hk' hs (s.length-q) q m m' [] (Nat.le_refl _) h2 (by omega) (by omega) (Nat.zero_le _) (fun r hr=>by cases hr) with h | ⟨l,p',e1,e2,g1,g2,g3⟩
    · exact .inl h
    · simp only [List.length_nil] at g3
      exact .inr ⟨l,p',e1,e2,by omega,g2,by omega⟩
  rcases Zaq (k:=m+1) (k':=m'+1) (o:=o) (o':=o) 94 (by omega) hp with ⟨_,f1,f2,f3⟩ | ⟨_,f1,f2⟩
  · have f2':F74 (m'+1) (rx s p false o) 94=_:=f2
    rw [f1,f2',zb_,zb_]
    exact go (p+1) true _ _ (by omega) f3
  · have f2':F74 (m'+1) (rx s p false o) 94=_:=f2
    rw [f1,f2',zb_,zb_]
    exact go p false _ _ (Nat.le_refl _) hp
end Go.Proofs.YthilboheomikjaaGreatDoor
end
section
namespace Go.Proofs.YthilboheomikjaaGreatDoor
open Go.AL Go.Lib
set_option maxRecDepth 100000
def LSr (s:List UInt8) (p lo:Nat) (P:Option (Option (Zd×Zl))) (R:Option (Zd×Zf)):Prop:=
  (P=some none∧∃x r,R=some (x,r)∧BadR s r)∨∃(a:Zd) (p':Nat) (o':Bool),P=some (some (a,rd s p' o'))∧R=some (a,rx s p' false o')∧p+lo≤p'∧p'≤s.length∧fs a≤20*(p'-p)+100
def Zlh (k:Nat) (y114:Bool×Zf):Option (Zd×Zf):=
  (F100 k y114.2).bind fun y116=>cond (y116 == 100) (some ((⟨1,([(⟨48,57⟩:Zb)]:List Zb),([]:List Zd),0,0⟩:Zd),({ y114.2 with f_I:=(w64 (y114.2.f_I+1)) }:Zf))) (cond (y116 == 110) ((F145 k 10).bind fun y119=>(some (y119,({ y114.2 with f_I:=(w64 (y114.2.f_I+1)) }:Zf))))
    (cond (y116 == 116) ((F145 k 9).bind fun y121=>(some (y121,({ y114.2 with f_I:=(w64 (y114.2.f_I+1)) }:Zf)))) (cond (y116 != 0) ((F146 k ([92,46,91,93,40,41,123,125,42,43,63,124,94,36,45,47]:List UInt8) y116).bind fun y123=>(Zdq k y114 y116 y123)) (Zdq k y114 y116 false))))
theorem Zq7 {k q:Nat} {s:List UInt8} {o:Bool} (hk:5≤k) (hs:s.length≤1000000) (hq:q≤s.length+1):∃x r,ZbH k (rx s q true o)=some (x,r)∧BadR s r:=by
  obtain ⟨c,r,e,hr⟩:=ZjF (k:=k) (o:=o) hk hs hq
  unfold ZbH
  rw [e]
  exact ⟨_,_,rfl,hr⟩
theorem Zo7 {k q:Nat} {s:List UInt8} {o:Bool} (hk:20≤k) (hs:s.length≤1000000) (hq:q≤s.length) :
    (∃c v,s[q]?=some c∧esc c=some v∧Zlh k (true,rx s q false o)=some (⟨1,[rgv v],[],0,0⟩,rx s (q+1) false o))∨((∀c,s[q]?=some c→esc c=none)∧∃x r,Zlh k (true,rx s q false o)=some (x,r)∧BadR s r):=by
  have ew:w64 ((rx s q false o).f_I+1)=((q+1:Nat):Int):=ZS (by omega)
  have ep:({ rx s q false o with f_I:=w64 ((rx s q false o).f_I+1) }:Zf)=rx s (q+1) false o:=by rw [ew];rfl
  have eb:({ ({ rx s q false o with f_I:=w64 ((rx s q false o).f_I+1) }:Zf) with f_Bad:=true }:Zf)=rx s (q+1) true o:=by rw [ew];rfl
  unfold Zlh Zdq
  simp only
  rw [ZaP,zb_]
  have hbad:∃x r,ZbH k (rx s (q+1) true o)=some (x,r)∧BadR s r:=Zq7 (by omega) hs (by omega)
  by_cases hl:q<s.length
  · obtain ⟨c,hc⟩:∃c,s[q]?=some c:=⟨_,List.getElem?_eq_getElem hl⟩
    rw [Za4 hc]
    rcases Zcm c with ⟨e0,e⟩ | ⟨e0,e⟩ | ⟨e0,e⟩ | ⟨⟨n1,n2,n3⟩,⟨h1,h2,h3,h4,e⟩ | ⟨h1,h4,e⟩⟩
    · subst e0
      refine .inl ⟨_,_,hc,e,?_⟩
      show some (_,({ rx s q false o with f_I:=w64 ((rx s q false o).f_I+1) }:Zf))=_
      rw [ep];rfl
    · subst e0
      refine .inl ⟨_,_,hc,e,?_⟩
      show some (_,({ rx s q false o with f_I:=w64 ((rx s q false o).f_I+1) }:Zf))=_
      rw [ep];rfl
    · subst e0
      refine .inl ⟨_,_,hc,e,?_⟩
      show some (_,({ rx s q false o with f_I:=w64 ((rx s q false o).f_I+1) }:Zf))=_
      rw [ep];rfl
    · refine .inl ⟨_,_,hc,e,?_⟩
      unfold mk16 at h4
      rw [ZE (by omega),zf_,ZE (by omega),zf_,ZE (by omega),zf_,show ((c.toNat:Int) != 0)=true by simp;omega,zt_,ZbC (by simp) (by simp;omega),zb_,h4,zt_,Zv (x:=(c.toNat:Int)) (by omega) (by omega)]
      have er:rgv (c.toNat:Int)=⟨(c.toNat:Int),(c.toNat:Int)⟩:=by unfold rgv;rw [if_neg (by omega)]
      rw [er,ep];rfl
    · refine .inr ⟨fun c' hc'=>by rw [hc] at hc';obtain rfl:=zj_ hc';exact e,?_⟩
      unfold mk16 at h4
      rw [ZE (by omega),zf_,ZE (by omega),zf_,ZE (by omega),zf_,eb]
      cases (c.toNat:Int) != 0
      · rw [zf_,zf_];exact hbad
      · rw [zt_,ZbC (by simp) (by simp;omega),zb_,h4,zf_];exact hbad
  · rw [ZfH (by omega),eb]
    exact .inr ⟨(fun c hc=>by rw [List.getElem?_eq_none (by omega)] at hc;cases hc),hbad⟩
theorem ZgG {s:List UInt8} {p:Nat} {c:UInt8} (h:s[p]?≠some c):∀x,s[p]?=some x→(x.toNat:Int)≠(c.toNat:Int):=fun x hx hc=>h (by rw [hx];congr 1;exact UInt8.toNat_inj.1 (by omega))
theorem Zor:((List.range 256).all fun n=>decide (UInt8.ofNat n=92) || decide (UInt8.ofNat n=46) || decide (UInt8.ofNat n=91) || decide (UInt8.ofNat n=40) || (decide (0≤indexByte [92,46,91,93,40,41,123,125,42,43,63,124,94,36] (UInt8.ofNat n)) == (([93,91,40,41,123,125,42,43,63,124,94,36]:List UInt8).any fun x=>(x.toNat:Int) == (n:Int))))=true:=by kernel_rfl
theorem Zjl (l:List Zb):fs ⟨1,l,[],0,0⟩=41+4*l.length:=by simp only [fs,fsL,List.length_nil];omega
theorem Zqg {k k' p:Nat} {s:List UInt8} {o:Bool} {R48:Zl→Option (Option (Zd×Zl))} {R51:Zf→Option (Zd×Zf)} (hk:5000≤k) (hk':5000≤k') (hs:s.length≤400) (hp:p≤s.length)
    (hA:∀q o,p<q→q≤s.length→LSr s q 0 (R48 (rd s q o)) (R51 (rx s q false o))):LSr s p 1 (F117 R48 k (rd s p o)) (F119 R51 k' (rx s p false o)):=by
  unfold F117 F119
  rw [ZaP,zb_]
  by_cases c40:s[p]?=some 40
  ·
    have h1:=(List.getElem?_eq_some_iff.1 c40).1
    rw [ZcZ (by omega) c40,zb_,ZaK (c:=46) (fun x hx=>by rw [c40] at hx;obtain rfl:=zj_ hx;decide),zb_]
    simp only [zt_,zf_]
    rw [ZcW (c:=40) (by omega) c40 rfl,zb_]
    simp only [zt_]
    rcases hA (p+1) o (by omega) (by omega) with ⟨e1,x,r,e2,q,o2,rfl,hq⟩ | ⟨a,p',o',e1,e2,h2,h3,h4⟩
    · rw [e1,e2,zb_]
      refine .inl ⟨rfl,?_⟩
      obtain ⟨t,q2,e3,h3⟩:=Za5 k' (q:=q) (b:=true) (o:=o2) 41 (by omega:s.length≤1000000)
      simp only
      rw [e3,zb_]
      unfold Zhf
      cases t
      · exact ⟨_,_,rfl,q2,o2,rfl,by omega⟩
      · exact ⟨_,_,rfl,q2,o2,rfl,by omega⟩
    · rw [e1,e2,zb_]
      simp only [orP,zb_]
      rcases Zaq (k:=k) (k':=k') (o:=o') (o':=o') 41 (by omega) h3 with ⟨_,f1,f2,f3⟩ | ⟨_,f1,f2⟩
      · have f2':F74 k' (rx s p' false o') 41=_:=f2
        rw [f1,f2',zb_,zb_]
        exact .inr ⟨a,p'+1,o',rfl,rfl,by omega,f3,by omega⟩
      · have f2':F74 k' (rx s p' false o') 41=_:=f2
        rw [f1,f2',zb_,zb_]
        exact .inl ⟨rfl,_,_,rfl,p',o',rfl,by omega⟩
  rw [ZcY hp c40,zb_]
  simp only [zf_]
  by_cases c91:s[p]?=some 91
  ·
    have h1:=(List.getElem?_eq_some_iff.1 c91).1
    rw [ZcZ (by omega) c91,zb_,ZaK (c:=46) (fun x hx=>by rw [c91] at hx;obtain rfl:=zj_ hx;decide),zb_]
    simp only [zt_,zf_]
    rw [ZaK (c:=40) (fun x hx=>by rw [c91] at hx;obtain rfl:=zj_ hx;decide),zb_]
    simp only [zf_]
    rw [ZcW (c:=91) (by omega) c91 rfl,zb_]
    simp only [zt_]
    have hcls:=Zpb (k:=k) (k':=k') (p:=p+1) (o:=o) hk hk' hs (by omega)
    rcases hcls with ⟨e1,x,r,e2,hr⟩ | ⟨l,p',e1,e2,h2,h3,h4⟩
    · rw [e1,e2,zb_]
      exact .inl ⟨rfl,_,_,rfl,hr⟩
    · rw [e1,e2,zb_]
      refine .inr ⟨_,p',o,rfl,rfl,by omega,h3,?_⟩
      rw [Zjl]
      omega
  rw [ZcY hp c91,zb_]
  simp only [zf_]
  by_cases c46:s[p]?=some 46
  ·
    have h1:=(List.getElem?_eq_some_iff.1 c46).1
    rw [ZcZ (by omega) c46,zb_,ZcW (c:=46) (by omega) c46 rfl,zb_]
    simp only [zt_]
    rw [ZiX,Zhm]
    exact .inr ⟨⟨1,ptsR,[],0,0⟩,p+1,o,rfl,rfl,by omega,by omega,by rw [Zjl];have:ptsR.length=2:=rfl;omega⟩
  rw [ZcY hp c46,zb_,ZaK (c:=46) (ZgG c46),zb_]
  simp only [zf_]
  rw [ZaK (c:=40) (ZgG c40),zb_]
  simp only [zf_]
  rw [ZaK (c:=91) (ZgG c91),zb_]
  simp only [zf_]
  by_cases c92:s[p]?=some 92
  ·
    have h1:=(List.getElem?_eq_some_iff.1 c92).1
    rw [ZcZ (by omega) c92,zb_,ZcW (c:=92) (by omega) c92 rfl,zb_]
    simp only [zt_]
    show LSr s p 1 _ (Zlh k' (true,rx s (p+1) false o))
    rcases Zo7 (k:=k') (q:=p+1) (o:=o) (by omega) (by omega:s.length≤1000000) (by omega) with ⟨c,v,hc,he,e⟩ | ⟨hc,x,r,e,hr⟩
    · rw [Zoj (by omega) hc he,e]
      exact .inr ⟨_,p+1+1,o,rfl,rfl,by omega,by have:=(List.getElem?_eq_some_iff.1 hc).1;omega,by rw [Zjl];simp only [List.length_singleton];omega⟩
    · rw [Zoi (by omega) (by omega) hc,e]
      exact .inl ⟨rfl,_,_,rfl,hr⟩
  · rw [ZcY hp c92,zb_,ZaK (c:=92) (ZgG c92),zb_]
    simp only [zf_]
    have hd:decide ((rx s p false o).f_I<((rx s p false o).f_S.length:Int))=decide (p<s.length):=decide_eq_decide.2 (by show (p:Int)<(s.length:Int)↔_;omega)
    rw [hd]
    unfold Zhg
    by_cases hl:p<s.length
    · obtain ⟨b,hb⟩:∃b,s[p]?=some b:=⟨_,List.getElem?_eq_getElem hl⟩
      rw [dt hl,zt_,Za4 hb,ZbC (by simp) (by simp;omega),zb_]
      unfold ZbH
      by_cases hbad:bad (s.drop p)
      · rw [Zio (by omega) hl hbad]
        refine .inl ⟨rfl,?_⟩
        cases (([93,91,40,41,123,125,42,43,63,124,94,36]:List UInt8).any fun x=>(x.toNat:Int) == (b.toNat:Int))
        · rw [zf_,ZcF (by omega) (by omega) hl hbad]
          exact ⟨_,_,rfl,p,o,rfl,by omega⟩
        · have eb:({ rx s p false o with f_Bad:=true }:Zf)=rx s p true o:=rfl
          rw [zt_,eb,ZcF (by omega) (by omega) hl hbad]
          exact ⟨_,_,rfl,p,o,rfl,by omega⟩
      · have hne:s.drop p≠[]:=fun c=>by have:=List.drop_eq_nil_iff.1 c;omega
        have hw:=decodeL_width (s.drop p)
        have hle:=decodeL_le _ hne
        rw [List.length_drop] at hle
        have hpt:=Zmg hbad
        rw [Zdm (by omega) hl hbad]
        simp only [orP,zb_]
        have okk:F141 k [92,46,91,93,40,41,123,125,42,43,63,124,94,36] (IntKind.wrap .i32 ((decodeL (s.drop p)).1:Int))=some (([93,91,40,41,123,125,42,43,63,124,94,36]:List UInt8).any fun x=>(x.toNat:Int) == (b.toNat:Int)):=by
          by_cases h8:b.toNat<128
          · obtain ⟨a1,a2⟩:=Zdk (l:=s.drop (p+1)) h8
            rw [←Zal hb] at a1
            rw [a1,Zfy h8]
            have:=List.all_eq_true.1 Zor b.toNat (List.mem_range.2 b.toNat_lt)
            simp only [UInt8.ofNat_toNat] at this
            rw [df (show ¬b=92 from fun c=>c92 (by rw [hb,c])),df (show ¬b=46 from fun c=>c46 (by rw [hb,c])),df (show ¬b=91 from fun c=>c91 (by rw [hb,c])),df (show ¬b=40 from fun c=>c40 (by rw [hb,c])),Bool.false_or,Bool.false_or,Bool.false_or,Bool.false_or,beq_iff_eq] at this
            rw [this]
          · have hw2:=Zko hbad (by rw [Zal hb];simpa using h8)
            rw [Zgg (by omega) (by decide) (by simp) (by simp) hpt (by omega),(ZpO (by omega)).2]
        rw [okk,zb_]
        cases hany:(([93,91,40,41,123,125,42,43,63,124,94,36]:List UInt8).any fun x=>(x.toNat:Int) == (b.toNat:Int))
        · rw [zf_,zf_,Zbq (by omega) (by omega) hl hbad]
          exact .inr ⟨⟨1,[⟨((decodeL (s.drop p)).1:Int),((decodeL (s.drop p)).1:Int)⟩],[],0,0⟩,p+(decodeL (s.drop p)).2,o,rfl,rfl,by omega,by omega,by rw [Zjl];simp only [List.length_singleton];omega⟩
        · have eb:({ rx s p false o with f_Bad:=true }:Zf)=rx s p true o:=rfl
          rw [zt_,zt_,eb,Zbq (by omega) (by omega) hl hbad]
          exact .inl ⟨rfl,_,_,rfl,_,o,rfl,by omega⟩
    · obtain rfl:p=s.length:=by omega
      rw [Zip (by omega),df hl,zf_,zf_]
      unfold ZbH
      rw [Zge (Nat.le_refl _)]
      exact .inl ⟨rfl,_,_,rfl,s.length,o,rfl,by omega⟩
end Go.Proofs.YthilboheomikjaaGreatDoor
end
section
namespace Go.Proofs.YthilboheomikjaaGreatDoor
open Go.AL Go.Lib
set_option maxRecDepth 100000
theorem Zjk (a:Zd) (n m:Int):fs ⟨4,[],[a],n,m⟩=1+max 41 (fs a):=by simp only [fs,fsL,List.length_cons,List.length_nil];omega
theorem Zih (k:Int) (l:List Zd) (n m:Int):fs ⟨k,[],l,n,m⟩=1+max (l.length+40) (fsL l):=by simp only [fs,List.length_nil,Nat.mul_zero,Nat.add_zero]
theorem Zna (l:List Zd) (x:Zd):fsL (l ++ [x])=max (fsL l) (fs x):=by
  induction l with
  | nil=>simp [fsL]
  | cons y l ih=>simp only [List.cons_append,fsL,ih];omega
def Zjw (k:Nat) (y101:Zd×Zf):Option (Zd×Zf):=
  (F74 k y101.2 42).bind fun y102=>cond y102.1 (some ((⟨4,([]:List Zb),([y101.1]:List Zd),0,(-1)⟩:Zd),y102.2)) ((F74 k y102.2 43).bind fun y104=>cond y104.1 (some ((⟨4,([]:List Zb),([y101.1]:List Zd),1,(-1)⟩:Zd),y104.2)) ((F74 k y104.2 63).bind fun y106=>cond y106.1 (some ((⟨4,([]:List Zb),([y101.1]:List Zd),0,1⟩:Zd),y106.2)) ((F74 k y106.2 123).bind fun y108=>cond y108.1 ((F120 k y108.2 y101.1).bind fun y110=>(some (y110.1,y110.2))) (some (y101.1,y108.2)))))
theorem ZoE {k:Nat} {s:List UInt8} {r:Zf} {a:Zd} (hk:20≤k) (hs:s.length≤1000000) (hr:BadR s r):∃x r',Zjw k (a,r)=some (x,r')∧BadR s r':=by
  obtain ⟨q,o,rfl,hq⟩:=hr
  unfold Zjw
  obtain ⟨t1,q1,e1,h1⟩:=Za5 k (q:=q) (b:=true) (o:=o) 42 hs
  simp only
  rw [e1,zb_]
  cases t1
  · simp only [zf_]
    obtain ⟨t2,q2,e2,h2⟩:=Za5 k (q:=q1) (b:=true) (o:=o) 43 hs
    rw [e2,zb_]
    cases t2
    · simp only [zf_]
      obtain ⟨t3,q3,e3,h3⟩:=Za5 k (q:=q2) (b:=true) (o:=o) 63 hs
      rw [e3,zb_]
      cases t3
      · simp only [zf_]
        obtain ⟨t4,q4,e4,h4⟩:=Za5 k (q:=q3) (b:=true) (o:=o) 123 hs
        rw [e4,zb_]
        cases t4
        · exact ⟨_,_,rfl,q4,o,rfl,by omega⟩
        · simp only [zt_]
          obtain ⟨x,r,e5,h5⟩:=ZoN (k:=k) (q:=q4) (o:=o) (a:=a) (by omega) hs (by omega)
          rw [e5]
          exact ⟨_,_,rfl,h5⟩
      · exact ⟨_,_,rfl,q3,o,rfl,by omega⟩
    · exact ⟨_,_,rfl,q2,o,rfl,by omega⟩
  · exact ⟨_,_,rfl,q1,o,rfl,by omega⟩
theorem Zpt {k k' p:Nat} {s:List UInt8} {o:Bool} {R48:Zl→Option (Option (Zd×Zl))} {R51:Zf→Option (Zd×Zf)} (hk:5000≤k) (hk':5000≤k') (hs:s.length≤400) (hp:p≤s.length)
    (hA:∀q o,p<q→q≤s.length→LSr s q 0 (R48 (rd s q o)) (R51 (rx s q false o))):LSr s p 1 (F98 R48 k (rd s p o)) (F101 R51 k' (rx s p false o)):=by
  have e0:F101 R51 k' (rx s p false o)=(F119 R51 k' (rx s p false o)).bind fun y=>Zjw k' y:=rfl
  rw [e0]
  unfold F98
  rcases Zqg hk hk' hs hp hA with ⟨e1,x,r,e2,hr⟩ | ⟨a,p1,o1,e1,e2,h1,h2,h3⟩
  · rw [e1,e2]
    exact .inl ⟨rfl,ZoE (by omega) (by omega) hr⟩
  rw [e1,e2]
  simp only [orP,zb_]
  unfold Zjw Zft
  simp only
  rcases Zaq (k:=k) (k':=k') (o:=o1) (o':=o1) 42 (by omega) h2 with ⟨_,f1,f2,f3⟩ | ⟨_,f1,f2⟩
  · have f2':F74 k' (rx s p1 false o1) 42=_:=f2
    rw [f1,f2',zb_,zb_]
    exact .inr ⟨_,p1+1,o1,rfl,rfl,by omega,f3,by rw [Zjk];omega⟩
  have f2':F74 k' (rx s p1 false o1) 42=_:=f2
  rw [f1,f2',zb_,zb_]
  simp only [zf_]
  clear f1 f2 f2'
  rcases Zaq (k:=k) (k':=k') (o:=o1) (o':=o1) 43 (by omega) h2 with ⟨_,f1,f2,f3⟩ | ⟨_,f1,f2⟩
  · have f2':F74 k' (rx s p1 false o1) 43=_:=f2
    rw [f1,f2',zb_,zb_]
    exact .inr ⟨_,p1+1,o1,rfl,rfl,by omega,f3,by rw [Zjk];omega⟩
  have f2':F74 k' (rx s p1 false o1) 43=_:=f2
  rw [f1,f2',zb_,zb_]
  simp only [zf_]
  clear f1 f2 f2'
  rcases Zaq (k:=k) (k':=k') (o:=o1) (o':=o1) 63 (by omega) h2 with ⟨_,f1,f2,f3⟩ | ⟨_,f1,f2⟩
  · have f2':F74 k' (rx s p1 false o1) 63=_:=f2
    rw [f1,f2',zb_,zb_]
    exact .inr ⟨_,p1+1,o1,rfl,rfl,by omega,f3,by rw [Zjk];omega⟩
  have f2':F74 k' (rx s p1 false o1) 63=_:=f2
  rw [f1,f2',zb_,zb_]
  simp only [zf_]
  clear f1 f2 f2'
  rcases Zaq (k:=k) (k':=k') (o:=o1) (o':=o1) 123 (by omega) h2 with ⟨_,f1,f2,f3⟩ | ⟨_,f1,f2⟩
  · have f2':F74 k' (rx s p1 false o1) 123=_:=f2
    rw [f1,f2',zb_,zb_]
    simp only [zt_]
    rcases ZpD (k:=k) (k':=k') (o:=o1) (a:=a) (by omega) (by omega) (by omega:s.length≤1000000) f3 with ⟨e3,x,r,e4,hr⟩ | ⟨n,m,p2,o2,e3,e4,h4,h5⟩
    · rw [e3,e4]
      exact .inl ⟨rfl,_,_,rfl,hr⟩
    · rw [e3,e4]
      exact .inr ⟨_,p2,o2,rfl,rfl,by omega,h5,by rw [Zjk];omega⟩
  have f2':F74 k' (rx s p1 false o1) 123=_:=f2
  rw [f1,f2',zb_,zb_]
  exact .inr ⟨a,p1,o1,rfl,rfl,h1,h2,h3⟩
theorem Znr {p:Nat} {s:List UInt8} {b o:Bool} {acc:List Zd}:∃x,(cond ((acc.length:Int) == 1) (if (0:Int)≤0∧0<(acc.length:Int) then (idxL acc 0).bind fun y136=>(some (y136,rx s p b o)) else none) ((some ((⟨2,([]:List Zb),acc,0,0⟩:Zd),rx s p b o))))=some (x,rx s p b o)∧
    (cond ((acc.length:Int) == 1) (if (0:Int)≤0∧0<(acc.length:Int) then (idxL acc 0).bind fun y133=>(some (some (y133,rd s p o))) else none) ((some (some ((⟨2,([]:List Zb),acc,0,0⟩:Zd),rd s p o)))))=some (some (x,rd s p o))∧((∃y,acc=[y]∧x=y)∨(acc.length≠1∧x=⟨2,[],acc,0,0⟩)):=by
  by_cases h:acc.length=1
  · obtain ⟨y,rfl⟩:=List.length_eq_one_iff.1 h
    exact ⟨y,rfl,rfl,.inl ⟨y,rfl,rfl⟩⟩
  · rw [ZE (by omega),zf_,zf_]
    exact ⟨_,rfl,rfl,.inr ⟨h,rfl⟩⟩
theorem Znq {k m:Nat} {s:List UInt8} {r:Zf} {R51:Zf→Option (Zd×Zf)} {acc:List Zd} (hr:BadR s r):∃x,Zb2 R51 k (m+1) r acc=some (x,r):=by
  obtain ⟨q,o,rfl,hq⟩:=hr
  show ∃x,Zda R51 k (Zb2 R51 k m) (rx s q true o) acc=_
  unfold Zda Zcu
  rw [show (!(rx s q true o).f_Bad)=false from rfl,zf_,zf_]
  obtain ⟨x,e,_⟩:=Znr (p:=q) (s:=s) (b:=true) (o:=o) (acc:=acc)
  exact ⟨x,e⟩
def Inv (acc:List Zd) (n:Nat):Prop:=acc.length≤n+1∧((∃x,acc=[x]∧fs x≤20*n+100)∨(2≤acc.length∧fsL acc≤20*n+80))
theorem Inv.add {acc:List Zd} {x:Zd} {n d:Nat} (h:Inv acc n) (hd:1≤d) (hx:fs x≤20*(n+d)+80):Inv (acc ++ [x]) (n+d):=by
  obtain ⟨h1,h2⟩:=h
  refine ⟨by simp;omega,.inr ?_⟩
  rcases h2 with ⟨y,rfl,hy⟩ | ⟨h2,h3⟩
  · exact ⟨by simp,by rw [Zna];simp only [fsL];omega⟩
  · exact ⟨by simp;omega,by rw [Zna];omega⟩
theorem ZmK {k k' p0:Nat} {s:List UInt8} {R48:Zl→Option (Option (Zd×Zl))} {R51:Zf→Option (Zd×Zf)} (hk:5000≤k) (hk':5000≤k') (hs:s.length≤400)
    (hA:∀q o,p0<q→q≤s.length→LSr s q 0 (R48 (rd s q o)) (R51 (rx s q false o))):∀(d p m m':Nat) (o:Bool) (acc:List Zd),s.length-p≤d→p0≤p→p≤s.length→d<m→d+1<m'→acc.length≤p-p0→(acc=[]∨Inv acc (p-p0))→
    LSr s p0 0 (Zc9 R48 k m (rd s p o) acc) (Zb2 R51 k' m' (rx s p false o) acc):=by
  have fin:∀(p:Nat) (o:Bool) (acc:List Zd) (m m':Nat),p0≤p→p≤s.length→acc.length≤p-p0→(acc=[]∨Inv acc (p-p0))→LSr s p0 0 (Zd4 R48 k (Zc9 R48 k m) (rd s p o) acc false) (Zcu R51 k' (Zb2 R51 k' m') (rx s p false o) acc false):=fun p o acc m m' h1 h2 hal hi=>by
    unfold Zd4 Zcu
    rw [zf_,zf_]
    obtain ⟨x,e1,e2,h3⟩:=Znr (p:=p) (s:=s) (b:=false) (o:=o) (acc:=acc)
    refine .inr ⟨x,p,o,e2,e1,by omega,h2,?_⟩
    rcases h3 with ⟨y,rfl,rfl⟩ | ⟨h3,rfl⟩
    · rcases hi with hi | ⟨_,⟨z,hz,hf⟩ | ⟨h4,_⟩⟩
      · cases hi
      · cases hz;omega
      · simp at h4
    · rw [Zih]
      rcases hi with rfl | ⟨h5,⟨z,rfl,hf⟩ | ⟨h4,h6⟩⟩
      · simp only [fsL,List.length_nil];omega
      · simp at h3
      · omega
  intro d
  induction d with
  | zero=>
    intro p m m' o acc hd h0 hp hm hm' hal hi
    obtain ⟨m,rfl⟩:∃q,m=q+1:=⟨m-1,by omega⟩
    obtain ⟨m',rfl⟩:∃q,m'=q+1:=⟨m'-1,by omega⟩
    obtain rfl:p=s.length:=by omega
    show LSr s p0 0 (Zfj R48 k (Zc9 R48 k m) (rd s s.length o) acc) (Zda R51 k' (Zb2 R51 k' m') (rx s s.length false o) acc)
    unfold Zfj Zda
    rw [show decide ((rd s s.length o).f_at<((rd s s.length o).f_s.length:Int))=false from df (by show ¬((s.length:Int)<s.length);omega),zf_,
      show (!(rx s s.length false o).f_Bad)=true from rfl,zt_,show decide ((rx s s.length false o).f_I<((rx s s.length false o).f_S.length:Int))=false from df (by show ¬((s.length:Int)<s.length);omega),zf_]
    exact fin _ _ _ _ _ h0 hp hal hi
  | succ d ih=>
    intro p m m' o acc hd h0 hp hm hm' hal hi
    obtain ⟨m,rfl⟩:∃q,m=q+1:=⟨m-1,by omega⟩
    obtain ⟨m',rfl⟩:∃q,m'=q+1:=⟨m'-1,by omega⟩
    show LSr s p0 0 (Zfj R48 k (Zc9 R48 k m) (rd s p o) acc) (Zda R51 k' (Zb2 R51 k' m') (rx s p false o) acc)
    unfold Zfj Zda
    rw [show (!(rx s p false o).f_Bad)=true from rfl,zt_]
    by_cases hl:p<s.length
    · obtain ⟨b,hb⟩:∃b,s[p]?=some b:=⟨_,List.getElem?_eq_getElem hl⟩
      rw [show decide ((rd s p o).f_at<((rd s p o).f_s.length:Int))=true from dt (by show (p:Int)<s.length;omega),zt_,
        show decide ((rx s p false o).f_I<((rx s p false o).f_S.length:Int))=true from dt (by show (p:Int)<s.length;omega),zt_,is1 hp,zb_,ZaP,zb_,Za4 hb]
      by_cases b1:b=124
      · subst b1
        rw [dt hb,show (((124:UInt8).toNat:Int) != 124)=false from rfl,Bool.not_true,zf_,zf_]
        exact fin _ _ _ _ _ h0 hp hal hi
      · have n1:b.toNat≠124:=fun c=>b1 (UInt8.toNat_inj.1 c)
        rw [df (show ¬s[p]?=some 124 from fun c=>b1 (by rw [hb] at c;exact zj_ c)),show ((b.toNat:Int) != 124)=true by simp;omega,Bool.not_false,zt_,zt_,is1 hp,zb_,zb_]
        by_cases b2:b=41
        · subst b2
          rw [dt hb,show (((41:UInt8).toNat:Int) != 41)=false from rfl,Bool.not_true]
          exact fin _ _ _ _ _ h0 hp hal hi
        · have n2:b.toNat≠41:=fun c=>b2 (UInt8.toNat_inj.1 c)
          rw [df (show ¬s[p]?=some 41 from fun c=>b2 (by rw [hb] at c;exact zj_ c)),show ((b.toNat:Int) != 41)=true by simp;omega,Bool.not_false]
          unfold Zd4 Zcu
          rw [zt_,zt_]
          rcases Zpt (o:=o) hk hk' hs hp (fun q o' h1 h2=>hA q o' (by omega) h2) with ⟨e1,x,r,e2,hr⟩ | ⟨a,p1,o1,e1,e2,h1,h2,h3⟩
          · rw [e1,e2]
            simp only [orP,zb_]
            obtain ⟨m',rfl⟩:∃q,m'=q+1:=⟨m'-1,by omega⟩
            rw [if_pos (by simp;omega)]
            obtain ⟨y,e3⟩:=Znq (k:=k') (m:=m') (R51:=R51) (acc:=acc ++ [x]) hr
            exact .inl ⟨rfl,y,r,e3,hr⟩
          · rw [e1,e2]
            simp only [orP,zb_]
            rw [if_pos (by simp;omega),if_pos (by simp;omega)]
            refine ih p1 m m' o1 (acc ++ [a]) (by omega) (by omega) h2 (by omega) (by omega) (by simp;omega) (.inr ?_)
            rcases hi with rfl | hi
            · exact ⟨by simp,.inl ⟨a,rfl,by omega⟩⟩
            · have e:p1-p0=(p-p0)+(p1-p):=by omega
              have hpos:1≤p-p0:=by
                rcases hi.2 with ⟨x,rfl,_⟩ | ⟨h4,_⟩
                · simp at hal;omega
                · omega
              rw [e]
              exact hi.add (by omega) (by omega)
    · obtain rfl:p=s.length:=by omega
      rw [show decide ((rd s s.length o).f_at<((rd s s.length o).f_s.length:Int))=false from df (by show ¬((s.length:Int)<s.length);omega),zf_,
        show decide ((rx s s.length false o).f_I<((rx s s.length false o).f_S.length:Int))=false from df (by show ¬((s.length:Int)<s.length);omega),zf_]
      exact fin _ _ _ _ _ h0 hp hal hi
theorem Zmv {k k' p:Nat} {s:List UInt8} {o:Bool} {R48:Zl→Option (Option (Zd×Zl))} {R51:Zf→Option (Zd×Zf)} (hk:5000≤k) (hk':5000≤k') (hs:s.length≤400) (hp:p≤s.length)
    (hA:∀q o,p<q→q≤s.length→LSr s q 0 (R48 (rd s q o)) (R51 (rx s q false o))):LSr s p 0 (F70 R48 k (rd s p o)) (F73 R51 k' (rx s p false o)):=
  ZmK hk hk' hs hA (s.length-p) p k k' o [] (Nat.le_refl _) (Nat.le_refl _) hp (by omega) (by omega) (Nat.zero_le _) (.inl rfl)
theorem ZhG {p:Nat} {s:List UInt8} {b o:Bool} {acc:List Zd}:∃x,(cond ((acc.length:Int) == 1) (if (0:Int)≤0∧0<(acc.length:Int) then (idxL acc 0).bind fun y136=>(some (y136,rx s p b o)) else none) ((some ((⟨3,([]:List Zb),acc,0,0⟩:Zd),rx s p b o))))=some (x,rx s p b o)∧
    (cond ((acc.length:Int) == 1) (if (0:Int)≤0∧0<(acc.length:Int) then (idxL acc 0).bind fun y133=>(some (some (y133,rd s p o))) else none) ((some (some ((⟨3,([]:List Zb),acc,0,0⟩:Zd),rd s p o)))))=some (some (x,rd s p o))∧((∃y,acc=[y]∧x=y)∨(acc.length≠1∧x=⟨3,[],acc,0,0⟩)):=by
  by_cases h:acc.length=1
  · obtain ⟨y,rfl⟩:=List.length_eq_one_iff.1 h
    exact ⟨y,rfl,rfl,.inl ⟨y,rfl,rfl⟩⟩
  · rw [ZE (by omega),zf_,zf_]
    exact ⟨_,rfl,rfl,.inr ⟨h,rfl⟩⟩
theorem Zj1 {k:Nat} {s:List UInt8} {R51:Zf→Option (Zd×Zf)} (hk:1≤k) (hs:s.length≤400):∀(d q m:Nat) (o:Bool) (acc:List Zd),s.length+1-q≤d→d<m→q≤s.length+1→acc.length+d≤100000→∃x r,Zb1 R51 k m (rx s q true o) acc=some (x,r)∧BadR s r:=by
  intro d
  induction d with
  | zero=>
    intro q m o acc hd hm hq ha
    obtain ⟨m,rfl⟩:∃z,m=z+1:=⟨m-1,by omega⟩
    show ∃x r,Zb0 R51 k (Zb1 R51 k m) (rx s q true o) acc=_∧_
    unfold Zb0
    rw [ZaK (fun x hx=>by rw [List.getElem?_eq_none (by omega)] at hx;cases hx),zb_]
    simp only [zf_]
    obtain ⟨x,e,_⟩:=ZhG (p:=q) (s:=s) (b:=true) (o:=o) (acc:=acc)
    exact ⟨x,_,e,q,o,rfl,hq⟩
  | succ d ih=>
    intro q m o acc hd hm hq ha
    obtain ⟨m,rfl⟩:∃z,m=z+1:=⟨m-1,by omega⟩
    obtain ⟨k,rfl⟩:∃z,k=z+1:=⟨k-1,by omega⟩
    show ∃x r,Zb0 R51 (k+1) (Zb1 R51 (k+1) m) (rx s q true o) acc=_∧_
    unfold Zb0
    obtain ⟨t,q2,e1,h1⟩:=Za5 (k+1) (q:=q) (b:=true) (o:=o) 124 (by omega:s.length≤1000000)
    rw [e1,zb_]
    cases t
    · simp only [zf_]
      obtain ⟨x,e,_⟩:=ZhG (p:=q2) (s:=s) (b:=true) (o:=o) (acc:=acc)
      exact ⟨x,_,e,q2,o,rfl,by omega⟩
    · simp only [zt_]
      obtain ⟨y,e2⟩:=Znq (k:=k+1) (m:=k) (s:=s) (R51:=R51) (acc:=[]) ⟨q2,o,rfl,by omega⟩
      have e3:F73 R51 (k+1) (rx s q2 true o)=some (y,rx s q2 true o):=e2
      rw [e3,zb_,if_pos (by simp;omega)]
      have h2:q2=q+1∧q<s.length:=h1.elim (fun h=>h.2) (fun h=>by cases h.1)
      exact ih q2 m o _ (by omega) (by omega) (by omega) (by simp;omega)
theorem ZhS {k k' p0:Nat} {s:List UInt8} {R48:Zl→Option (Option (Zd×Zl))} {R51:Zf→Option (Zd×Zf)} (hk:5000≤k) (hk':5000≤k') (hs:s.length≤400)
    (hA:∀q o,p0<q→q≤s.length→LSr s q 0 (R48 (rd s q o)) (R51 (rx s q false o))):∀(d p m m':Nat) (o:Bool) (acc:List Zd),s.length-p≤d→p0≤p→p≤s.length→d<m→d+1000<m'→Inv acc (p-p0)→
    LSr s p0 0 (Zd2 R48 k m (rd s p o) acc) (Zb1 R51 k' m' (rx s p false o) acc):=by
  intro d
  induction d with
  | zero=>
    intro p m m' o acc hd h0 hp hm hm' hi
    obtain ⟨m,rfl⟩:∃q,m=q+1:=⟨m-1,by omega⟩
    obtain ⟨m',rfl⟩:∃q,m'=q+1:=⟨m'-1,by omega⟩
    obtain rfl:p=s.length:=by omega
    show LSr s p0 0 (Ze8 R48 k (Zd2 R48 k m) (rd s s.length o) acc) (Zb0 R51 k' (Zb1 R51 k' m') (rx s s.length false o) acc)
    unfold Ze8 Zb0
    have hn:s[s.length]?≠some 124:=by rw [List.getElem?_eq_none (Nat.le_refl _)];simp
    rw [ZcY hp hn,zb_,ZaK (c:=124) (ZgG hn),zb_]
    simp only [zf_]
    obtain ⟨x,e1,e2,h3⟩:=ZhG (p:=s.length) (s:=s) (b:=false) (o:=o) (acc:=acc)
    refine .inr ⟨x,s.length,o,e2,e1,by omega,hp,?_⟩
    obtain ⟨h5,h6⟩:=hi
    rcases h3 with ⟨y,rfl,rfl⟩ | ⟨h3,rfl⟩
    · rcases h6 with ⟨z,hz,hf⟩ | ⟨h4,_⟩
      · cases hz;omega
      · simp at h4
    · rw [Zih]
      rcases h6 with ⟨z,rfl,hf⟩ | ⟨h4,h6⟩
      · simp at h3
      · omega
  | succ d ih=>
    intro p m m' o acc hd h0 hp hm hm' hi
    obtain ⟨m,rfl⟩:∃q,m=q+1:=⟨m-1,by omega⟩
    obtain ⟨m',rfl⟩:∃q,m'=q+1:=⟨m'-1,by omega⟩
    show LSr s p0 0 (Ze8 R48 k (Zd2 R48 k m) (rd s p o) acc) (Zb0 R51 k' (Zb1 R51 k' m') (rx s p false o) acc)
    unfold Ze8 Zb0
    have hal:=hi.1
    rcases Zaq (k:=k) (k':=k') (o:=o) (o':=o) 124 (by omega) hp with ⟨_,f1,f2,f3⟩ | ⟨_,f1,f2⟩
    · have f2':F74 k' (rx s p false o) 124=_:=f2
      rw [f1,f2',zb_,zb_]
      simp only [zt_]
      rcases Zmv (o:=o) hk hk' hs f3 (fun q o' h1 h2=>hA q o' (by omega) h2) with ⟨e1,x,r,e2,hr⟩ | ⟨a,p1,o1,e1,e2,h1,h2,h3⟩
      · rw [e1,e2,zb_,if_pos (by simp;omega)]
        obtain ⟨q,o2,rfl,hq⟩:=hr
        exact .inl ⟨rfl,Zj1 (by omega) hs (s.length+1-q) q m' o2 _ (Nat.le_refl _) (by omega) hq (by simp;omega)⟩
      · rw [e1,e2]
        simp only [orP,zb_]
        rw [if_pos (by simp;omega),if_pos (by simp;omega)]
        refine ih p1 m m' o1 (acc ++ [a]) (by omega) (by omega) h2 (by omega) (by omega) ?_
        have e:p1-p0=(p-p0)+(p1-p):=by omega
        rw [e]
        exact hi.add (by omega) (by omega)
    · have f2':F74 k' (rx s p false o) 124=_:=f2
      rw [f1,f2',zb_,zb_]
      simp only [zf_]
      obtain ⟨x,e1,e2,h3⟩:=ZhG (p:=p) (s:=s) (b:=false) (o:=o) (acc:=acc)
      refine .inr ⟨x,p,o,e2,e1,by omega,hp,?_⟩
      obtain ⟨h5,h6⟩:=hi
      rcases h3 with ⟨y,rfl,rfl⟩ | ⟨h3,rfl⟩
      · rcases h6 with ⟨z,hz,hf⟩ | ⟨h4,_⟩
        · cases hz;omega
        · simp at h4
      · rw [Zih]
        rcases h6 with ⟨z,rfl,hf⟩ | ⟨h4,h6⟩
        · simp at h3
        · omega
theorem Zqe {s:List UInt8} (hs:s.length≤400):∀(d k k' p:Nat) (o:Bool),s.length-p≤d→p≤s.length→5001+d≤k→5001+d≤k'→LSr s p 0 (F48 k (rd s p o)) (F51 k' (rx s p false o)):=by
  intro d
  induction d with
  | zero=>
    intro k k' p o hd hp hk hk'
    obtain ⟨k,rfl⟩:∃q,k=q+1:=⟨k-1,by omega⟩
    obtain ⟨k',rfl⟩:∃q,k'=q+1:=⟨k'-1,by omega⟩
    have hA:∀q o,p<q→q≤s.length→LSr s q 0 (F48 k (rd s q o)) (F51 k' (rx s q false o)):=fun q o h1 h2=>by omega
    show LSr s p 0 (ZhB (F48 k) k (rd s p o)) (ZhC (F51 k') k' (rx s p false o))
    unfold ZhB ZhC
    rcases Zmv (k:=k) (k':=k') (o:=o) (by omega) (by omega) hs hp hA with ⟨e1,x,r,e2,hr⟩ | ⟨a,p1,o1,e1,e2,h1,h2,h3⟩
    · rw [e1,e2]
      obtain ⟨q,o2,rfl,hq⟩:=hr
      exact .inl ⟨rfl,Zj1 (by omega) hs (s.length+1-q) q k' o2 _ (Nat.le_refl _) (by omega) hq (by simp;omega)⟩
    · rw [e1,e2]
      exact ZhS (by omega) (by omega) hs hA (s.length-p1) p1 k k' o1 [a] (Nat.le_refl _) (by omega) h2 (by omega) (by omega) ⟨by simp,.inl ⟨a,rfl,by omega⟩⟩
  | succ d ih=>
    intro k k' p o hd hp hk hk'
    obtain ⟨k,rfl⟩:∃q,k=q+1:=⟨k-1,by omega⟩
    obtain ⟨k',rfl⟩:∃q,k'=q+1:=⟨k'-1,by omega⟩
    have hA:∀q o,p<q→q≤s.length→LSr s q 0 (F48 k (rd s q o)) (F51 k' (rx s q false o)):=fun q o h1 h2=>ih k k' q o (by omega) h2 (by omega) (by omega)
    show LSr s p 0 (ZhB (F48 k) k (rd s p o)) (ZhC (F51 k') k' (rx s p false o))
    unfold ZhB ZhC
    rcases Zmv (k:=k) (k':=k') (o:=o) (by omega) (by omega) hs hp hA with ⟨e1,x,r,e2,hr⟩ | ⟨a,p1,o1,e1,e2,h1,h2,h3⟩
    · rw [e1,e2]
      obtain ⟨q,o2,rfl,hq⟩:=hr
      exact .inl ⟨rfl,Zj1 (by omega) hs (s.length+1-q) q k' o2 _ (Nat.le_refl _) (by omega) hq (by simp;omega)⟩
    · rw [e1,e2]
      exact ZhS (by omega) (by omega) hs hA (s.length-p1) p1 k k' o1 [a] (Nat.le_refl _) (by omega) h2 (by omega) (by omega) ⟨by simp,.inl ⟨a,rfl,by omega⟩⟩
theorem Zjf {R:Zd→Option Int} {v:Zd} (hl:v.f_L.length≤1048576) (hd1:∀x∈v.f_L,R x=some (dp x:Int)) (hb:dpL v.f_L≤1048576):∀(l:List Zd) (c i m:Nat),v.f_L.drop i=l→l.length<m→i≤v.f_L.length→c≤1048576→Zc8 R v m (c:Int) (i:Int)=some ((max c (dpL l)+1:Nat):Int)
  | [],c,i,m,hd,hm,hi,hc=>by
    obtain ⟨m,rfl⟩:∃q,m=q+1:=⟨m-1,by simp at hm;omega⟩
    have:=ZV hd
    show Ze9 _ _ _ _ _=_
    unfold Ze9
    rw [df (by omega),zf_,ZS (by omega)]
    simp [dpL]
  | x :: l,c,i,m,hd,hm,hi,hc=>by
    obtain ⟨m,rfl⟩:∃q,m=q+1:=⟨m-1,by omega⟩
    obtain ⟨g1,g2,g3⟩:=ZO hd
    rw [List.length_cons] at hm
    have hx:=List.mem_of_getElem? g2
    have hxb:=Zdc.1 hb x hx
    show Ze9 R (Zc8 R v m) v (c:Int) (i:Int)=_
    unfold Ze9
    have em:mx (c:Int) (dp x:Int)=((max c (dp x):Nat):Int):=by unfold mx;split <;> omega
    rw [dt (by omega),zt_,Zy,g2,zb_,hd1 x hx,zb_,ZS (by omega),em,Zjf hl hd1 hb l _ (i+1) m g3 (by omega) (by omega) (by omega)]
    simp only [dpL]
    rw [Nat.max_assoc]
theorem Zrl:∀r:Zd,dp r≤fs r:=by
  intro r
  have h:∀n (r:Zd),fs r≤n→dp r≤fs r:=by
    intro n
    induction n with
    | zero=>intro ⟨k,st,l,a,b⟩ h;simp only [fs] at h;omega
    | succ n ih=>
      intro ⟨k,st,l,a,b⟩ h
      simp only [fs,dp] at h ⊢
      have:dpL l≤fsL l:=Zdc.2 fun x hx=>by
        have:=ZbT hx
        have:=ih x (by omega)
        omega
      omega
  exact h (fs r) r (Nat.le_refl _)
theorem ZlQ:∀(k:Nat) (r:Zd),k≤1048576→fs r≤k→F50 k r=some (dp r:Int)
  | 0,⟨kd,st,l,a,b⟩,_,hf=>by simp only [fs] at hf;omega
  | k+1,⟨kd,st,l,a,b⟩,hk,hf=>by
    have hdp:=Zrl ⟨kd,st,l,a,b⟩
    simp only [fs] at hf
    simp only [fs,dp] at hdp
    have e:=Zjf (R:=F50 k) (v:=⟨kd,st,l,a,b⟩) (by show l.length≤_;omega) (fun x hx=>ZlQ k x (by omega) (by have:=ZbT (show x∈l from hx);omega)) (by show dpL l≤_;omega) l 0 0 k rfl (by omega) (Nat.zero_le _) (by omega)
    show Zc8 (F50 k) ⟨kd,st,l,a,b⟩ k 0 0=_
    have e':Zc8 (F50 k) ⟨kd,st,l,a,b⟩ k 0 0=_:=e
    rw [e']
    simp only [dp]
    congr 2
    omega
theorem Zje {R:Zd→Int→Option Int} {n c:Nat} {v:Zd} (hl:v.f_L.length≤1048576) (hn:n≤16) (hc:c≤16) (hR:∀x∈v.f_L,∃t,R x ((n+1:Nat):Int)=some t∧(t≤c↔n+1+dp x≤c+1)) :
    ∀(l:List Zd) (z:Int) (i m:Nat),v.f_L.drop i=l→l.length<m→i≤v.f_L.length→∃t,Zc5 R v (n:Int) m z (i:Int)=some t∧(t≤c↔z≤c∧∀x∈l,n+1+dp x≤c+1)
  | [],z,i,m,hd,hm,hi=>by
    obtain ⟨m,rfl⟩:∃q,m=q+1:=⟨m-1,by simp at hm;omega⟩
    have:=ZV hd
    refine ⟨z,?_,by simp⟩
    show ZbY _ _ _ _ _ _=_
    unfold ZbY
    rw [df (by omega),zf_]
  | x :: l,z,i,m,hd,hm,hi=>by
    obtain ⟨m,rfl⟩:∃q,m=q+1:=⟨m-1,by omega⟩
    obtain ⟨g1,g2,g3⟩:=ZO hd
    rw [List.length_cons] at hm
    obtain ⟨t1,e1,p1⟩:=hR x (List.mem_of_getElem? g2)
    obtain ⟨t2,e2,p2⟩:=Zje hl hn hc hR l (mx z t1) (i+1) m g3 (by omega) (by omega)
    refine ⟨t2,?_,by rw [p2,ZhK,List.forall_mem_cons,p1,and_assoc]⟩
    show ZbY R (Zc5 R v (n:Int) m) v (n:Int) z (i:Int)=_
    unfold ZbY
    rw [dt (by omega),zt_,Zy,g2,zb_,ZS (by omega),e1,zb_,ZS (by omega),e2]
theorem ZlP {c:Nat} (hc:c≤16):∀(k:Nat) (r:Zd) (n:Nat),k≤1048576→fs r≤k→n≤17→∃t,F42 k r (n:Int)=some t∧(t≤c↔n+dp r≤c+1)
  | 0,⟨kd,st,l,a,b⟩,n,_,hf,_=>by simp only [fs] at hf;omega
  | k+1,⟨kd,st,l,a,b⟩,n,hk,hf,hn=>by
    simp only [fs] at hf
    show ∃t,ZhA (F42 k) k ⟨kd,st,l,a,b⟩ (n:Int)=_∧_
    unfold ZhA
    by_cases h17:n=17
    · subst h17
      exact ⟨17,rfl,by have:=ZlT ⟨kd,st,l,a,b⟩;omega⟩
    · rw [df (by omega),zf_]
      obtain ⟨t,e,p⟩:=Zje (R:=F42 k) (n:=n) (c:=c) (v:=⟨kd,st,l,a,b⟩) (by show l.length≤_;omega) (by omega) hc (fun x hx=>ZlP hc k x (n+1) (by omega) (by have:=ZbT (show x∈l from hx);omega) (by omega)) l (n:Int) 0 k rfl (by omega) (Nat.zero_le _)
      refine ⟨t,e,p.trans ?_⟩
      simp only [dp]
      constructor
      · rintro ⟨h1,h⟩
        have:dpL l≤c-n:=Zdc.2 fun x hx=>by have:=h x hx;omega
        omega
      · intro h
        exact ⟨by omega,fun x hx=>by have:=Zdc.1 (Nat.le_refl (dpL l)) x hx;omega⟩
theorem ZnL {k:Nat} {s:List UInt8} (hk:10000≤k) (hk2:k≤1048576):∃(a:Zd) (e:Int),F27 k s=some (a,e)∧F28 k s=some (a,e)∧fs a≤20*s.length+100:=by
  have hz:fs zRe≤20*s.length+100:=by
    have:fs zRe=41:=rfl
    omega
  unfold F27 F28
  by_cases h4:(s.length:Int) > 400
  · rw [dt h4,zt_,zt_]
    exact ⟨zRe,8,rfl,rfl,hz⟩
  rw [df h4,zf_,zf_,Zlo (by omega) (by omega) (by omega),zb_]
  unfold Zla
  have hv49:F49 k s=some (validD s):=by unfold F49 F72;rw [if_pos (by omega)];rfl
  have h:=Zqe (s:=s) (by omega) s.length k k 0 false (by omega) (Nat.zero_le _) (by omega) (by omega)
  have e48:F48 k ⟨s,0,false⟩=F48 k (rd s 0 false):=rfl
  have e51:F51 k ⟨s,0,false,false⟩=F51 k (rx s 0 false false):=rfl
  rw [e48,e51]
  cases hv:validD s
  · rw [Bool.not_false,zt_]
    rcases h with ⟨e1,_⟩ | ⟨a,p,o,e1,_,_,hp,_⟩
    · rw [e1]
      exact ⟨zRe,3,rfl,rfl,hz⟩
    · rw [e1,zb_]
      simp only
      unfold ZiF
      rw [hv49,hv]
      refine ⟨zRe,3,?_,rfl,hz⟩
      cases decide ((rd s p o).f_at<(s.length:Int)) <;> rfl
  · rw [Bool.not_true,zf_]
    unfold ZiG Zgm
    rcases h with ⟨e1,x,r,e2,q,o,rfl,hq⟩ | ⟨a,p,o,e1,e2,_,hp,hf⟩
    · rw [e1,e2]
      exact ⟨zRe,3,rfl,rfl,hz⟩
    · rw [e1,e2,zb_,zb_]
      simp only
      rw [show (rx s p false o).f_Bad=false from rfl,zf_]
      unfold ZiF Zk9
      by_cases hl:p=s.length
      · subst hl
        rw [show decide ((rd s s.length o).f_at<(s.length:Int))=false from df (by show ¬((s.length:Int)<s.length);omega),zf_,hv49,zb_,hv,zt_,
          show ((rx s s.length false o).f_I != (s.length:Int))=false by show ((s.length:Int) != s.length)=false;simp,zf_,show (rd s s.length o).f_over=o from rfl,show (rx s s.length false o).f_Long=o from rfl]
        have hfa:fs a≤k:=by omega
        obtain ⟨t,e4,ht⟩:=ZlP (c:=14) (by omega) k a 1 hk2 hfa (by omega)
        have e4':F42 k a 1=some t:=e4
        rw [Zki k a hk2 hfa,Ziw k a hk2 hfa,ZlQ k a hk2 hfa,e4']
        simp only [zb_]
        cases o
        · rw [zf_,zf_]
          by_cases h2:sz a > 200
          · rw [dt h2,zt_,zt_,zt_]
            exact ⟨zRe,8,rfl,rfl,hz⟩
          · rw [df h2,zf_,zf_]
            have hiff:decide ((dp a:Int) > 14)=decide (t > 14):=decide_eq_decide.2 (by omega)
            rw [hiff]
            cases decide (t > 14)
            · exact ⟨a,0,rfl,rfl,by omega⟩
            · exact ⟨zRe,8,rfl,rfl,hz⟩
        · exact ⟨zRe,8,rfl,rfl,hz⟩
      · rw [show decide ((rd s p o).f_at<(s.length:Int))=true from dt (by show (p:Int)<s.length;omega),zt_,
          show ((rx s p false o).f_I != (s.length:Int))=true by show ((p:Int) != s.length)=true;simp;omega,zt_]
        exact ⟨zRe,3,rfl,rfl,hz⟩
end Go.Proofs.YthilboheomikjaaGreatDoor
end
section
namespace Go.Proofs.YthilboheomikjaaGreatDoor
open Go.AL
set_option maxRecDepth 100000
def Zi4 (a:Bool):Option Bool:=
  some a
def ZhE (k:Nat) (v0:List UInt8) (v1:List UInt8) (c:Bool):Option Bool:=
  cond c ((F26 k).bind fun d=>(some d)) ((F28 k v0).bind fun a=>((cond (a.2 != 0) ((F26 k).bind fun e=>(some e)) ((F27 k v0).bind fun b=>(F26 k).bind fun f=>cond f (cond (b.2 == 0) ((F31 k b.1 v1).bind fun g=>(F23 k a.1 v1).bind fun h=>(Zi4 (g == h))) ((Zi4 false))) ((Zi4 false))))))
def F8 (k:Nat) (v0:List UInt8) (v1:List UInt8):Option Bool:=
  (cond (decide ((v0.length:Int) > 100)) ((ZhE k v0 v1 true)) ((ZhE k v0 v1 (decide ((v1.length:Int) > 60)))))
theorem Zrh (k:Nat) (v0:List UInt8) (v1:List UInt8) (r:Bool) (a:F8 k v0 v1=some r):SM 8 [one (.str v0),one (.str v1)] [] (ob r) []:=by
 refine Zz [] Tryz.func8 rfl kr kr ?_
 show WA _ _ 45 _ _ _
 refine Ws [] [(0,one (.str v0)),(1,one (.str v1))] [] ?_
 refine WA.seq ?_
 refine WA.join (fun u=>∃(m:Bool),J u [(0,one (.str v0)),(1,one (.str v1)),(16,ob m)] []∧ZhE k v0 v1 m=some r) ?_ ?_
 {
 rintro u ⟨m,t,a⟩
 refine Wj t ?_
 clear t
 refine WA.cond (b:=m) rfl (fun i=>?_) (fun i=>?_)
 {
 have a:=Zk a i
 obtain ⟨o,v,a⟩:=Zh a
 refine Wos [(0,.callR [] (ob o))] [(4,ob o)] [] [SM 26 [] [] (ob o) [],([]:List Nat).Nodup] ⟨(Zgl k _ v),nd,trivial⟩ ?_
 refine WA.ret ?_
 obtain rfl:=zj_ a
 exact Zq (ob o) [] kr kr kr kr nd rfl rfl }
 {
 have a:=Zj a i
 refine WA.skip ?_
 obtain ⟨c,w,a⟩:=Zh a
 refine Wos [(1,.callR [] (.tup [(true,pvL (Zc c.1)),(false,[.pv (.int .i64 c.2)])])),(5,.obj 105)] [(0,one (.str v0)),(1,one (.str v1)),(5,pt 105),(6,oi c.2)] [(105,bx (Zc c.1))] [SM 28 [one (.str v0)] [] (.tup [(true,pvL (Zc c.1)),(false,[.pv (.int .i64 c.2)])]) [],([]:List Nat).Nodup] ⟨(ZqL k _ _ w),nd,trivial⟩ ?_
 refine WA.seq ?_
 refine Ws [] [(0,one (.str v0)),(1,one (.str v1)),(5,pt 105),(24,ob (c.2 != 0))] [(105,bx (Zc c.1))] ?_
 refine WA.cond (b:=(c.2 != 0)) rfl (fun j=>?_) (fun j=>?_)
 {
 have a:=Zk a j
 obtain ⟨p,x,a⟩:=Zh a
 refine Wos [(0,.callR [] (ob p))] [(4,ob p)] [] [SM 26 [] [] (ob p) [],([]:List Nat).Nodup] ⟨(Zgl k _ x),nd,trivial⟩ ?_
 refine WA.ret ?_
 obtain rfl:=zj_ a
 exact Zq (ob p) [] kr kr kr kr nd rfl rfl }
 {
 have a:=Zj a j
 refine WA.skip ?_
 obtain ⟨d,y,a⟩:=Zh a
 refine Wos [(1,.callR [] (.tup [(true,pvL (Zc d.1)),(false,[.pv (.int .i64 d.2)])])),(5,.obj 107)] [(1,one (.str v1)),(5,pt 105),(7,pt 107),(8,oi d.2)] [(105,bx (Zc c.1)),(107,bx (Zc d.1))] [SM 27 [one (.str v0)] [] (.tup [(true,pvL (Zc d.1)),(false,[.pv (.int .i64 d.2)])]) [],([]:List Nat).Nodup] ⟨(ZiE k _ _ y),nd,trivial⟩ ?_
 refine WA.join (fun u=>∃(n:Bool),J u [(4,ob n)] []∧Zi4 n=some r) ?_ ?_
 {
 rintro u ⟨n,t,a⟩
 refine Wj t ?_
 clear t
 refine WA.ret ?_
 obtain rfl:=zj_ a
 exact Zq (ob n) [] kr kr kr kr nd rfl rfl }
 {
 obtain ⟨e,l,a⟩:=Zh a
 rcases zo_ e with f | f
 {
 have a:=Zk a f
 rcases zo_ (d.2 == 0) with h | h
 {
 have a:=Zk a h
 obtain ⟨q,z,a⟩:=Zh a
 obtain ⟨s,a0,a⟩:=Zh a
 refine Wd [(0,.callR [] (ob e)),(1,.bool true),(5,.bool true),(8,.callR [] (ob q)),(11,.callR [] (ob s))] [(4,ob (q == s))] [] [SM 26 [] [] (ob e) [],([]:List Nat).Nodup,e=true,(d.2 == 0)=true,SM 31 [tv (Zc d.1),one (.str v1)] [] (ob q) [],([]:List Nat).Nodup,SM 23 [tv (Zc c.1),one (.str v1)] [] (ob s) [],([]:List Nat).Nodup] ⟨(Zgl k _ l),nd,f,h,(Zaw k _ _ _ z),nd,(ZqK k _ _ _ a0),nd,trivial⟩ ?_
 exact ⟨(q == s),jk,a⟩ }
 {
 have a:=Zj a h
 refine Wd [(0,.callR [] (ob e)),(1,.bool true),(5,.bool false),(8,.callR [] (.tup [])),(11,.callR [] (.tup []))] [(4,ob false)] [] [SM 26 [] [] (ob e) [],([]:List Nat).Nodup,e=true,(d.2 == 0)=false] ⟨(Zgl k _ l),nd,f,h,trivial⟩ ?_
 exact ⟨false,jk,a⟩ } }
 {
 have a:=Zj a f
 refine Wd [(0,.callR [] (ob e)),(1,.bool false),(8,.callR [] (.tup [])),(11,.callR [] (.tup []))] [(4,ob false)] [] [SM 26 [] [] (ob e) [],([]:List Nat).Nodup,e=false] ⟨(Zgl k _ l),nd,f,trivial⟩ ?_
 exact ⟨false,jk,a⟩ } } } } }
 {
 rcases zo_ (decide ((v0.length:Int) > 100)) with g | g
 {
 have a:=Zk a g
 refine Wo [(3,.bool true)] [(0,one (.str v0)),(1,one (.str v1)),(16,ob true)] [] [(decide ((v0.length:Int) > 100))=true] ⟨g,trivial⟩ ?_
 exact ⟨true,jk,a⟩ }
 {
 have a:=Zj a g
 refine Wo [(3,.bool false)] [(0,one (.str v0)),(1,one (.str v1)),(16,ob (decide ((v1.length:Int) > 60)))] [] [(decide ((v0.length:Int) > 100))=false] ⟨g,trivial⟩ ?_
 exact ⟨(decide ((v1.length:Int) > 60)),jk,a⟩ } }
end Go.Proofs.YthilboheomikjaaGreatDoor
end
section
namespace Go.Proofs.YthilboheomikjaaGreatDoor.Pure
open Go.AL Go.Lib
set_option maxRecDepth 100000
theorem RexTexts (p s:List UInt8) (_:p.length≤140737488351232) (_:s.length≤140737488351232):∃k,F8 k p s=some true:=by
  refine ⟨10000,?_⟩
  have told:F26 10000=some true:=by kernel_rfl
  have short:ZhE 10000 p s true=some true:=by unfold ZhE;rw [zt_,told];rfl
  unfold F8
  by_cases h:(p.length:Int) > 100
  · rw [dt h,zt_];exact short
  · rw [df h,zf_]
    by_cases h2:(s.length:Int) > 60
    · rw [dt h2];exact short
    · rw [df h2]
      obtain ⟨a,e,e1,e2,hf⟩:=ZnL (k:=10000) (s:=p) (by omega) (by omega)
      unfold ZhE Zi4
      rw [zf_,e2,zb_]
      simp only
      by_cases he:e=0
      · subst he
        obtain ⟨b1,e4,p4⟩:=Zo3 (k:=10000) (r:=a) (s:=s) (by omega) (by omega) (by omega) (by omega)
        obtain ⟨b2,e5,p5⟩:=ZnM (k:=10000) (r:=a) (s:=s) (by omega) (by omega) (by omega) (by omega)
        have hb:b1=b2:=Bool.eq_iff_iff.2 (p4.trans p5.symm)
        subst hb
        rw [show ((0:Int) != 0)=false from rfl,zf_,e1,told]
        simp only [zb_,zt_,beq_self_eq_true]
        rw [e4,e5]
        simp
      · rw [show (e != 0)=true by simp [he],zt_,told];rfl
end Go.Proofs.YthilboheomikjaaGreatDoor.Pure
end
