/- GS, S1, S2, S3, S4, S5, S6, S7, S8, S9, S10, S11, G8, P8 -/
import Derived.Test.YthilboheomikjaaGreatDoorMRRexTexts2
set_option linter.unusedVariables false
set_option linter.unusedSimpArgs false
section
namespace Go.Proofs.YthilboheomikjaaGreatDoor
open Go.AL
set_option maxRecDepth 100000
def F160 (k:Nat) (v0:Int):Option Int:=
  (F112 k (IntKind.wrap .u64 v0)).bind fun a=>if (0:Int)≤a then (some (IntKind.wrap .u64 (1*2 ^ (min (Int.toNat a) 64)))) else none
theorem Zp6 (k:Nat) (v0:Int) (r:Int) (b:F160 k v0=some r):SM 160 [oi v0] [] (one (.int .u64 r)) []:=by
 refine Zz [] Tryz.func160 rfl kr kr ?_
 show WA _ _ 7 _ _ _
 refine Ws [] [(0,oi v0)] [] ?_
 obtain ⟨a,d,b⟩:=Zh b
 obtain ⟨c,b⟩:=Zo b
 refine Wos [(2,.callR [] (oi a))] [(2,one (.int .u64 (IntKind.wrap .u64 (1*2 ^ (min (Int.toNat a) 64)))))] [] [SM 112 [one (.int .u64 (IntKind.wrap .u64 v0))] [] (oi a) [],([]:List Nat).Nodup,(0:Int)≤a] ⟨(ZmM k _ _ d),nd,c,trivial⟩ ?_
 refine WA.ret ?_
 obtain rfl:=zj_ b
 exact Zq (one (.int .u64 (IntKind.wrap .u64 (1*2 ^ (min (Int.toNat a) 64))))) [] kr kr kr kr nd rfl rfl
def F161 (k:Nat) (v0:Int):Option (Int×Int):=
  (if (0:Int)≤13 then (if (0:Int)≤7 then (if (0:Int)≤17 then ((some ((ZA .xor .u64 (ZA .xor .u64 (ZA .xor .u64 v0 (IntKind.wrap .u64 (v0*2 ^ (min (Int.toNat 13) 64)))) (Int.fdiv (ZA .xor .u64 v0 (IntKind.wrap .u64 (v0*2 ^ (min (Int.toNat 13) 64)))) (2 ^ (min (Int.toNat 7) 64)))) (IntKind.wrap .u64 ((ZA .xor .u64 (ZA .xor .u64 v0 (IntKind.wrap .u64 (v0*2 ^ (min (Int.toNat 13) 64)))) (Int.fdiv (ZA .xor .u64 v0 (IntKind.wrap .u64 (v0*2 ^ (min (Int.toNat 13) 64)))) (2 ^ (min (Int.toNat 7) 64))))*2 ^ (min (Int.toNat 17) 64)))),(ZA .xor .u64 (ZA .xor .u64 (ZA .xor .u64 v0 (IntKind.wrap .u64 (v0*2 ^ (min (Int.toNat 13) 64)))) (Int.fdiv (ZA .xor .u64 v0 (IntKind.wrap .u64 (v0*2 ^ (min (Int.toNat 13) 64)))) (2 ^ (min (Int.toNat 7) 64)))) (IntKind.wrap .u64 ((ZA .xor .u64 (ZA .xor .u64 v0 (IntKind.wrap .u64 (v0*2 ^ (min (Int.toNat 13) 64)))) (Int.fdiv (ZA .xor .u64 v0 (IntKind.wrap .u64 (v0*2 ^ (min (Int.toNat 13) 64)))) (2 ^ (min (Int.toNat 7) 64))))*2 ^ (min (Int.toNat 17) 64))))))) else none) else none) else none)
theorem Zp7 (k:Nat) (v0:Int) (r:Int×Int) (a:F161 k v0=some r):SM 161 [pt 0] [bx [.int .u64 v0]] (one (.int .u64 r.1)) [bx [.int .u64 r.2]]:=by
 refine Zz [0] Tryz.func161 rfl kr kr ?_
 show WA _ _ 33 _ _ _
 refine Ws [] [(0,pt 0)] [(0,bx [.int .u64 v0])] ?_
 refine WA.seq ?_
 obtain ⟨b,a⟩:=Zo a
 refine Wd [] [(0,pt 0)] [(0,bx [.int .u64 (ZA .xor .u64 v0 (IntKind.wrap .u64 (v0*2 ^ (min (Int.toNat 13) 64))))])] [(0:Int)≤13] ⟨b,trivial⟩ ?_
 refine WA.seq ?_
 obtain ⟨c,a⟩:=Zo a
 refine Wd [] [(0,pt 0)] [(0,bx [.int .u64 (ZA .xor .u64 (ZA .xor .u64 v0 (IntKind.wrap .u64 (v0*2 ^ (min (Int.toNat 13) 64)))) (Int.fdiv (ZA .xor .u64 v0 (IntKind.wrap .u64 (v0*2 ^ (min (Int.toNat 13) 64)))) (2 ^ (min (Int.toNat 7) 64))))])] [(0:Int)≤7] ⟨c,trivial⟩ ?_
 refine WA.seq ?_
 obtain ⟨d,a⟩:=Zo a
 refine Wd [] [(0,pt 0)] [(0,bx [.int .u64 (ZA .xor .u64 (ZA .xor .u64 (ZA .xor .u64 v0 (IntKind.wrap .u64 (v0*2 ^ (min (Int.toNat 13) 64)))) (Int.fdiv (ZA .xor .u64 v0 (IntKind.wrap .u64 (v0*2 ^ (min (Int.toNat 13) 64)))) (2 ^ (min (Int.toNat 7) 64)))) (IntKind.wrap .u64 ((ZA .xor .u64 (ZA .xor .u64 v0 (IntKind.wrap .u64 (v0*2 ^ (min (Int.toNat 13) 64)))) (Int.fdiv (ZA .xor .u64 v0 (IntKind.wrap .u64 (v0*2 ^ (min (Int.toNat 13) 64)))) (2 ^ (min (Int.toNat 7) 64))))*2 ^ (min (Int.toNat 17) 64))))])] [(0:Int)≤17] ⟨d,trivial⟩ ?_
 refine Ws [] [(2,one (.int .u64 (ZA .xor .u64 (ZA .xor .u64 (ZA .xor .u64 v0 (IntKind.wrap .u64 (v0*2 ^ (min (Int.toNat 13) 64)))) (Int.fdiv (ZA .xor .u64 v0 (IntKind.wrap .u64 (v0*2 ^ (min (Int.toNat 13) 64)))) (2 ^ (min (Int.toNat 7) 64)))) (IntKind.wrap .u64 ((ZA .xor .u64 (ZA .xor .u64 v0 (IntKind.wrap .u64 (v0*2 ^ (min (Int.toNat 13) 64)))) (Int.fdiv (ZA .xor .u64 v0 (IntKind.wrap .u64 (v0*2 ^ (min (Int.toNat 13) 64)))) (2 ^ (min (Int.toNat 7) 64))))*2 ^ (min (Int.toNat 17) 64))))))] [(0,bx [.int .u64 (ZA .xor .u64 (ZA .xor .u64 (ZA .xor .u64 v0 (IntKind.wrap .u64 (v0*2 ^ (min (Int.toNat 13) 64)))) (Int.fdiv (ZA .xor .u64 v0 (IntKind.wrap .u64 (v0*2 ^ (min (Int.toNat 13) 64)))) (2 ^ (min (Int.toNat 7) 64)))) (IntKind.wrap .u64 ((ZA .xor .u64 (ZA .xor .u64 v0 (IntKind.wrap .u64 (v0*2 ^ (min (Int.toNat 13) 64)))) (Int.fdiv (ZA .xor .u64 v0 (IntKind.wrap .u64 (v0*2 ^ (min (Int.toNat 13) 64)))) (2 ^ (min (Int.toNat 7) 64))))*2 ^ (min (Int.toNat 17) 64))))])] ?_
 refine WA.ret ?_
 obtain rfl:=zj_ a
 exact Zq (one (.int .u64 (ZA .xor .u64 (ZA .xor .u64 (ZA .xor .u64 v0 (IntKind.wrap .u64 (v0*2 ^ (min (Int.toNat 13) 64)))) (Int.fdiv (ZA .xor .u64 v0 (IntKind.wrap .u64 (v0*2 ^ (min (Int.toNat 13) 64)))) (2 ^ (min (Int.toNat 7) 64)))) (IntKind.wrap .u64 ((ZA .xor .u64 (ZA .xor .u64 v0 (IntKind.wrap .u64 (v0*2 ^ (min (Int.toNat 13) 64)))) (Int.fdiv (ZA .xor .u64 v0 (IntKind.wrap .u64 (v0*2 ^ (min (Int.toNat 13) 64)))) (2 ^ (min (Int.toNat 7) 64))))*2 ^ (min (Int.toNat 17) 64)))))) [bx [.int .u64 (ZA .xor .u64 (ZA .xor .u64 (ZA .xor .u64 v0 (IntKind.wrap .u64 (v0*2 ^ (min (Int.toNat 13) 64)))) (Int.fdiv (ZA .xor .u64 v0 (IntKind.wrap .u64 (v0*2 ^ (min (Int.toNat 13) 64)))) (2 ^ (min (Int.toNat 7) 64)))) (IntKind.wrap .u64 ((ZA .xor .u64 (ZA .xor .u64 v0 (IntKind.wrap .u64 (v0*2 ^ (min (Int.toNat 13) 64)))) (Int.fdiv (ZA .xor .u64 v0 (IntKind.wrap .u64 (v0*2 ^ (min (Int.toNat 13) 64)))) (2 ^ (min (Int.toNat 7) 64))))*2 ^ (min (Int.toNat 17) 64))))]] kr kr kr kr nd rfl rfl
def F191 (k:Nat) (v0:List Zb) (v1:Int) (a:Int) (e:Int):Option (Int×Int×(List Zb)×Int):=
  (if (0:Int)≤a∧a<(v0.length:Int) then (idxL v0 a).bind fun b=>if (0:Int)≤v1∧v1<(v0.length:Int) then (idxL v0 v1).bind fun c=>(F104 k b c).bind fun d=>(cond (decide (d<0)) (((some (a,v1,v0,(w64 (e+1)))))) (((some (v1,a,v0,e))))) else none else none)
theorem ZjX (k:Nat) (v0:List Zb) (v1:Int) (c:Int) (e:Int) (r:Int×Int×(List Zb)×Int) (a:F191 k v0 v1 c e=some r) {n0:Nat} (hn_n0:n0=v0.length):SM 191 [ar 0 n0,oi v1,oi c,pt 1,.val false [.pv (.fn 104)]] [.arr 2 (v0.map Za),bx [.int .i64 e]] (.tup [(false,[.pv (.int .i64 r.1)]),(false,[.pv (.int .i64 r.2.1)])]) [.arr 2 (r.2.2.1.map Za),bx [.int .i64 r.2.2.2]]:=by
 refine Zz [0,1] Tryz.func191 rfl kr kr ?_
 show WA _ _ 32 _ _ _
 refine Ws [] [(0,ar 0 n0),(1,oi v1),(2,oi c),(3,pt 1),(4,.val false [.pv (.fn 104)])] [(0,.arr 2 (v0.map Za)),(1,bx [.int .i64 e])] ?_
 refine WA.seq ?_
 refine WA.seq ?_
 obtain ⟨i,a⟩:=Zo a
 obtain ⟨g,l,a⟩:=Zh a
 obtain ⟨j,a⟩:=Zo a
 obtain ⟨h,m,a⟩:=Zh a
 obtain ⟨f,n,a⟩:=Zh a
 refine Wd [(4,.cells (Za g)),(8,.cells (Za h)),(9,.callR [] (oi f))] [(1,oi v1),(2,oi c),(3,pt 1),(22,ob (decide (f<0)))] [(0,.arr 2 (v0.map Za)),(1,bx [.int .i64 e])] [n0=(v0.map Za).length,(0:Int)≤c,c<((n0:Nat):Int),n0=(v0.map Za).length,(v0.map Za)[Int.toNat c]?=some (Za g),n0=(v0.map Za).length,(0:Int)≤v1,v1<((n0:Nat):Int),n0=(v0.map Za).length,(v0.map Za)[Int.toNat v1]?=some (Za h),SM 104 [tv (Za g),tv (Za h)] [] (oi f) [],([]:List Nat).Nodup] ⟨zt,i.1,(by have h_:=i.2;(try simp only [zl,Zi] at h_ ⊢);omega),zt,(Zs (Zt _ l)),zt,j.1,(by have h_:=j.2;(try simp only [zl,Zi] at h_ ⊢);omega),zt,(Zs (Zt _ m)),(Zas k _ _ _ n),nd,trivial⟩ ?_
 refine WA.cond (b:=(decide (f<0))) rfl (fun d=>?_) (fun d=>?_)
 {
 have a:=Zk a d
 refine Ws [] [(1,oi v1),(2,oi c)] [(0,.arr 2 (v0.map Za)),(1,bx [.int .i64 (w64 (e+1))])] ?_
 refine Ws [] [(10,oi c),(11,oi v1)] [(0,.arr 2 (v0.map Za)),(1,bx [.int .i64 (w64 (e+1))])] ?_
 refine WA.ret ?_
 obtain rfl:=zj_ a
 exact Zq (.tup [(false,[.pv (.int .i64 c)]),(false,[.pv (.int .i64 v1)])]) [.arr 2 (v0.map Za),bx [.int .i64 (w64 (e+1))]] kr kr kr kr nd rfl rfl }
 {
 have a:=Zj a d
 refine WA.skip ?_
 refine Ws [] [(10,oi v1),(11,oi c)] [(0,.arr 2 (v0.map Za)),(1,bx [.int .i64 e])] ?_
 refine WA.ret ?_
 obtain rfl:=zj_ a
 exact Zq (.tup [(false,[.pv (.int .i64 v1)]),(false,[.pv (.int .i64 c)])]) [.arr 2 (v0.map Za),bx [.int .i64 e]] kr kr kr kr nd rfl rfl }
def F178 (k:Nat) (v0:List Zb) (v1:Int) (d:Int) (e:Int) (f:Int):Option (Int×(List Zb)×Int):=
  (F191 k v0 v1 d f).bind fun a=>if a.2.2.1.length=v0.length then (F191 k a.2.2.1 a.2.1 e a.2.2.2).bind fun b=>if b.2.2.1.length=a.2.2.1.length then (F191 k b.2.2.1 a.1 b.1 b.2.2.2).bind fun c=>if c.2.2.1.length=b.2.2.1.length then ((some (c.2.1,c.2.2.1,c.2.2.2))) else none else none else none
theorem ZmX (k:Nat) (v0:List Zb) (v1:Int) (i:Int) (e:Int) (j:Int) (r:Int×(List Zb)×Int) (d:F178 k v0 v1 i e j=some r) {n0:Nat} (hn_n0:n0=v0.length):SM 178 [ar 0 n0,oi v1,oi i,oi e,pt 1,.val false [.pv (.fn 104)]] [.arr 2 (v0.map Za),bx [.int .i64 j]] (oi r.1) [.arr 2 (r.2.1.map Za),bx [.int .i64 r.2.2]]:=by
 refine Zz [0,1] Tryz.func178 rfl kr kr ?_
 show WA _ _ 41 _ _ _
 refine Ws [] [(0,ar 0 n0),(1,oi v1),(2,oi i),(3,oi e),(4,pt 1),(5,.val false [.pv (.fn 104)])] [(0,.arr 2 (v0.map Za)),(1,bx [.int .i64 j])] ?_
 obtain ⟨a,f,d⟩:=Zh d
 obtain ⟨l,d⟩:=Zo d
 refine Wos [(5,.call [0,1] (.tup [(false,[.pv (.int .i64 a.1)]),(false,[.pv (.int .i64 a.2.1)])]) [.arr 2 (a.2.2.1.map Za),bx [.int .i64 a.2.2.2]] [])] [(0,ar 0 n0),(1,oi a.1),(2,oi a.2.1),(3,oi e),(4,pt 1),(5,.val false [.pv (.fn 104)])] [(0,.arr 2 (a.2.2.1.map Za)),(1,bx [.int .i64 a.2.2.2])] [SM 191 [ar 0 n0,oi v1,oi i,pt 1,.val false [.pv (.fn 104)]] [.arr 2 (v0.map Za),bx [.int .i64 j]] (.tup [(false,[.pv (.int .i64 a.1)]),(false,[.pv (.int .i64 a.2.1)])]) [.arr 2 (a.2.2.1.map Za),bx [.int .i64 a.2.2.2]],([0,1]:List Nat).Nodup] ⟨(ZjX k _ _ _ _ _ f (n0:=n0) zt),nd,trivial⟩ ?_
 obtain ⟨c,g,d⟩:=Zh d
 obtain ⟨m,d⟩:=Zo d
 refine Wos [(5,.call [0,1] (.tup [(false,[.pv (.int .i64 c.1)]),(false,[.pv (.int .i64 c.2.1)])]) [.arr 2 (c.2.2.1.map Za),bx [.int .i64 c.2.2.2]] [])] [(0,ar 0 n0),(1,oi a.1),(2,oi c.1),(4,pt 1),(5,.val false [.pv (.fn 104)])] [(0,.arr 2 (c.2.2.1.map Za)),(1,bx [.int .i64 c.2.2.2])] [SM 191 [ar 0 n0,oi a.2.1,oi e,pt 1,.val false [.pv (.fn 104)]] [.arr 2 (a.2.2.1.map Za),bx [.int .i64 a.2.2.2]] (.tup [(false,[.pv (.int .i64 c.1)]),(false,[.pv (.int .i64 c.2.1)])]) [.arr 2 (c.2.2.1.map Za),bx [.int .i64 c.2.2.2]],([0,1]:List Nat).Nodup] ⟨(ZjX k _ _ _ _ _ g (n0:=n0) zt),nd,trivial⟩ ?_
 obtain ⟨b,h,d⟩:=Zh d
 obtain ⟨n,d⟩:=Zo d
 refine Wos [(5,.call [0,1] (.tup [(false,[.pv (.int .i64 b.1)]),(false,[.pv (.int .i64 b.2.1)])]) [.arr 2 (b.2.2.1.map Za),bx [.int .i64 b.2.2.2]] [])] [(2,oi b.2.1)] [(0,.arr 2 (b.2.2.1.map Za)),(1,bx [.int .i64 b.2.2.2])] [SM 191 [ar 0 n0,oi a.1,oi c.1,pt 1,.val false [.pv (.fn 104)]] [.arr 2 (c.2.2.1.map Za),bx [.int .i64 c.2.2.2]] (.tup [(false,[.pv (.int .i64 b.1)]),(false,[.pv (.int .i64 b.2.1)])]) [.arr 2 (b.2.2.1.map Za),bx [.int .i64 b.2.2.2]],([0,1]:List Nat).Nodup] ⟨(ZjX k _ _ _ _ _ h (n0:=n0) zt),nd,trivial⟩ ?_
 refine Ws [] [(12,oi b.2.1)] [(0,.arr 2 (b.2.2.1.map Za)),(1,bx [.int .i64 b.2.2.2])] ?_
 refine WA.ret ?_
 obtain rfl:=zj_ d
 exact Zq (oi b.2.1) [.arr 2 (b.2.2.1.map Za),bx [.int .i64 b.2.2.2]] kr kr kr kr nd rfl rfl
def F177 (k:Nat) (v0:List Zb) (v1:Int) (b:Int):Option (Int×(List Zb)×Int):=
  (F178 k v0 (w64 (v1-1)) v1 (w64 (v1+1)) b).bind fun a=>if a.2.1.length=v0.length then (some (a.1,a.2.1,a.2.2)) else none
theorem ZjW (k:Nat) (v0:List Zb) (v1:Int) (d:Int) (r:Int×(List Zb)×Int) (b:F177 k v0 v1 d=some r) {n0:Nat} (hn_n0:n0=v0.length):SM 177 [ar 0 n0,oi v1,pt 1,.val false [.pv (.fn 104)]] [.arr 2 (v0.map Za),bx [.int .i64 d]] (oi r.1) [.arr 2 (r.2.1.map Za),bx [.int .i64 r.2.2]]:=by
 refine Zz [0,1] Tryz.func177 rfl kr kr ?_
 show WA _ _ 18 _ _ _
 refine Ws [] [(0,ar 0 n0),(1,oi v1),(2,pt 1),(3,.val false [.pv (.fn 104)])] [(0,.arr 2 (v0.map Za)),(1,bx [.int .i64 d])] ?_
 obtain ⟨a,c,b⟩:=Zh b
 obtain ⟨e,b⟩:=Zo b
 refine Wos [(8,.call [0,1] (oi a.1) [.arr 2 (a.2.1.map Za),bx [.int .i64 a.2.2]] [])] [(8,oi a.1)] [(0,.arr 2 (a.2.1.map Za)),(1,bx [.int .i64 a.2.2])] [SM 178 [ar 0 n0,oi (w64 (v1-1)),oi v1,oi (w64 (v1+1)),pt 1,.val false [.pv (.fn 104)]] [.arr 2 (v0.map Za),bx [.int .i64 d]] (oi a.1) [.arr 2 (a.2.1.map Za),bx [.int .i64 a.2.2]],([0,1]:List Nat).Nodup] ⟨(ZmX k _ _ _ _ _ _ c (n0:=n0) zt),nd,trivial⟩ ?_
 refine WA.ret ?_
 obtain rfl:=zj_ b
 exact Zq (oi a.1) [.arr 2 (a.2.1.map Za),bx [.int .i64 a.2.2]] kr kr kr kr nd rfl rfl
def ZeT (k:Nat) (f:(List Zb)→Int→Option (List Zb)) (d:Int) (a:List Zb) (b:Int) (c:Int):Option (List Zb):=
  if (0:Int)≤(w64 (d+b))∧(w64 (d+b))<(a.length:Int) then (idxL a (w64 (d+b))).bind fun g=>if (0:Int)≤(w64 (d+c))∧(w64 (d+c))<(a.length:Int) then (idxL a (w64 (d+c))).bind fun h=>(F104 k g h).bind fun i=>(cond (!(decide (i<0))) (some a) ((if (0:Int)≤(w64 (d+c))∧(w64 (d+c))<(a.length:Int) then (idxL a (w64 (d+c))).bind fun e=>if (0:Int)≤(w64 (d+b))∧(w64 (d+b))<(a.length:Int) then (idxL a (w64 (d+b))).bind fun j=>if (0:Int)≤(w64 (d+b))∧(w64 (d+b))<(a.length:Int) then (idxL a (w64 (d+b))).bind fun l=>if (0:Int)≤(w64 (d+c))∧(w64 (d+c))<((a.set (Int.toNat (w64 (d+b))) e).length:Int) then (idxL (a.set (Int.toNat (w64 (d+b))) e) (w64 (d+c))).bind fun m=>(f ((a.set (Int.toNat (w64 (d+b))) e).set (Int.toNat (w64 (d+c))) j) c) else none else none else none else none))) else none else none
def ZeS (k:Nat) (b:(List Zb)→Int→Option (List Zb)) (e:Int) (c:List Zb) (a:Int) (d:Bool):Option (List Zb):=
  cond d ((ZeT k b e c a (w64 ((w64 ((w64 (2*a))+1))+1)))) ((ZeT k b e c a (w64 ((w64 (2*a))+1))))
def Zhz (k:Nat) (d:(List Zb)→Int→Option (List Zb)) (h:Int) (c:Int) (b:List Zb) (a:Int):Option (List Zb):=
  ((cond (decide ((w64 ((w64 (2*a))+1))≥h)) (some b) ((cond (decide ((w64 ((w64 ((w64 (2*a))+1))+1))<h)) (if (0:Int)≤(w64 (c+(w64 ((w64 (2*a))+1))))∧(w64 (c+(w64 ((w64 (2*a))+1))))<(b.length:Int) then (idxL b (w64 (c+(w64 ((w64 (2*a))+1))))).bind fun e=>if (0:Int)≤(w64 ((w64 (c+(w64 ((w64 (2*a))+1))))+1))∧(w64 ((w64 (c+(w64 ((w64 (2*a))+1))))+1))<(b.length:Int) then (idxL b (w64 ((w64 (c+(w64 ((w64 (2*a))+1))))+1))).bind fun f=>(F104 k e f).bind fun g=>(ZeS k d c b a (decide (g<0))) else none else none) ((ZeS k d c b a false))))))
def ZbP (k:Nat) (c:Int) (d:Int):Nat→(List Zb)→Int→Option (List Zb)
  | 0,_,_=>none
  | e+1,a,b=>Zhz k (ZbP k c d e) c d a b
def F176 (k:Nat) (v0:List Zb) (v1:Int) (a:Int) (b:Int):Option (List Zb):=
  (ZbP k a b k v0 v1)
theorem ZmW (k:Nat) (v0:List Zb) (v1:Int) (i:Int) (f:Int) (r:List Zb) (e:F176 k v0 v1 i f=some r) {n0:Nat} (hn_n0:n0=v0.length):SM 176 [ar 0 n0,oi v1,oi i,oi f,.val false [.pv (.fn 104)]] [.arr 2 (v0.map Za)] (.tup []) [.arr 2 (r.map Za)]:=by
 refine Zz [0] Tryz.func176 rfl kr kr ?_
 show WA _ _ 82 _ _ _
 refine Ws [] [(0,ar 0 n0),(2,oi i),(3,oi f),(4,.val false [.pv (.fn 104)]),(10,oi v1)] [(0,.arr 2 (v0.map Za))] ?_
 refine WA.block ?_
 refine WA.loop (fun m y=>∃(c:List Zb) (d:Nat) (a:Int),J y [(0,ar 0 d),(2,oi i),(3,oi f),(4,.val false [.pv (.fn 104)]),(10,oi a)] [(0,.arr 2 (c.map Za))]∧d=(c:List _).length∧ZbP k i f m c a=some r) k ⟨v0,n0,v1,jk,zt,e⟩ ?_
 clear e
 rintro m4 y ⟨c,d,a,w,c4,e⟩
 refine Wj w ?_
 clear w
 cases m4 with
 | zero=>cases e
 | succ m4=>
  obtain ⟨s,x⟩:∃g,g=ZbP k i f m4:=⟨_,rfl⟩
  have e:Zhz k s i f c a=some r:=by first | (rw [x];exact e) | exact e
  refine WA.block ?_
  refine Ws [] [(0,ar 0 d),(2,oi i),(3,oi f),(4,.val false [.pv (.fn 104)]),(10,oi a),(11,oi (w64 ((w64 (2*a))+1)))] [(0,.arr 2 (c.map Za))] ?_
  refine WA.seq ?_
  refine Ws [] [(0,ar 0 d),(2,oi i),(3,oi f),(4,.val false [.pv (.fn 104)]),(10,oi a),(11,oi (w64 ((w64 (2*a))+1))),(18,ob (decide ((w64 ((w64 (2*a))+1))≥i)))] [(0,.arr 2 (c.map Za))] ?_
  refine WA.cond (b:=(decide ((w64 ((w64 (2*a))+1))≥i))) rfl (fun o=>?_) (fun o=>?_)
  {
 have e:=Zk e o
 refine WA.exit ?_
 obtain rfl:=zj_ e
 exact ZcV (.tup []) [.arr 2 (c.map Za)] kr kr kr kr nd rfl rfl }
  {
 have e:=Zj e o
 refine WA.skip ?_
 refine WA.join (fun y=>∃(h:Int),J y [(0,ar 0 d),(2,oi i),(3,oi f),(4,.val false [.pv (.fn 104)]),(10,oi a),(11,oi h)] [(0,.arr 2 (c.map Za))]∧ZeT k s f c a h=some r) ?_ ?_
 {
 rintro y ⟨h,w,e⟩
 refine Wj w ?_
 clear w
 refine WA.seq ?_
 refine WA.seq ?_
 obtain ⟨a5,e⟩:=Zo e
 obtain ⟨a1,b6,e⟩:=Zh e
 obtain ⟨a6,e⟩:=Zo e
 obtain ⟨a2,b7,e⟩:=Zh e
 obtain ⟨v,b8,e⟩:=Zh e
 refine Wd [(6,.cells (Za a1)),(12,.cells (Za a2)),(13,.callR [] (oi v))] [(0,ar 0 d),(2,oi i),(3,oi f),(4,.val false [.pv (.fn 104)]),(10,oi a),(11,oi h),(58,ob (!(decide (v<0))))] [(0,.arr 2 (c.map Za))] [d=(c.map Za).length,(0:Int)≤(w64 (f+a)),(w64 (f+a))<((d:Nat):Int),d=(c.map Za).length,(c.map Za)[Int.toNat (w64 (f+a))]?=some (Za a1),d=(c.map Za).length,(0:Int)≤(w64 (f+h)),(w64 (f+h))<((d:Nat):Int),d=(c.map Za).length,(c.map Za)[Int.toNat (w64 (f+h))]?=some (Za a2),SM 104 [tv (Za a1),tv (Za a2)] [] (oi v) [],([]:List Nat).Nodup] ⟨zt,a5.1,(by have h_:=a5.2;(try simp only [zl,Zi] at h_ ⊢);omega),zt,(Zs (Zt _ b6)),zt,a6.1,(by have h_:=a6.2;(try simp only [zl,Zi] at h_ ⊢);omega),zt,(Zs (Zt _ b7)),(Zas k _ _ _ b8),nd,trivial⟩ ?_
 refine WA.cond (b:=(!(decide (v<0)))) rfl (fun q=>?_) (fun q=>?_)
 {
 have e:=Zk e q
 refine WA.ret ?_
 obtain rfl:=zj_ e
 exact Zq (.tup []) [.arr 2 (c.map Za)] kr kr kr kr nd rfl rfl }
 {
 have e:=Zj e q
 refine WA.skip ?_
 refine WA.seq ?_
 obtain ⟨a7,e⟩:=Zo e
 obtain ⟨j,b9,e⟩:=Zh e
 obtain ⟨a8,e⟩:=Zo e
 obtain ⟨n,c0,e⟩:=Zh e
 obtain ⟨b1,e⟩:=Zo e
 obtain ⟨a9,c1,e⟩:=Zh e
 obtain ⟨b2,e⟩:=Zo e
 obtain ⟨b0,c2,e⟩:=Zh e
 have z0:(w64 (f+h))<((d:Nat):Int):=(by have h_:=a7.2;(try simp only [zl,Zi] at h_ ⊢);omega)
 have z2:(w64 (f+a))<((d:Nat):Int):=(by have h_:=a8.2;(try simp only [zl,Zi] at h_ ⊢);omega)
 refine Wdm (((((c.map Za).set (Int.toNat (w64 (f+a))) (Za j)).set (Int.toNat (w64 (f+h))) (Za n)),((c.map Za).set (Int.toNat (w64 (f+a))) (Za j))):(List (List PV))×(List (List PV))) ((((c.set (Int.toNat (w64 (f+a))) j).set (Int.toNat (w64 (f+h))) n).map Za),((c.set (Int.toNat (w64 (f+a))) j).map Za)) (fun m_=>([(0,ar 0 d),(2,oi i),(3,oi f),(4,.val false [.pv (.fn 104)]),(11,oi h)],[(0,.arr 2 m_.1)],[d=(c.map Za).length,(0:Int)≤(w64 (f+h)),(w64 (f+h))<((d:Nat):Int),d=(c.map Za).length,(c.map Za)[Int.toNat (w64 (f+h))]?=some (Za j),d=(c.map Za).length,(0:Int)≤(w64 (f+a)),(w64 (f+a))<((d:Nat):Int),d=(c.map Za).length,(c.map Za)[Int.toNat (w64 (f+a))]?=some (Za n),d=(c.map Za).length,(0:Int)≤(w64 (f+a)),(w64 (f+a))<((d:Nat):Int),d=(c.map Za).length,(c.map Za)[Int.toNat (w64 (f+a))]?=some (Za a9),d=m_.2.length,(0:Int)≤(w64 (f+h)),(w64 (f+h))<((d:Nat):Int),d=m_.2.length,m_.2[Int.toNat (w64 (f+h))]?=some (Za b0)])) (ZH zm zm) [(13,.cells (Za j)),(19,.cells (Za n)),(21,.cells (Za a9)),(23,.cells (Za b0))] ⟨zt,a7.1,z0,zt,(Zs (Zt _ b9)),zt,a8.1,z2,zt,(Zs (Zt _ c0)),zt,b1.1,z2,zt,(Zs (Zt _ c1)),zt,b2.1,z0,zt,(Zs (Zt _ c2)),trivial⟩ ?_
 refine Wr [] [(0,ar 0 d),(2,oi i),(3,oi f),(4,.val false [.pv (.fn 104)]),(10,oi h)] [(0,.arr 2 (((c.set (Int.toNat (w64 (f+a))) j).set (Int.toNat (w64 (f+h))) n).map Za))] ?_
 exact ⟨m4,zl_ _,((c.set (Int.toNat (w64 (f+a))) j).set (Int.toNat (w64 (f+h))) n),d,h,jk,zt,by rw [x] at e;exact e⟩ } }
 {
 refine WA.join (fun y=>∃(t:Bool),J y [(0,ar 0 d),(2,oi i),(3,oi f),(4,.val false [.pv (.fn 104)]),(10,oi a),(11,oi (w64 ((w64 (2*a))+1))),(40,ob t)] [(0,.arr 2 (c.map Za))]∧ZeS k s f c a t=some r) ?_ ?_
 {
 rintro y ⟨t,w,e⟩
 refine Wj w ?_
 clear w
 refine WA.cond (b:=t) rfl (fun p=>?_) (fun p=>?_)
 {
 have e:=Zk e p
 refine Wr [] [(0,ar 0 d),(2,oi i),(3,oi f),(4,.val false [.pv (.fn 104)]),(10,oi a),(11,oi (w64 ((w64 ((w64 (2*a))+1))+1)))] [(0,.arr 2 (c.map Za))] ?_
 exact ⟨(w64 ((w64 ((w64 (2*a))+1))+1)),jk,e⟩ }
 {
 have e:=Zj e p
 refine WA.skip ?_
 exact ⟨(w64 ((w64 (2*a))+1)),jk,e⟩ } }
 {
 rcases zo_ (decide ((w64 ((w64 ((w64 (2*a))+1))+1))<i)) with l | l
 {
 have e:=Zk e l
 obtain ⟨a3,e⟩:=Zo e
 obtain ⟨z,b3,e⟩:=Zh e
 obtain ⟨a4,e⟩:=Zo e
 obtain ⟨a0,b4,e⟩:=Zh e
 obtain ⟨u,b5,e⟩:=Zh e
 refine Wd [(4,.bool true),(11,.cells (Za z)),(18,.cells (Za a0)),(19,.callR [] (oi u))] [(0,ar 0 d),(2,oi i),(3,oi f),(4,.val false [.pv (.fn 104)]),(10,oi a),(11,oi (w64 ((w64 (2*a))+1))),(40,ob (decide (u<0)))] [(0,.arr 2 (c.map Za))] [(decide ((w64 ((w64 ((w64 (2*a))+1))+1))<i))=true,d=(c.map Za).length,(0:Int)≤(w64 (f+(w64 ((w64 (2*a))+1)))),(w64 (f+(w64 ((w64 (2*a))+1))))<((d:Nat):Int),d=(c.map Za).length,(c.map Za)[Int.toNat (w64 (f+(w64 ((w64 (2*a))+1))))]?=some (Za z),d=(c.map Za).length,(0:Int)≤(w64 ((w64 (f+(w64 ((w64 (2*a))+1))))+1)),(w64 ((w64 (f+(w64 ((w64 (2*a))+1))))+1))<((d:Nat):Int),d=(c.map Za).length,(c.map Za)[Int.toNat (w64 ((w64 (f+(w64 ((w64 (2*a))+1))))+1))]?=some (Za a0),SM 104 [tv (Za z),tv (Za a0)] [] (oi u) [],([]:List Nat).Nodup] ⟨l,zt,a3.1,(by have h_:=a3.2;(try simp only [zl,Zi] at h_ ⊢);omega),zt,(Zs (Zt _ b3)),zt,a4.1,(by have h_:=a4.2;(try simp only [zl,Zi] at h_ ⊢);omega),zt,(Zs (Zt _ b4)),(Zas k _ _ _ b5),nd,trivial⟩ ?_
 exact ⟨(decide (u<0)),jk,e⟩ }
 {
 have e:=Zj e l
 refine Wd [(4,.bool false),(19,.callR [] (.tup []))] [(0,ar 0 d),(2,oi i),(3,oi f),(4,.val false [.pv (.fn 104)]),(10,oi a),(11,oi (w64 ((w64 (2*a))+1))),(40,ob false)] [(0,.arr 2 (c.map Za))] [(decide ((w64 ((w64 ((w64 (2*a))+1))+1))<i))=false] ⟨l,trivial⟩ ?_
 exact ⟨false,jk,e⟩ } } } }
def Zca (self24:(List Zb)→Int→Int→Option (Int×Bool×(List Zb))) (f:Int→Option (Int×Bool×(List Zb))) (v1:Int) (b:List Zb) (c:Int) (a:Int) (g:Bool):Option (Int×Bool×(List Zb)):=
  cond g ((f (w64 (a-1)))) (((cond (decide (c > a)) ((if (0:Int)≤v1∧v1<(b.length:Int) then (idxL b v1).bind fun e=>if (0:Int)≤a∧a<(b.length:Int) then (idxL b a).bind fun i=>if (0:Int)≤a∧a<(b.length:Int) then (idxL b a).bind fun l=>if (0:Int)≤v1∧v1<((b.set (Int.toNat a) e).length:Int) then (idxL (b.set (Int.toNat a) e) v1).bind fun m=>((some (a,false,((b.set (Int.toNat a) e).set (Int.toNat v1) i)))) else none else none else none else none)) ((if (0:Int)≤a∧a<(b.length:Int) then (idxL b a).bind fun d=>if (0:Int)≤c∧c<(b.length:Int) then (idxL b c).bind fun h=>if (0:Int)≤c∧c<(b.length:Int) then (idxL b c).bind fun j=>if (0:Int)≤a∧a<((b.set (Int.toNat c) d).length:Int) then (idxL (b.set (Int.toNat c) d) a).bind fun k=>((self24 ((b.set (Int.toNat c) d).set (Int.toNat a) h) (w64 (c+1)) (w64 (a-1)))) else none else none else none else none)))))
def ZfT (k:Nat) (self24:(List Zb)→Int→Int→Option (Int×Bool×(List Zb))) (c:Int→Option (Int×Bool×(List Zb))) (v1:Int) (a:List Zb) (d:Int) (b:Int):Option (Int×Bool×(List Zb)):=
  cond (decide (d≤b)) (if (0:Int)≤b∧b<(a.length:Int) then (idxL a b).bind fun e=>if (0:Int)≤v1∧v1<(a.length:Int) then (idxL a v1).bind fun f=>(F104 k e f).bind fun g=>(Zca self24 c v1 a d b (!(decide (g<0)))) else none else none) ((Zca self24 c v1 a d b false))
def Zbx (k:Nat) (self24:(List Zb)→Int→Int→Option (Int×Bool×(List Zb))) (v1:Int) (a:List Zb) (b:Int):Nat→Int→Option (Int×Bool×(List Zb))
  | 0,_=>none
  | d+1,c=>ZfT k self24 (Zbx k self24 v1 a b d) v1 a b c
def ZfU (k:Nat) (self24:(List Zb)→Int→Int→Option (Int×Bool×(List Zb))) (a:Int→Option (Int×Bool×(List Zb))) (v1:Int) (c:List Zb) (d:Int) (b:Int) (e:Bool):Option (Int×Bool×(List Zb)):=
  cond e ((a (w64 (b+1)))) ((Zbx k self24 v1 c b k d))
def ZfS (k:Nat) (self24:(List Zb)→Int→Int→Option (Int×Bool×(List Zb))) (c:Int→Option (Int×Bool×(List Zb))) (v1:Int) (a:List Zb) (d:Int) (b:Int):Option (Int×Bool×(List Zb)):=
  cond (decide (b≤d)) (if (0:Int)≤b∧b<(a.length:Int) then (idxL a b).bind fun e=>if (0:Int)≤v1∧v1<(a.length:Int) then (idxL a v1).bind fun f=>(F104 k e f).bind fun g=>(ZfU k self24 c v1 a d b (decide (g<0))) else none else none) ((ZfU k self24 c v1 a d b false))
def Zbw (k:Nat) (self24:(List Zb)→Int→Int→Option (Int×Bool×(List Zb))) (v1:Int) (a:List Zb) (b:Int):Nat→Int→Option (Int×Bool×(List Zb))
  | 0,_=>none
  | d+1,c=>ZfS k self24 (Zbw k self24 v1 a b d) v1 a b c
def Zln (k:Nat) (self24:(List Zb)→Int→Int→Option (Int×Bool×(List Zb))) (v1:Int) (a:List Zb) (b:Int) (c:Int):Option (Int×Bool×(List Zb)):=
  Zbw k self24 v1 a c k b
def ZaH (k:Nat) (v1:Int):Nat→(List Zb)→Int→Int→Option (Int×Bool×(List Zb))
  | 0,_,_,_=>none
  | d+1,a,b,c=>Zln k (ZaH k v1 d) v1 a b c
def ZdG (k:Nat) (h:Int→Option (Int×Bool×(List Zb))) (v0:List Zb) (v1:Int) (e:Int) (b:Zb) (c:Zb) (d:Int) (a:Int) (i:Bool):Option (Int×Bool×(List Zb)):=
  cond i ((h (w64 (a-1)))) (((cond (decide (d > a)) (if (0:Int)≤v1∧v1<(((v0.set (Int.toNat v1) b).set (Int.toNat e) c).length:Int) then (idxL ((v0.set (Int.toNat v1) b).set (Int.toNat e) c) v1).bind fun f=>if (0:Int)≤a∧a<(((v0.set (Int.toNat v1) b).set (Int.toNat e) c).length:Int) then (idxL ((v0.set (Int.toNat v1) b).set (Int.toNat e) c) a).bind fun j=>if (0:Int)≤a∧a<(((v0.set (Int.toNat v1) b).set (Int.toNat e) c).length:Int) then (idxL ((v0.set (Int.toNat v1) b).set (Int.toNat e) c) a).bind fun m=>if (0:Int)≤v1∧v1<((((v0.set (Int.toNat v1) b).set (Int.toNat e) c).set (Int.toNat a) f).length:Int) then (idxL (((v0.set (Int.toNat v1) b).set (Int.toNat e) c).set (Int.toNat a) f) v1).bind fun n=>((some (a,true,((((v0.set (Int.toNat v1) b).set (Int.toNat e) c).set (Int.toNat a) f).set (Int.toNat v1) j)))) else none else none else none else none) ((if (0:Int)≤a∧a<(((v0.set (Int.toNat v1) b).set (Int.toNat e) c).length:Int) then (idxL ((v0.set (Int.toNat v1) b).set (Int.toNat e) c) a).bind fun g=>if (0:Int)≤d∧d<(((v0.set (Int.toNat v1) b).set (Int.toNat e) c).length:Int) then (idxL ((v0.set (Int.toNat v1) b).set (Int.toNat e) c) d).bind fun l=>if (0:Int)≤d∧d<(((v0.set (Int.toNat v1) b).set (Int.toNat e) c).length:Int) then (idxL ((v0.set (Int.toNat v1) b).set (Int.toNat e) c) d).bind fun o=>if (0:Int)≤a∧a<((((v0.set (Int.toNat v1) b).set (Int.toNat e) c).set (Int.toNat d) g).length:Int) then (idxL (((v0.set (Int.toNat v1) b).set (Int.toNat e) c).set (Int.toNat d) g) a).bind fun p=>(((ZaH k v1 k ((((v0.set (Int.toNat v1) b).set (Int.toNat e) c).set (Int.toNat d) g).set (Int.toNat a) l) (w64 (d+1)) (w64 (a-1))))) else none else none else none else none)))))
def Zhu (k:Nat) (e:Int→Option (Int×Bool×(List Zb))) (v0:List Zb) (v1:Int) (f:Int) (b:Zb) (c:Zb) (d:Int) (a:Int):Option (Int×Bool×(List Zb)):=
  cond (decide (d≤a)) (if (0:Int)≤a∧a<(((v0.set (Int.toNat v1) b).set (Int.toNat f) c).length:Int) then (idxL ((v0.set (Int.toNat v1) b).set (Int.toNat f) c) a).bind fun g=>if (0:Int)≤v1∧v1<(((v0.set (Int.toNat v1) b).set (Int.toNat f) c).length:Int) then (idxL ((v0.set (Int.toNat v1) b).set (Int.toNat f) c) v1).bind fun h=>(F104 k g h).bind fun i=>(ZdG k e v0 v1 f b c d a (!(decide (i<0)))) else none else none) ((ZdG k e v0 v1 f b c d a false))
def Zbl (k:Nat) (v0:List Zb) (v1:Int) (e:Int) (b:Zb) (c:Zb) (a:Int):Nat→Int→Option (Int×Bool×(List Zb))
  | 0,_=>none
  | f+1,d=>Zhu k (Zbl k v0 v1 e b c a f) v0 v1 e b c a d
def ZdF (k:Nat) (b:Int→Option (Int×Bool×(List Zb))) (v0:List Zb) (v1:Int) (f:Int) (g:Int) (d:Zb) (e:Zb) (a:Int) (c:Bool):Option (Int×Bool×(List Zb)):=
  cond c ((b (w64 (a+1)))) ((Zbl k v0 v1 g d e a k (w64 (f-1))))
def Zht (k:Nat) (d:Int→Option (Int×Bool×(List Zb))) (v0:List Zb) (v1:Int) (f:Int) (e:Int) (b:Zb) (c:Zb) (a:Int):Option (Int×Bool×(List Zb)):=
  cond (decide (a≤(w64 (f-1)))) (if (0:Int)≤a∧a<(((v0.set (Int.toNat v1) b).set (Int.toNat e) c).length:Int) then (idxL ((v0.set (Int.toNat v1) b).set (Int.toNat e) c) a).bind fun g=>if (0:Int)≤v1∧v1<(((v0.set (Int.toNat v1) b).set (Int.toNat e) c).length:Int) then (idxL ((v0.set (Int.toNat v1) b).set (Int.toNat e) c) v1).bind fun h=>(F104 k g h).bind fun i=>(ZdF k d v0 v1 f e b c a (decide (i<0))) else none else none) ((ZdF k d v0 v1 f e b c a false))
def Zci (k:Nat) (v0:List Zb) (v1:Int) (d:Int) (e:Int) (a:Zb) (b:Zb):Nat→Int→Option (Int×Bool×(List Zb))
  | 0,_=>none
  | f+1,c=>Zht k (Zci k v0 v1 d e a b f) v0 v1 d e a b c
def F156 (k:Nat) (v0:List Zb) (v1:Int) (d:Int) (a:Int):Option (Int×Bool×(List Zb)):=
  (if (0:Int)≤a∧a<(v0.length:Int) then (idxL v0 a).bind fun b=>if (0:Int)≤v1∧v1<(v0.length:Int) then (idxL v0 v1).bind fun c=>if (0:Int)≤v1∧v1<(v0.length:Int) then (idxL v0 v1).bind fun e=>if (0:Int)≤a∧a<((v0.set (Int.toNat v1) b).length:Int) then (idxL (v0.set (Int.toNat v1) b) a).bind fun f=>((Zci k v0 v1 d a b c k (w64 (v1+1)))) else none else none else none else none)
theorem Zp5 (k:Nat) (v0:List Zb) (v1:Int) (v:Int) (n:Int) (r:Int×Bool×(List Zb)) (a:F156 k v0 v1 v n=some r) {n0:Nat} (hn_n0:n0=v0.length):SM 156 [ar 0 n0,oi v1,oi v,oi n,.val false [.pv (.fn 104)]] [.arr 2 (v0.map Za)] (.tup [(false,[.pv (.int .i64 r.1)]),(false,[.pv (.bool r.2.1)])]) [.arr 2 (r.2.2.map Za)]:=by
 refine Zz [0] Tryz.func156 rfl kr kr ?_
 show WA _ _ 178 _ _ _
 refine Ws [] [(0,ar 0 n0),(1,oi v1),(2,oi v),(3,oi n),(4,.val false [.pv (.fn 104)])] [(0,.arr 2 (v0.map Za))] ?_
 refine WA.seq ?_
 obtain ⟨d6,a⟩:=Zo a
 obtain ⟨c,h6,a⟩:=Zh a
 obtain ⟨d7,a⟩:=Zo a
 obtain ⟨e,h7,a⟩:=Zh a
 obtain ⟨g6,a⟩:=Zo a
 obtain ⟨f6,h8,a⟩:=Zh a
 obtain ⟨g7,a⟩:=Zo a
 obtain ⟨f7,h9,a⟩:=Zh a
 have z0:n<((n0:Nat):Int):=(by have h_:=d6.2;(try simp only [zl,Zi] at h_ ⊢);omega)
 have z2:v1<((n0:Nat):Int):=(by have h_:=d7.2;(try simp only [zl,Zi] at h_ ⊢);omega)
 refine Wdm (((((v0.map Za).set (Int.toNat v1) (Za c)).set (Int.toNat n) (Za e)),((v0.map Za).set (Int.toNat v1) (Za c))):(List (List PV))×(List (List PV))) ((((v0.set (Int.toNat v1) c).set (Int.toNat n) e).map Za),((v0.set (Int.toNat v1) c).map Za)) (fun s=>([(0,ar 0 n0),(1,oi v1),(2,oi v),(4,.val false [.pv (.fn 104)])],[(0,.arr 2 s.1)],[n0=(v0.map Za).length,(0:Int)≤n,n<((n0:Nat):Int),n0=(v0.map Za).length,(v0.map Za)[Int.toNat n]?=some (Za c),n0=(v0.map Za).length,(0:Int)≤v1,v1<((n0:Nat):Int),n0=(v0.map Za).length,(v0.map Za)[Int.toNat v1]?=some (Za e),n0=(v0.map Za).length,(0:Int)≤v1,v1<((n0:Nat):Int),n0=(v0.map Za).length,(v0.map Za)[Int.toNat v1]?=some (Za f6),n0=s.2.length,(0:Int)≤n,n<((n0:Nat):Int),n0=s.2.length,s.2[Int.toNat n]?=some (Za f7)])) (ZH zm zm) [(7,.cells (Za c)),(11,.cells (Za e)),(13,.cells (Za f6)),(15,.cells (Za f7))] ⟨zt,d6.1,z0,zt,(Zs (Zt _ h6)),zt,d7.1,z2,zt,(Zs (Zt _ h7)),zt,g6.1,z2,zt,(Zs (Zt _ h8)),zt,g7.1,z0,zt,(Zs (Zt _ h9)),trivial⟩ ?_
 refine Ws [] [(0,ar 0 n0),(1,oi v1),(4,.val false [.pv (.fn 104)]),(12,oi (w64 (v1+1))),(13,oi (w64 (v-1)))] [(0,.arr 2 (((v0.set (Int.toNat v1) c).set (Int.toNat n) e).map Za))] ?_
 refine WA.seq ?_
 refine WA.block ?_
 refine WA.loop (fun m q=>∃(j:Int),J q [(0,ar 0 n0),(1,oi v1),(4,.val false [.pv (.fn 104)]),(12,oi j),(13,oi (w64 (v-1)))] [(0,.arr 2 (((v0.set (Int.toNat v1) c).set (Int.toNat n) e).map Za))]∧Zci k v0 v1 v n c e m j=some r) k ⟨(w64 (v1+1)),jk,a⟩ ?_
 clear a
 rintro m2 q ⟨j,p,a⟩
 refine Wj p ?_
 clear p
 cases m2 with
 | zero=>cases a
 | succ m2=>
  obtain ⟨f4,c4⟩:∃g,g=Zci k v0 v1 v n c e m2:=⟨_,rfl⟩
  have a:Zht k f4 v0 v1 v n c e j=some r:=by first | (rw [c4];exact a) | exact a
  refine WA.seq ?_
  refine WA.join (fun q=>∃(b6:Bool),J q [(0,ar 0 n0),(1,oi v1),(4,.val false [.pv (.fn 104)]),(12,oi j),(13,oi (w64 (v-1))),(47,ob b6)] [(0,.arr 2 (((v0.set (Int.toNat v1) c).set (Int.toNat n) e).map Za))]∧ZdF k f4 v0 v1 v n c e j b6=some r) ?_ ?_
  {
 rintro q ⟨b6,p,a⟩
 refine Wj p ?_
 clear p
 refine WA.cond (b:=b6) rfl (fun b0=>?_) (fun b0=>?_)
 {
 have a:=Zk a b0
 refine WA.skip ?_
 refine WA.block ?_
 refine Wr [] [(0,ar 0 n0),(1,oi v1),(4,.val false [.pv (.fn 104)]),(12,oi (w64 (j+1))),(13,oi (w64 (v-1)))] [(0,.arr 2 (((v0.set (Int.toNat v1) c).set (Int.toNat n) e).map Za))] ?_
 exact ⟨m2,zl_ _,(w64 (j+1)),jk,by rw [c4] at a;exact a⟩ }
 {
 have a:=Zj a b0
 refine WA.exit ?_
 refine WA.seq ?_
 refine WA.block ?_
 refine WA.loop (fun m q=>∃(h:Int),J q [(0,ar 0 n0),(1,oi v1),(4,.val false [.pv (.fn 104)]),(12,oi j),(13,oi h)] [(0,.arr 2 (((v0.set (Int.toNat v1) c).set (Int.toNat n) e).map Za))]∧Zbl k v0 v1 n c e j m h=some r) k ⟨(w64 (v-1)),jk,a⟩ ?_
 clear a
 rintro m6 q ⟨h,p,a⟩
 refine Wj p ?_
 clear p
 cases m6 with
 | zero=>cases a
 | succ m6=>
  obtain ⟨f5,c5⟩:∃g,g=Zbl k v0 v1 n c e j m6:=⟨_,rfl⟩
  have a:Zhu k f5 v0 v1 n c e j h=some r:=by first | (rw [c5];exact a) | exact a
  refine WA.seq ?_
  refine WA.join (fun q=>∃(b7:Bool),J q [(0,ar 0 n0),(1,oi v1),(4,.val false [.pv (.fn 104)]),(12,oi j),(13,oi h),(66,ob b7)] [(0,.arr 2 (((v0.set (Int.toNat v1) c).set (Int.toNat n) e).map Za))]∧ZdG k f5 v0 v1 n c e j h b7=some r) ?_ ?_
  {
 rintro q ⟨b7,p,a⟩
 refine Wj p ?_
 clear p
 refine WA.cond (b:=b7) rfl (fun b1=>?_) (fun b1=>?_)
 {
 have a:=Zk a b1
 refine WA.skip ?_
 refine WA.block ?_
 refine Wr [] [(0,ar 0 n0),(1,oi v1),(4,.val false [.pv (.fn 104)]),(12,oi j),(13,oi (w64 (h-1)))] [(0,.arr 2 (((v0.set (Int.toNat v1) c).set (Int.toNat n) e).map Za))] ?_
 exact ⟨m6,zl_ _,(w64 (h-1)),jk,by rw [c5] at a;exact a⟩ }
 {
 have a:=Zj a b1
 refine WA.exit ?_
 refine WA.seq ?_
 refine Ws [] [(0,ar 0 n0),(1,oi v1),(4,.val false [.pv (.fn 104)]),(12,oi j),(13,oi h),(71,ob (decide (j > h)))] [(0,.arr 2 (((v0.set (Int.toNat v1) c).set (Int.toNat n) e).map Za))] ?_
 refine WA.cond (b:=(decide (j > h))) rfl (fun b2=>?_) (fun b2=>?_)
 {
 have a:=Zk a b2
 refine WA.seq ?_
 obtain ⟨e2,a⟩:=Zo a
 obtain ⟨w,i6,a⟩:=Zh a
 obtain ⟨e3,a⟩:=Zo a
 obtain ⟨a4,i7,a⟩:=Zh a
 obtain ⟨g8,a⟩:=Zo a
 obtain ⟨f8,i8,a⟩:=Zh a
 obtain ⟨g9,a⟩:=Zo a
 obtain ⟨f9,i9,a⟩:=Zh a
 have z0:v1<((n0:Nat):Int):=(by have h_:=e2.2;(try simp only [zl,Zi] at h_ ⊢);omega)
 have z2:h<((n0:Nat):Int):=(by have h_:=e3.2;(try simp only [zl,Zi] at h_ ⊢);omega)
 refine Wdm (((((((v0.set (Int.toNat v1) c).set (Int.toNat n) e).map Za).set (Int.toNat h) (Za w)).set (Int.toNat v1) (Za a4)),((((v0.set (Int.toNat v1) c).set (Int.toNat n) e).map Za).set (Int.toNat h) (Za w))):(List (List PV))×(List (List PV))) ((((((v0.set (Int.toNat v1) c).set (Int.toNat n) e).set (Int.toNat h) w).set (Int.toNat v1) a4).map Za),((((v0.set (Int.toNat v1) c).set (Int.toNat n) e).set (Int.toNat h) w).map Za)) (fun s=>([(13,oi h)],[(0,.arr 2 s.1)],[n0=(((v0.set (Int.toNat v1) c).set (Int.toNat n) e).map Za).length,(0:Int)≤v1,v1<((n0:Nat):Int),n0=(((v0.set (Int.toNat v1) c).set (Int.toNat n) e).map Za).length,(((v0.set (Int.toNat v1) c).set (Int.toNat n) e).map Za)[Int.toNat v1]?=some (Za w),n0=(((v0.set (Int.toNat v1) c).set (Int.toNat n) e).map Za).length,(0:Int)≤h,h<((n0:Nat):Int),n0=(((v0.set (Int.toNat v1) c).set (Int.toNat n) e).map Za).length,(((v0.set (Int.toNat v1) c).set (Int.toNat n) e).map Za)[Int.toNat h]?=some (Za a4),n0=(((v0.set (Int.toNat v1) c).set (Int.toNat n) e).map Za).length,(0:Int)≤h,h<((n0:Nat):Int),n0=(((v0.set (Int.toNat v1) c).set (Int.toNat n) e).map Za).length,(((v0.set (Int.toNat v1) c).set (Int.toNat n) e).map Za)[Int.toNat h]?=some (Za f8),n0=s.2.length,(0:Int)≤v1,v1<((n0:Nat):Int),n0=s.2.length,s.2[Int.toNat v1]?=some (Za f9)])) (ZH zm zm) [(7,.cells (Za w)),(11,.cells (Za a4)),(13,.cells (Za f8)),(15,.cells (Za f9))] ⟨zt,e2.1,z0,zt,(Zs (Zt _ i6)),zt,e3.1,z2,zt,(Zs (Zt _ i7)),zt,g8.1,z2,zt,(Zs (Zt _ i8)),zt,g9.1,z0,zt,(Zs (Zt _ i9)),trivial⟩ ?_
 refine Ws [] [(10,oi h),(11,ob true)] [(0,.arr 2 (((((v0.set (Int.toNat v1) c).set (Int.toNat n) e).set (Int.toNat h) w).set (Int.toNat v1) a4).map Za))] ?_
 refine WA.ret ?_
 obtain rfl:=zj_ a
 exact Zq (.tup [(false,[.pv (.int .i64 h)]),(false,[.pv (.bool true)])]) [.arr 2 (((((v0.set (Int.toNat v1) c).set (Int.toNat n) e).set (Int.toNat h) w).set (Int.toNat v1) a4).map Za)] kr kr kr kr nd rfl rfl }
 {
 have a:=Zj a b2
 refine WA.skip ?_
 refine WA.seq ?_
 obtain ⟨e4,a⟩:=Zo a
 obtain ⟨t,j0,a⟩:=Zh a
 obtain ⟨e5,a⟩:=Zo a
 obtain ⟨y,j1,a⟩:=Zh a
 obtain ⟨h0,a⟩:=Zo a
 obtain ⟨g0,j2,a⟩:=Zh a
 obtain ⟨h1,a⟩:=Zo a
 obtain ⟨g1,j3,a⟩:=Zh a
 have z0:h<((n0:Nat):Int):=(by have h_:=e4.2;(try simp only [zl,Zi] at h_ ⊢);omega)
 have z2:j<((n0:Nat):Int):=(by have h_:=e5.2;(try simp only [zl,Zi] at h_ ⊢);omega)
 refine Wdm (((((((v0.set (Int.toNat v1) c).set (Int.toNat n) e).map Za).set (Int.toNat j) (Za t)).set (Int.toNat h) (Za y)),((((v0.set (Int.toNat v1) c).set (Int.toNat n) e).map Za).set (Int.toNat j) (Za t))):(List (List PV))×(List (List PV))) ((((((v0.set (Int.toNat v1) c).set (Int.toNat n) e).set (Int.toNat j) t).set (Int.toNat h) y).map Za),((((v0.set (Int.toNat v1) c).set (Int.toNat n) e).set (Int.toNat j) t).map Za)) (fun s=>([(0,ar 0 n0),(1,oi v1),(4,.val false [.pv (.fn 104)]),(12,oi j),(13,oi h)],[(0,.arr 2 s.1)],[n0=(((v0.set (Int.toNat v1) c).set (Int.toNat n) e).map Za).length,(0:Int)≤h,h<((n0:Nat):Int),n0=(((v0.set (Int.toNat v1) c).set (Int.toNat n) e).map Za).length,(((v0.set (Int.toNat v1) c).set (Int.toNat n) e).map Za)[Int.toNat h]?=some (Za t),n0=(((v0.set (Int.toNat v1) c).set (Int.toNat n) e).map Za).length,(0:Int)≤j,j<((n0:Nat):Int),n0=(((v0.set (Int.toNat v1) c).set (Int.toNat n) e).map Za).length,(((v0.set (Int.toNat v1) c).set (Int.toNat n) e).map Za)[Int.toNat j]?=some (Za y),n0=(((v0.set (Int.toNat v1) c).set (Int.toNat n) e).map Za).length,(0:Int)≤j,j<((n0:Nat):Int),n0=(((v0.set (Int.toNat v1) c).set (Int.toNat n) e).map Za).length,(((v0.set (Int.toNat v1) c).set (Int.toNat n) e).map Za)[Int.toNat j]?=some (Za g0),n0=s.2.length,(0:Int)≤h,h<((n0:Nat):Int),n0=s.2.length,s.2[Int.toNat h]?=some (Za g1)])) (ZH zm zm) [(7,.cells (Za t)),(11,.cells (Za y)),(13,.cells (Za g0)),(15,.cells (Za g1))] ⟨zt,e4.1,z0,zt,(Zs (Zt _ j0)),zt,e5.1,z2,zt,(Zs (Zt _ j1)),zt,h0.1,z2,zt,(Zs (Zt _ j2)),zt,h1.1,z0,zt,(Zs (Zt _ j3)),trivial⟩ ?_
 refine Ws [] [(0,ar 0 n0),(1,oi v1),(4,.val false [.pv (.fn 104)]),(12,oi (w64 (j+1))),(13,oi h)] [(0,.arr 2 (((((v0.set (Int.toNat v1) c).set (Int.toNat n) e).set (Int.toNat j) t).set (Int.toNat h) y).map Za))] ?_
 refine Ws [] [(0,ar 0 n0),(1,oi v1),(4,.val false [.pv (.fn 104)]),(12,oi (w64 (j+1))),(13,oi (w64 (h-1)))] [(0,.arr 2 (((((v0.set (Int.toNat v1) c).set (Int.toNat n) e).set (Int.toNat j) t).set (Int.toNat h) y).map Za))] ?_
 refine WA.seq ?_
 refine WA.block ?_
 refine WA.loop (fun m q=>∃(d:List Zb) (f:Nat) (a6:Int) (o:Int),J q [(0,ar 0 f),(1,oi v1),(4,.val false [.pv (.fn 104)]),(12,oi a6),(13,oi o)] [(0,.arr 2 (d.map Za))]∧f=(d:List _).length∧ZaH k v1 m d a6 o=some r) k ⟨((((v0.set (Int.toNat v1) c).set (Int.toNat n) e).set (Int.toNat j) t).set (Int.toNat h) y),n0,(w64 (j+1)),(w64 (h-1)),jk,zt,a⟩ ?_
 clear a
 rintro m24 q ⟨d,f,a6,o,p,k8,a⟩
 refine Wj p ?_
 clear p
 cases m24 with
 | zero=>cases a
 | succ m24=>
  obtain ⟨self24,a7⟩:∃g,g=ZaH k v1 m24:=⟨_,rfl⟩
  have a:Zln k self24 v1 d a6 o=some r:=by first | (rw [a7];exact a) | exact a
  refine WA.block ?_
  refine WA.seq ?_
  refine WA.block ?_
  refine WA.loop (fun m q=>∃(l:Int),J q [(0,ar 0 f),(1,oi v1),(4,.val false [.pv (.fn 104)]),(12,oi l),(13,oi o)] [(0,.arr 2 (d.map Za))]∧Zbw k self24 v1 d o m l=some r) k ⟨a6,jk,a⟩ ?_
  clear a
  rintro m27 q ⟨l,p,a⟩
  refine Wj p ?_
  clear p
  cases m27 with
  | zero=>cases a
  | succ m27=>
   obtain ⟨c6,a8⟩:∃g,g=Zbw k self24 v1 d o m27:=⟨_,rfl⟩
   have a:ZfS k self24 c6 v1 d o l=some r:=by first | (rw [a8];exact a) | exact a
   refine WA.seq ?_
   refine WA.join (fun q=>∃(b8:Bool),J q [(0,ar 0 f),(1,oi v1),(4,.val false [.pv (.fn 104)]),(12,oi l),(13,oi o),(120,ob b8)] [(0,.arr 2 (d.map Za))]∧ZfU k self24 c6 v1 d o l b8=some r) ?_ ?_
   {
 rintro q ⟨b8,p,a⟩
 refine Wj p ?_
 clear p
 refine WA.cond (b:=b8) rfl (fun b3=>?_) (fun b3=>?_)
 {
 have a:=Zk a b3
 refine WA.skip ?_
 refine WA.block ?_
 refine Wr [] [(0,ar 0 f),(1,oi v1),(4,.val false [.pv (.fn 104)]),(12,oi (w64 (l+1))),(13,oi o)] [(0,.arr 2 (d.map Za))] ?_
 exact ⟨m27,zl_ _,(w64 (l+1)),jk,by rw [a8] at a;exact a⟩ }
 {
 have a:=Zj a b3
 refine WA.exit ?_
 refine WA.seq ?_
 refine WA.block ?_
 refine WA.loop (fun m q=>∃(i:Int),J q [(0,ar 0 f),(1,oi v1),(4,.val false [.pv (.fn 104)]),(12,oi l),(13,oi i)] [(0,.arr 2 (d.map Za))]∧Zbx k self24 v1 d l m i=some r) k ⟨o,jk,a⟩ ?_
 clear a
 rintro m31 q ⟨i,p,a⟩
 refine Wj p ?_
 clear p
 cases m31 with
 | zero=>cases a
 | succ m31=>
  obtain ⟨c7,a9⟩:∃g,g=Zbx k self24 v1 d l m31:=⟨_,rfl⟩
  have a:ZfT k self24 c7 v1 d l i=some r:=by first | (rw [a9];exact a) | exact a
  refine WA.seq ?_
  refine WA.join (fun q=>∃(b9:Bool),J q [(0,ar 0 f),(1,oi v1),(4,.val false [.pv (.fn 104)]),(12,oi l),(13,oi i),(139,ob b9)] [(0,.arr 2 (d.map Za))]∧Zca self24 c7 v1 d l i b9=some r) ?_ ?_
  {
 rintro q ⟨b9,p,a⟩
 refine Wj p ?_
 clear p
 refine WA.cond (b:=b9) rfl (fun b4=>?_) (fun b4=>?_)
 {
 have a:=Zk a b4
 refine WA.skip ?_
 refine WA.block ?_
 refine Wr [] [(0,ar 0 f),(1,oi v1),(4,.val false [.pv (.fn 104)]),(12,oi l),(13,oi (w64 (i-1)))] [(0,.arr 2 (d.map Za))] ?_
 exact ⟨m31,zl_ _,(w64 (i-1)),jk,by rw [a9] at a;exact a⟩ }
 {
 have a:=Zj a b4
 refine WA.exit ?_
 refine WA.seq ?_
 refine Ws [] [(0,ar 0 f),(1,oi v1),(4,.val false [.pv (.fn 104)]),(12,oi l),(13,oi i),(144,ob (decide (l > i)))] [(0,.arr 2 (d.map Za))] ?_
 refine WA.cond (b:=(decide (l > i))) rfl (fun b5=>?_) (fun b5=>?_)
 {
 have a:=Zk a b5
 refine WA.exit ?_
 refine WA.seq ?_
 obtain ⟨f2,a⟩:=Zo a
 obtain ⟨x,k4,a⟩:=Zh a
 obtain ⟨f3,a⟩:=Zo a
 obtain ⟨a5,k5,a⟩:=Zh a
 obtain ⟨h4,a⟩:=Zo a
 obtain ⟨g4,k6,a⟩:=Zh a
 obtain ⟨h5,a⟩:=Zo a
 obtain ⟨g5,k7,a⟩:=Zh a
 have z0:v1<((f:Nat):Int):=(by have h_:=f2.2;(try simp only [zl,Zi] at h_ ⊢);omega)
 have z2:i<((f:Nat):Int):=(by have h_:=f3.2;(try simp only [zl,Zi] at h_ ⊢);omega)
 refine Wdm (((((d.map Za).set (Int.toNat i) (Za x)).set (Int.toNat v1) (Za a5)),((d.map Za).set (Int.toNat i) (Za x))):(List (List PV))×(List (List PV))) ((((d.set (Int.toNat i) x).set (Int.toNat v1) a5).map Za),((d.set (Int.toNat i) x).map Za)) (fun s=>([(13,oi i)],[(0,.arr 2 s.1)],[f=(d.map Za).length,(0:Int)≤v1,v1<((f:Nat):Int),f=(d.map Za).length,(d.map Za)[Int.toNat v1]?=some (Za x),f=(d.map Za).length,(0:Int)≤i,i<((f:Nat):Int),f=(d.map Za).length,(d.map Za)[Int.toNat i]?=some (Za a5),f=(d.map Za).length,(0:Int)≤i,i<((f:Nat):Int),f=(d.map Za).length,(d.map Za)[Int.toNat i]?=some (Za g4),f=s.2.length,(0:Int)≤v1,v1<((f:Nat):Int),f=s.2.length,s.2[Int.toNat v1]?=some (Za g5)])) (ZH zm zm) [(7,.cells (Za x)),(11,.cells (Za a5)),(13,.cells (Za g4)),(15,.cells (Za g5))] ⟨zt,f2.1,z0,zt,(Zs (Zt _ k4)),zt,f3.1,z2,zt,(Zs (Zt _ k5)),zt,h4.1,z2,zt,(Zs (Zt _ k6)),zt,h5.1,z0,zt,(Zs (Zt _ k7)),trivial⟩ ?_
 refine Ws [] [(10,oi i),(11,ob false)] [(0,.arr 2 (((d.set (Int.toNat i) x).set (Int.toNat v1) a5).map Za))] ?_
 refine WA.ret ?_
 obtain rfl:=zj_ a
 exact Zq (.tup [(false,[.pv (.int .i64 i)]),(false,[.pv (.bool false)])]) [.arr 2 (((d.set (Int.toNat i) x).set (Int.toNat v1) a5).map Za)] kr kr kr kr nd rfl rfl }
 {
 have a:=Zj a b5
 refine WA.skip ?_
 refine WA.seq ?_
 obtain ⟨f0,a⟩:=Zo a
 obtain ⟨u,k0,a⟩:=Zh a
 obtain ⟨f1,a⟩:=Zo a
 obtain ⟨z,k1,a⟩:=Zh a
 obtain ⟨h2,a⟩:=Zo a
 obtain ⟨g2,k2,a⟩:=Zh a
 obtain ⟨h3,a⟩:=Zo a
 obtain ⟨g3,k3,a⟩:=Zh a
 have z0:i<((f:Nat):Int):=(by have h_:=f0.2;(try simp only [zl,Zi] at h_ ⊢);omega)
 have z2:l<((f:Nat):Int):=(by have h_:=f1.2;(try simp only [zl,Zi] at h_ ⊢);omega)
 refine Wdm (((((d.map Za).set (Int.toNat l) (Za u)).set (Int.toNat i) (Za z)),((d.map Za).set (Int.toNat l) (Za u))):(List (List PV))×(List (List PV))) ((((d.set (Int.toNat l) u).set (Int.toNat i) z).map Za),((d.set (Int.toNat l) u).map Za)) (fun s=>([(0,ar 0 f),(1,oi v1),(4,.val false [.pv (.fn 104)]),(12,oi l),(13,oi i)],[(0,.arr 2 s.1)],[f=(d.map Za).length,(0:Int)≤i,i<((f:Nat):Int),f=(d.map Za).length,(d.map Za)[Int.toNat i]?=some (Za u),f=(d.map Za).length,(0:Int)≤l,l<((f:Nat):Int),f=(d.map Za).length,(d.map Za)[Int.toNat l]?=some (Za z),f=(d.map Za).length,(0:Int)≤l,l<((f:Nat):Int),f=(d.map Za).length,(d.map Za)[Int.toNat l]?=some (Za g2),f=s.2.length,(0:Int)≤i,i<((f:Nat):Int),f=s.2.length,s.2[Int.toNat i]?=some (Za g3)])) (ZH zm zm) [(7,.cells (Za u)),(11,.cells (Za z)),(13,.cells (Za g2)),(15,.cells (Za g3))] ⟨zt,f0.1,z0,zt,(Zs (Zt _ k0)),zt,f1.1,z2,zt,(Zs (Zt _ k1)),zt,h2.1,z2,zt,(Zs (Zt _ k2)),zt,h3.1,z0,zt,(Zs (Zt _ k3)),trivial⟩ ?_
 refine Ws [] [(0,ar 0 f),(1,oi v1),(4,.val false [.pv (.fn 104)]),(12,oi (w64 (l+1))),(13,oi i)] [(0,.arr 2 (((d.set (Int.toNat l) u).set (Int.toNat i) z).map Za))] ?_
 refine Wr [] [(0,ar 0 f),(1,oi v1),(4,.val false [.pv (.fn 104)]),(12,oi (w64 (l+1))),(13,oi (w64 (i-1)))] [(0,.arr 2 (((d.set (Int.toNat l) u).set (Int.toNat i) z).map Za))] ?_
 exact ⟨m24,zl_ _,((d.set (Int.toNat l) u).set (Int.toNat i) z),f,(w64 (l+1)),(w64 (i-1)),jk,zt,by rw [a7] at a;exact a⟩ } } }
  {
 rcases zo_ (decide (l≤i)) with a3 | a3
 {
 have a:=Zk a a3
 obtain ⟨e8,a⟩:=Zo a
 obtain ⟨d4,j7,a⟩:=Zh a
 obtain ⟨e9,a⟩:=Zo a
 obtain ⟨d5,j8,a⟩:=Zh a
 obtain ⟨c3,j9,a⟩:=Zh a
 refine Wd [(3,.bool true),(8,.cells (Za d4)),(12,.cells (Za d5)),(13,.callR [] (oi c3))] [(0,ar 0 f),(1,oi v1),(4,.val false [.pv (.fn 104)]),(12,oi l),(13,oi i),(139,ob (!(decide (c3<0))))] [(0,.arr 2 (d.map Za))] [(decide (l≤i))=true,f=(d.map Za).length,(0:Int)≤i,i<((f:Nat):Int),f=(d.map Za).length,(d.map Za)[Int.toNat i]?=some (Za d4),f=(d.map Za).length,(0:Int)≤v1,v1<((f:Nat):Int),f=(d.map Za).length,(d.map Za)[Int.toNat v1]?=some (Za d5),SM 104 [tv (Za d4),tv (Za d5)] [] (oi c3) [],([]:List Nat).Nodup] ⟨a3,zt,e8.1,(by have h_:=e8.2;(try simp only [zl,Zi] at h_ ⊢);omega),zt,(Zs (Zt _ j7)),zt,e9.1,(by have h_:=e9.2;(try simp only [zl,Zi] at h_ ⊢);omega),zt,(Zs (Zt _ j8)),(Zas k _ _ _ j9),nd,trivial⟩ ?_
 exact ⟨(!(decide (c3<0))),jk,a⟩ }
 {
 have a:=Zj a a3
 refine Wd [(3,.bool false),(13,.callR [] (.tup []))] [(0,ar 0 f),(1,oi v1),(4,.val false [.pv (.fn 104)]),(12,oi l),(13,oi i),(139,ob false)] [(0,.arr 2 (d.map Za))] [(decide (l≤i))=false] ⟨a3,trivial⟩ ?_
 exact ⟨false,jk,a⟩ } } } }
   {
 rcases zo_ (decide (l≤o)) with a2 | a2
 {
 have a:=Zk a a2
 obtain ⟨e6,a⟩:=Zo a
 obtain ⟨d2,j4,a⟩:=Zh a
 obtain ⟨e7,a⟩:=Zo a
 obtain ⟨d3,j5,a⟩:=Zh a
 obtain ⟨c2,j6,a⟩:=Zh a
 refine Wd [(3,.bool true),(8,.cells (Za d2)),(12,.cells (Za d3)),(13,.callR [] (oi c2))] [(0,ar 0 f),(1,oi v1),(4,.val false [.pv (.fn 104)]),(12,oi l),(13,oi o),(120,ob (decide (c2<0)))] [(0,.arr 2 (d.map Za))] [(decide (l≤o))=true,f=(d.map Za).length,(0:Int)≤l,l<((f:Nat):Int),f=(d.map Za).length,(d.map Za)[Int.toNat l]?=some (Za d2),f=(d.map Za).length,(0:Int)≤v1,v1<((f:Nat):Int),f=(d.map Za).length,(d.map Za)[Int.toNat v1]?=some (Za d3),SM 104 [tv (Za d2),tv (Za d3)] [] (oi c2) [],([]:List Nat).Nodup] ⟨a2,zt,e6.1,(by have h_:=e6.2;(try simp only [zl,Zi] at h_ ⊢);omega),zt,(Zs (Zt _ j4)),zt,e7.1,(by have h_:=e7.2;(try simp only [zl,Zi] at h_ ⊢);omega),zt,(Zs (Zt _ j5)),(Zas k _ _ _ j6),nd,trivial⟩ ?_
 exact ⟨(decide (c2<0)),jk,a⟩ }
 {
 have a:=Zj a a2
 refine Wd [(3,.bool false),(13,.callR [] (.tup []))] [(0,ar 0 f),(1,oi v1),(4,.val false [.pv (.fn 104)]),(12,oi l),(13,oi o),(120,ob false)] [(0,.arr 2 (d.map Za))] [(decide (l≤o))=false] ⟨a2,trivial⟩ ?_
 exact ⟨false,jk,a⟩ } } } } }
  {
 rcases zo_ (decide (j≤h)) with a1 | a1
 {
 have a:=Zk a a1
 obtain ⟨e0,a⟩:=Zo a
 obtain ⟨d0,i3,a⟩:=Zh a
 obtain ⟨e1,a⟩:=Zo a
 obtain ⟨d1,i4,a⟩:=Zh a
 obtain ⟨c1,i5,a⟩:=Zh a
 refine Wd [(3,.bool true),(8,.cells (Za d0)),(12,.cells (Za d1)),(13,.callR [] (oi c1))] [(0,ar 0 n0),(1,oi v1),(4,.val false [.pv (.fn 104)]),(12,oi j),(13,oi h),(66,ob (!(decide (c1<0))))] [(0,.arr 2 (((v0.set (Int.toNat v1) c).set (Int.toNat n) e).map Za))] [(decide (j≤h))=true,n0=(((v0.set (Int.toNat v1) c).set (Int.toNat n) e).map Za).length,(0:Int)≤h,h<((n0:Nat):Int),n0=(((v0.set (Int.toNat v1) c).set (Int.toNat n) e).map Za).length,(((v0.set (Int.toNat v1) c).set (Int.toNat n) e).map Za)[Int.toNat h]?=some (Za d0),n0=(((v0.set (Int.toNat v1) c).set (Int.toNat n) e).map Za).length,(0:Int)≤v1,v1<((n0:Nat):Int),n0=(((v0.set (Int.toNat v1) c).set (Int.toNat n) e).map Za).length,(((v0.set (Int.toNat v1) c).set (Int.toNat n) e).map Za)[Int.toNat v1]?=some (Za d1),SM 104 [tv (Za d0),tv (Za d1)] [] (oi c1) [],([]:List Nat).Nodup] ⟨a1,zt,e0.1,(by have h_:=e0.2;(try simp only [zl,Zi] at h_ ⊢);omega),zt,(Zs (Zt _ i3)),zt,e1.1,(by have h_:=e1.2;(try simp only [zl,Zi] at h_ ⊢);omega),zt,(Zs (Zt _ i4)),(Zas k _ _ _ i5),nd,trivial⟩ ?_
 exact ⟨(!(decide (c1<0))),jk,a⟩ }
 {
 have a:=Zj a a1
 refine Wd [(3,.bool false),(13,.callR [] (.tup []))] [(0,ar 0 n0),(1,oi v1),(4,.val false [.pv (.fn 104)]),(12,oi j),(13,oi h),(66,ob false)] [(0,.arr 2 (((v0.set (Int.toNat v1) c).set (Int.toNat n) e).map Za))] [(decide (j≤h))=false] ⟨a1,trivial⟩ ?_
 exact ⟨false,jk,a⟩ } } } }
  {
 rcases zo_ (decide (j≤(w64 (v-1)))) with a0 | a0
 {
 have a:=Zk a a0
 obtain ⟨d8,a⟩:=Zo a
 obtain ⟨c8,i0,a⟩:=Zh a
 obtain ⟨d9,a⟩:=Zo a
 obtain ⟨c9,i1,a⟩:=Zh a
 obtain ⟨c0,i2,a⟩:=Zh a
 refine Wd [(3,.bool true),(8,.cells (Za c8)),(12,.cells (Za c9)),(13,.callR [] (oi c0))] [(0,ar 0 n0),(1,oi v1),(4,.val false [.pv (.fn 104)]),(12,oi j),(13,oi (w64 (v-1))),(47,ob (decide (c0<0)))] [(0,.arr 2 (((v0.set (Int.toNat v1) c).set (Int.toNat n) e).map Za))] [(decide (j≤(w64 (v-1))))=true,n0=(((v0.set (Int.toNat v1) c).set (Int.toNat n) e).map Za).length,(0:Int)≤j,j<((n0:Nat):Int),n0=(((v0.set (Int.toNat v1) c).set (Int.toNat n) e).map Za).length,(((v0.set (Int.toNat v1) c).set (Int.toNat n) e).map Za)[Int.toNat j]?=some (Za c8),n0=(((v0.set (Int.toNat v1) c).set (Int.toNat n) e).map Za).length,(0:Int)≤v1,v1<((n0:Nat):Int),n0=(((v0.set (Int.toNat v1) c).set (Int.toNat n) e).map Za).length,(((v0.set (Int.toNat v1) c).set (Int.toNat n) e).map Za)[Int.toNat v1]?=some (Za c9),SM 104 [tv (Za c8),tv (Za c9)] [] (oi c0) [],([]:List Nat).Nodup] ⟨a0,zt,d8.1,(by have h_:=d8.2;(try simp only [zl,Zi] at h_ ⊢);omega),zt,(Zs (Zt _ i0)),zt,d9.1,(by have h_:=d9.2;(try simp only [zl,Zi] at h_ ⊢);omega),zt,(Zs (Zt _ i1)),(Zas k _ _ _ i2),nd,trivial⟩ ?_
 exact ⟨(decide (c0<0)),jk,a⟩ }
 {
 have a:=Zj a a0
 refine Wd [(3,.bool false),(13,.callR [] (.tup []))] [(0,ar 0 n0),(1,oi v1),(4,.val false [.pv (.fn 104)]),(12,oi j),(13,oi (w64 (v-1))),(47,ob false)] [(0,.arr 2 (((v0.set (Int.toNat v1) c).set (Int.toNat n) e).map Za))] [(decide (j≤(w64 (v-1))))=false] ⟨a0,trivial⟩ ?_
 exact ⟨false,jk,a⟩ } }
def ZcN (self16:(List Zb)→Int→Int→Option (Int×(List Zb))) (e:Int→Option (Int×(List Zb))) (b:List Zb) (a:Int) (c:Int) (f:Bool):Option (Int×(List Zb)):=
  cond f ((e (w64 (c-1)))) (((cond (decide (a > c)) (((some (a,b)))) ((if (0:Int)≤c∧c<(b.length:Int) then (idxL b c).bind fun d=>if (0:Int)≤a∧a<(b.length:Int) then (idxL b a).bind fun g=>if (0:Int)≤a∧a<(b.length:Int) then (idxL b a).bind fun h=>if (0:Int)≤c∧c<((b.set (Int.toNat a) d).length:Int) then (idxL (b.set (Int.toNat a) d) c).bind fun i=>((self16 ((b.set (Int.toNat a) d).set (Int.toNat c) g) (w64 (a+1)) (w64 (c-1)))) else none else none else none else none)))))
def ZfQ (k:Nat) (self16:(List Zb)→Int→Int→Option (Int×(List Zb))) (c:Int→Option (Int×(List Zb))) (v1:Int) (a:List Zb) (d:Int) (b:Int):Option (Int×(List Zb)):=
  cond (decide (d≤b)) (if (0:Int)≤v1∧v1<(a.length:Int) then (idxL a v1).bind fun e=>if (0:Int)≤b∧b<(a.length:Int) then (idxL a b).bind fun f=>(F104 k e f).bind fun g=>(ZcN self16 c a d b (decide (g<0))) else none else none) ((ZcN self16 c a d b false))
def ZaW (k:Nat) (self16:(List Zb)→Int→Int→Option (Int×(List Zb))) (v1:Int) (a:List Zb) (b:Int):Nat→Int→Option (Int×(List Zb))
  | 0,_=>none
  | d+1,c=>ZfQ k self16 (ZaW k self16 v1 a b d) v1 a b c
def ZfR (k:Nat) (self16:(List Zb)→Int→Int→Option (Int×(List Zb))) (a:Int→Option (Int×(List Zb))) (v1:Int) (c:List Zb) (d:Int) (b:Int) (e:Bool):Option (Int×(List Zb)):=
  cond e ((a (w64 (b+1)))) ((ZaW k self16 v1 c b k d))
def ZfP (k:Nat) (self16:(List Zb)→Int→Int→Option (Int×(List Zb))) (c:Int→Option (Int×(List Zb))) (v1:Int) (a:List Zb) (d:Int) (b:Int):Option (Int×(List Zb)):=
  cond (decide (b≤d)) (if (0:Int)≤v1∧v1<(a.length:Int) then (idxL a v1).bind fun e=>if (0:Int)≤b∧b<(a.length:Int) then (idxL a b).bind fun f=>(F104 k e f).bind fun g=>(ZfR k self16 c v1 a d b (!(decide (g<0)))) else none else none) ((ZfR k self16 c v1 a d b false))
def Zbv (k:Nat) (self16:(List Zb)→Int→Int→Option (Int×(List Zb))) (v1:Int) (a:List Zb) (b:Int):Nat→Int→Option (Int×(List Zb))
  | 0,_=>none
  | d+1,c=>ZfP k self16 (Zbv k self16 v1 a b d) v1 a b c
def Zlm (k:Nat) (self16:(List Zb)→Int→Int→Option (Int×(List Zb))) (v1:Int) (a:List Zb) (b:Int) (c:Int):Option (Int×(List Zb)):=
  Zbv k self16 v1 a c k b
def ZaG (k:Nat) (v1:Int):Nat→(List Zb)→Int→Int→Option (Int×(List Zb))
  | 0,_,_,_=>none
  | d+1,a,b,c=>Zlm k (ZaG k v1 d) v1 a b c
def F155 (k:Nat) (v0:List Zb) (v1:Int) (d:Int) (a:Int):Option (Int×(List Zb)):=
  (if (0:Int)≤a∧a<(v0.length:Int) then (idxL v0 a).bind fun b=>if (0:Int)≤v1∧v1<(v0.length:Int) then (idxL v0 v1).bind fun c=>if (0:Int)≤v1∧v1<(v0.length:Int) then (idxL v0 v1).bind fun e=>if (0:Int)≤a∧a<((v0.set (Int.toNat v1) b).length:Int) then (idxL (v0.set (Int.toNat v1) b) a).bind fun f=>((ZaG k v1 k ((v0.set (Int.toNat v1) b).set (Int.toNat a) c) (w64 (v1+1)) (w64 (d-1)))) else none else none else none else none)
theorem Zp4 (k:Nat) (v0:List Zb) (v1:Int) (v2:Int) (s:Int) (r:Int×(List Zb)) (c:F155 k v0 v1 v2 s=some r) {n0:Nat} (hn_n0:n0=v0.length):SM 155 [ar 0 n0,oi v1,oi v2,oi s,.val false [.pv (.fn 104)]] [.arr 2 (v0.map Za)] (oi r.1) [.arr 2 (r.2.map Za)]:=by
 refine Zz [0] Tryz.func155 rfl kr kr ?_
 show WA _ _ 90 _ _ _
 refine Ws [] [(0,ar 0 n0),(1,oi v1),(2,oi v2),(3,oi s),(4,.val false [.pv (.fn 104)])] [(0,.arr 2 (v0.map Za))] ?_
 refine WA.seq ?_
 obtain ⟨b2,c⟩:=Zo c
 obtain ⟨j,c9,c⟩:=Zh c
 obtain ⟨b3,c⟩:=Zo c
 obtain ⟨t,d0,c⟩:=Zh c
 obtain ⟨c5,c⟩:=Zo c
 obtain ⟨c1,d1,c⟩:=Zh c
 obtain ⟨c6,c⟩:=Zo c
 obtain ⟨c2,d2,c⟩:=Zh c
 have z0:s<((n0:Nat):Int):=(by have h_:=b2.2;(try simp only [zl,Zi] at h_ ⊢);omega)
 have z2:v1<((n0:Nat):Int):=(by have h_:=b3.2;(try simp only [zl,Zi] at h_ ⊢);omega)
 refine Wdm (((((v0.map Za).set (Int.toNat v1) (Za j)).set (Int.toNat s) (Za t)),((v0.map Za).set (Int.toNat v1) (Za j))):(List (List PV))×(List (List PV))) ((((v0.set (Int.toNat v1) j).set (Int.toNat s) t).map Za),((v0.set (Int.toNat v1) j).map Za)) (fun m_=>([(0,ar 0 n0),(1,oi v1),(2,oi v2),(4,.val false [.pv (.fn 104)])],[(0,.arr 2 m_.1)],[n0=(v0.map Za).length,(0:Int)≤s,s<((n0:Nat):Int),n0=(v0.map Za).length,(v0.map Za)[Int.toNat s]?=some (Za j),n0=(v0.map Za).length,(0:Int)≤v1,v1<((n0:Nat):Int),n0=(v0.map Za).length,(v0.map Za)[Int.toNat v1]?=some (Za t),n0=(v0.map Za).length,(0:Int)≤v1,v1<((n0:Nat):Int),n0=(v0.map Za).length,(v0.map Za)[Int.toNat v1]?=some (Za c1),n0=m_.2.length,(0:Int)≤s,s<((n0:Nat):Int),n0=m_.2.length,m_.2[Int.toNat s]?=some (Za c2)])) (ZH zm zm) [(7,.cells (Za j)),(11,.cells (Za t)),(13,.cells (Za c1)),(15,.cells (Za c2))] ⟨zt,b2.1,z0,zt,(Zs (Zt _ c9)),zt,b3.1,z2,zt,(Zs (Zt _ d0)),zt,c5.1,z2,zt,(Zs (Zt _ d1)),zt,c6.1,z0,zt,(Zs (Zt _ d2)),trivial⟩ ?_
 refine Ws [] [(0,ar 0 n0),(1,oi v1),(4,.val false [.pv (.fn 104)]),(11,oi (w64 (v1+1))),(12,oi (w64 (v2-1)))] [(0,.arr 2 (((v0.set (Int.toNat v1) j).set (Int.toNat s) t).map Za))] ?_
 refine WA.seq ?_
 refine WA.block ?_
 refine WA.loop (fun m q=>∃(a:List Zb) (e:Nat) (u:Int) (h:Int),J q [(0,ar 0 e),(1,oi v1),(4,.val false [.pv (.fn 104)]),(11,oi u),(12,oi h)] [(0,.arr 2 (a.map Za))]∧e=(a:List _).length∧ZaG k v1 m a u h=some r) k ⟨((v0.set (Int.toNat v1) j).set (Int.toNat s) t),n0,(w64 (v1+1)),(w64 (v2-1)),jk,zt,c⟩ ?_
 clear c
 rintro m16 q ⟨a,e,u,h,p,e3,c⟩
 refine Wj p ?_
 clear p
 cases m16 with
 | zero=>cases c
 | succ m16=>
  obtain ⟨self16,v⟩:∃g,g=ZaG k v1 m16:=⟨_,rfl⟩
  have c:Zlm k self16 v1 a u h=some r:=by first | (rw [v];exact c) | exact c
  refine WA.block ?_
  refine WA.seq ?_
  refine WA.block ?_
  refine WA.loop (fun m q=>∃(d:Int),J q [(0,ar 0 e),(1,oi v1),(4,.val false [.pv (.fn 104)]),(11,oi d),(12,oi h)] [(0,.arr 2 (a.map Za))]∧Zbv k self16 v1 a h m d=some r) k ⟨u,jk,c⟩ ?_
  clear c
  rintro m19 q ⟨d,p,c⟩
  refine Wj p ?_
  clear p
  cases m19 with
  | zero=>cases c
  | succ m19=>
   obtain ⟨a6,w⟩:∃g,g=Zbv k self16 v1 a h m19:=⟨_,rfl⟩
   have c:ZfP k self16 a6 v1 a h d=some r:=by first | (rw [w];exact c) | exact c
   refine WA.seq ?_
   refine WA.join (fun q=>∃(a2:Bool),J q [(0,ar 0 e),(1,oi v1),(4,.val false [.pv (.fn 104)]),(11,oi d),(12,oi h),(47,ob a2)] [(0,.arr 2 (a.map Za))]∧ZfR k self16 a6 v1 a h d a2=some r) ?_ ?_
   {
 rintro q ⟨a2,p,c⟩
 refine Wj p ?_
 clear p
 refine WA.cond (b:=a2) rfl (fun y=>?_) (fun y=>?_)
 {
 have c:=Zk c y
 refine WA.skip ?_
 refine WA.block ?_
 refine Wr [] [(0,ar 0 e),(1,oi v1),(4,.val false [.pv (.fn 104)]),(11,oi (w64 (d+1))),(12,oi h)] [(0,.arr 2 (a.map Za))] ?_
 exact ⟨m19,zl_ _,(w64 (d+1)),jk,by rw [w] at c;exact c⟩ }
 {
 have c:=Zj c y
 refine WA.exit ?_
 refine WA.seq ?_
 refine WA.block ?_
 refine WA.loop (fun m q=>∃(f:Int),J q [(0,ar 0 e),(1,oi v1),(4,.val false [.pv (.fn 104)]),(11,oi d),(12,oi f)] [(0,.arr 2 (a.map Za))]∧ZaW k self16 v1 a d m f=some r) k ⟨h,jk,c⟩ ?_
 clear c
 rintro m23 q ⟨f,p,c⟩
 refine Wj p ?_
 clear p
 cases m23 with
 | zero=>cases c
 | succ m23=>
  obtain ⟨a7,x⟩:∃g,g=ZaW k self16 v1 a d m23:=⟨_,rfl⟩
  have c:ZfQ k self16 a7 v1 a d f=some r:=by first | (rw [x];exact c) | exact c
  refine WA.seq ?_
  refine WA.join (fun q=>∃(a3:Bool),J q [(0,ar 0 e),(1,oi v1),(4,.val false [.pv (.fn 104)]),(11,oi d),(12,oi f),(65,ob a3)] [(0,.arr 2 (a.map Za))]∧ZcN self16 a7 a d f a3=some r) ?_ ?_
  {
 rintro q ⟨a3,p,c⟩
 refine Wj p ?_
 clear p
 refine WA.cond (b:=a3) rfl (fun z=>?_) (fun z=>?_)
 {
 have c:=Zk c z
 refine WA.skip ?_
 refine WA.block ?_
 refine Wr [] [(0,ar 0 e),(1,oi v1),(4,.val false [.pv (.fn 104)]),(11,oi d),(12,oi (w64 (f-1)))] [(0,.arr 2 (a.map Za))] ?_
 exact ⟨m23,zl_ _,(w64 (f-1)),jk,by rw [x] at c;exact c⟩ }
 {
 have c:=Zj c z
 refine WA.exit ?_
 refine WA.seq ?_
 refine Ws [] [(0,ar 0 e),(1,oi v1),(4,.val false [.pv (.fn 104)]),(11,oi d),(12,oi f),(70,ob (decide (d > f)))] [(0,.arr 2 (a.map Za))] ?_
 refine WA.cond (b:=(decide (d > f))) rfl (fun a0=>?_) (fun a0=>?_)
 {
 have c:=Zk c a0
 refine WA.exit ?_
 refine Ws [] [(10,oi d)] [(0,.arr 2 (a.map Za))] ?_
 refine WA.ret ?_
 obtain rfl:=zj_ c
 exact Zq (oi d) [.arr 2 (a.map Za)] kr kr kr kr nd rfl rfl }
 {
 have c:=Zj c a0
 refine WA.skip ?_
 refine WA.seq ?_
 obtain ⟨b8,c⟩:=Zo c
 obtain ⟨i,d9,c⟩:=Zh c
 obtain ⟨b9,c⟩:=Zo c
 obtain ⟨l,e0,c⟩:=Zh c
 obtain ⟨c7,c⟩:=Zo c
 obtain ⟨c3,e1,c⟩:=Zh c
 obtain ⟨c8,c⟩:=Zo c
 obtain ⟨c4,e2,c⟩:=Zh c
 have z0:f<((e:Nat):Int):=(by have h_:=b8.2;(try simp only [zl,Zi] at h_ ⊢);omega)
 have z2:d<((e:Nat):Int):=(by have h_:=b9.2;(try simp only [zl,Zi] at h_ ⊢);omega)
 refine Wdm (((((a.map Za).set (Int.toNat d) (Za i)).set (Int.toNat f) (Za l)),((a.map Za).set (Int.toNat d) (Za i))):(List (List PV))×(List (List PV))) ((((a.set (Int.toNat d) i).set (Int.toNat f) l).map Za),((a.set (Int.toNat d) i).map Za)) (fun m_=>([(0,ar 0 e),(1,oi v1),(4,.val false [.pv (.fn 104)]),(11,oi d),(12,oi f)],[(0,.arr 2 m_.1)],[e=(a.map Za).length,(0:Int)≤f,f<((e:Nat):Int),e=(a.map Za).length,(a.map Za)[Int.toNat f]?=some (Za i),e=(a.map Za).length,(0:Int)≤d,d<((e:Nat):Int),e=(a.map Za).length,(a.map Za)[Int.toNat d]?=some (Za l),e=(a.map Za).length,(0:Int)≤d,d<((e:Nat):Int),e=(a.map Za).length,(a.map Za)[Int.toNat d]?=some (Za c3),e=m_.2.length,(0:Int)≤f,f<((e:Nat):Int),e=m_.2.length,m_.2[Int.toNat f]?=some (Za c4)])) (ZH zm zm) [(7,.cells (Za i)),(11,.cells (Za l)),(13,.cells (Za c3)),(15,.cells (Za c4))] ⟨zt,b8.1,z0,zt,(Zs (Zt _ d9)),zt,b9.1,z2,zt,(Zs (Zt _ e0)),zt,c7.1,z2,zt,(Zs (Zt _ e1)),zt,c8.1,z0,zt,(Zs (Zt _ e2)),trivial⟩ ?_
 refine Ws [] [(0,ar 0 e),(1,oi v1),(4,.val false [.pv (.fn 104)]),(11,oi (w64 (d+1))),(12,oi f)] [(0,.arr 2 (((a.set (Int.toNat d) i).set (Int.toNat f) l).map Za))] ?_
 refine Wr [] [(0,ar 0 e),(1,oi v1),(4,.val false [.pv (.fn 104)]),(11,oi (w64 (d+1))),(12,oi (w64 (f-1)))] [(0,.arr 2 (((a.set (Int.toNat d) i).set (Int.toNat f) l).map Za))] ?_
 exact ⟨m16,zl_ _,((a.set (Int.toNat d) i).set (Int.toNat f) l),e,(w64 (d+1)),(w64 (f-1)),jk,zt,by rw [v] at c;exact c⟩ } } }
  {
 rcases zo_ (decide (d≤f)) with o | o
 {
 have c:=Zk c o
 obtain ⟨b6,c⟩:=Zo c
 obtain ⟨b0,d6,c⟩:=Zh c
 obtain ⟨b7,c⟩:=Zo c
 obtain ⟨b1,d7,c⟩:=Zh c
 obtain ⟨a5,d8,c⟩:=Zh c
 refine Wd [(3,.bool true),(8,.cells (Za b0)),(12,.cells (Za b1)),(13,.callR [] (oi a5))] [(0,ar 0 e),(1,oi v1),(4,.val false [.pv (.fn 104)]),(11,oi d),(12,oi f),(65,ob (decide (a5<0)))] [(0,.arr 2 (a.map Za))] [(decide (d≤f))=true,e=(a.map Za).length,(0:Int)≤v1,v1<((e:Nat):Int),e=(a.map Za).length,(a.map Za)[Int.toNat v1]?=some (Za b0),e=(a.map Za).length,(0:Int)≤f,f<((e:Nat):Int),e=(a.map Za).length,(a.map Za)[Int.toNat f]?=some (Za b1),SM 104 [tv (Za b0),tv (Za b1)] [] (oi a5) [],([]:List Nat).Nodup] ⟨o,zt,b6.1,(by have h_:=b6.2;(try simp only [zl,Zi] at h_ ⊢);omega),zt,(Zs (Zt _ d6)),zt,b7.1,(by have h_:=b7.2;(try simp only [zl,Zi] at h_ ⊢);omega),zt,(Zs (Zt _ d7)),(Zas k _ _ _ d8),nd,trivial⟩ ?_
 exact ⟨(decide (a5<0)),jk,c⟩ }
 {
 have c:=Zj c o
 refine Wd [(3,.bool false),(13,.callR [] (.tup []))] [(0,ar 0 e),(1,oi v1),(4,.val false [.pv (.fn 104)]),(11,oi d),(12,oi f),(65,ob false)] [(0,.arr 2 (a.map Za))] [(decide (d≤f))=false] ⟨o,trivial⟩ ?_
 exact ⟨false,jk,c⟩ } } } }
   {
 rcases zo_ (decide (d≤h)) with n | n
 {
 have c:=Zk c n
 obtain ⟨b4,c⟩:=Zo c
 obtain ⟨a8,d3,c⟩:=Zh c
 obtain ⟨b5,c⟩:=Zo c
 obtain ⟨a9,d4,c⟩:=Zh c
 obtain ⟨a4,d5,c⟩:=Zh c
 refine Wd [(3,.bool true),(8,.cells (Za a8)),(12,.cells (Za a9)),(13,.callR [] (oi a4))] [(0,ar 0 e),(1,oi v1),(4,.val false [.pv (.fn 104)]),(11,oi d),(12,oi h),(47,ob (!(decide (a4<0))))] [(0,.arr 2 (a.map Za))] [(decide (d≤h))=true,e=(a.map Za).length,(0:Int)≤v1,v1<((e:Nat):Int),e=(a.map Za).length,(a.map Za)[Int.toNat v1]?=some (Za a8),e=(a.map Za).length,(0:Int)≤d,d<((e:Nat):Int),e=(a.map Za).length,(a.map Za)[Int.toNat d]?=some (Za a9),SM 104 [tv (Za a8),tv (Za a9)] [] (oi a4) [],([]:List Nat).Nodup] ⟨n,zt,b4.1,(by have h_:=b4.2;(try simp only [zl,Zi] at h_ ⊢);omega),zt,(Zs (Zt _ d3)),zt,b5.1,(by have h_:=b5.2;(try simp only [zl,Zi] at h_ ⊢);omega),zt,(Zs (Zt _ d4)),(Zas k _ _ _ d5),nd,trivial⟩ ?_
 exact ⟨(!(decide (a4<0))),jk,c⟩ }
 {
 have c:=Zj c n
 refine Wd [(3,.bool false),(13,.callR [] (.tup []))] [(0,ar 0 e),(1,oi v1),(4,.val false [.pv (.fn 104)]),(11,oi d),(12,oi h),(47,ob false)] [(0,.arr 2 (a.map Za))] [(decide (d≤h))=false] ⟨n,trivial⟩ ?_
 exact ⟨false,jk,c⟩ } }
def Zb9 (self16:(List Zb)→Int→Int→Option (Bool×(List Zb))) (a:Int) (b:List Zb) (c:Int):Option (Bool×(List Zb)):=
  self16 b c (w64 (a+1))
def ZfO (k:Nat) (self16:(List Zb)→Int→Int→Option (Bool×(List Zb))) (d:(List Zb)→Int→Option (Bool×(List Zb))) (l:Int) (e:Int) (f:Int) (b:List Zb) (a:Int):Option (Bool×(List Zb)):=
  (cond (decide (a<l)) ((if (0:Int)≤a∧a<(b.length:Int) then (idxL b a).bind fun g=>if (0:Int)≤(w64 (a-1))∧(w64 (a-1))<(b.length:Int) then (idxL b (w64 (a-1))).bind fun h=>(F104 k g h).bind fun i=>(cond (!(decide (i<0))) ((Zb9 self16 e b f)) ((if (0:Int)≤(w64 (a-1))∧(w64 (a-1))<(b.length:Int) then (idxL b (w64 (a-1))).bind fun c=>if (0:Int)≤a∧a<(b.length:Int) then (idxL b a).bind fun j=>if (0:Int)≤a∧a<(b.length:Int) then (idxL b a).bind fun m=>if (0:Int)≤(w64 (a-1))∧(w64 (a-1))<((b.set (Int.toNat a) c).length:Int) then (idxL (b.set (Int.toNat a) c) (w64 (a-1))).bind fun n=>(d ((b.set (Int.toNat a) c).set (Int.toNat (w64 (a-1))) j) (w64 (a+1))) else none else none else none else none))) else none else none)) ((Zb9 self16 e b f)))
def Za9 (k:Nat) (self16:(List Zb)→Int→Int→Option (Bool×(List Zb))) (e:Int) (a:Int) (b:Int):Nat→(List Zb)→Int→Option (Bool×(List Zb))
  | 0,_,_=>none
  | f+1,c,d=>ZfO k self16 (Za9 k self16 e a b f) e a b c d
def Za6 (k:Nat) (self16:(List Zb)→Int→Int→Option (Bool×(List Zb))) (d:Int) (b:Int) (a:Int) (c:List Zb):Option (Bool×(List Zb)):=
  (cond (decide ((w64 (d-a))≥2)) ((Za9 k self16 d b a k c (w64 (a+1)))) ((Zb9 self16 b c a)))
def ZfN (k:Nat) (self16:(List Zb)→Int→Int→Option (Bool×(List Zb))) (d:(List Zb)→Int→Option (Bool×(List Zb))) (l:Int) (e:Int) (f:Int) (b:List Zb) (a:Int):Option (Bool×(List Zb)):=
  (cond (decide (a≥1)) ((if (0:Int)≤a∧a<(b.length:Int) then (idxL b a).bind fun g=>if (0:Int)≤(w64 (a-1))∧(w64 (a-1))<(b.length:Int) then (idxL b (w64 (a-1))).bind fun h=>(F104 k g h).bind fun i=>(cond (!(decide (i<0))) ((Za6 k self16 l e f b)) ((if (0:Int)≤(w64 (a-1))∧(w64 (a-1))<(b.length:Int) then (idxL b (w64 (a-1))).bind fun c=>if (0:Int)≤a∧a<(b.length:Int) then (idxL b a).bind fun j=>if (0:Int)≤a∧a<(b.length:Int) then (idxL b a).bind fun m=>if (0:Int)≤(w64 (a-1))∧(w64 (a-1))<((b.set (Int.toNat a) c).length:Int) then (idxL (b.set (Int.toNat a) c) (w64 (a-1))).bind fun n=>(d ((b.set (Int.toNat a) c).set (Int.toNat (w64 (a-1))) j) (w64 (a-1))) else none else none else none else none))) else none else none)) ((Za6 k self16 l e f b)))
def Za8 (k:Nat) (self16:(List Zb)→Int→Int→Option (Bool×(List Zb))) (e:Int) (a:Int) (b:Int):Nat→(List Zb)→Int→Option (Bool×(List Zb))
  | 0,_,_=>none
  | f+1,c,d=>ZfN k self16 (Za8 k self16 e a b f) e a b c d
def ZcM (k:Nat) (self16:(List Zb)→Int→Int→Option (Bool×(List Zb))) (d:Int→Option (Bool×(List Zb))) (v1:Int) (g:Int) (b:List Zb) (e:Int) (a:Int) (h:Bool):Option (Bool×(List Zb)):=
  cond h ((d (w64 (a+1)))) (((cond (a == g) ((some (true,b))) (((cond (decide ((w64 (g-v1))<50)) ((some (false,b))) ((if (0:Int)≤(w64 (a-1))∧(w64 (a-1))<(b.length:Int) then (idxL b (w64 (a-1))).bind fun c=>if (0:Int)≤a∧a<(b.length:Int) then (idxL b a).bind fun f=>if (0:Int)≤a∧a<(b.length:Int) then (idxL b a).bind fun i=>if (0:Int)≤(w64 (a-1))∧(w64 (a-1))<((b.set (Int.toNat a) c).length:Int) then (idxL (b.set (Int.toNat a) c) (w64 (a-1))).bind fun j=>((cond (decide ((w64 (a-v1))≥2)) ((Za8 k self16 g e a k ((b.set (Int.toNat a) c).set (Int.toNat (w64 (a-1))) f) (w64 (a-1)))) ((Za6 k self16 g e a ((b.set (Int.toNat a) c).set (Int.toNat (w64 (a-1))) f))))) else none else none else none else none))))))))
def ZfM (k:Nat) (self16:(List Zb)→Int→Int→Option (Bool×(List Zb))) (c:Int→Option (Bool×(List Zb))) (v1:Int) (e:Int) (b:List Zb) (d:Int) (a:Int):Option (Bool×(List Zb)):=
  cond (decide (a<e)) (if (0:Int)≤a∧a<(b.length:Int) then (idxL b a).bind fun f=>if (0:Int)≤(w64 (a-1))∧(w64 (a-1))<(b.length:Int) then (idxL b (w64 (a-1))).bind fun g=>(F104 k f g).bind fun h=>(ZcM k self16 c v1 e b d a (!(decide (h<0)))) else none else none) ((ZcM k self16 c v1 e b d a false))
def Za7 (k:Nat) (self16:(List Zb)→Int→Int→Option (Bool×(List Zb))) (v1:Int) (d:Int) (a:List Zb) (b:Int):Nat→Int→Option (Bool×(List Zb))
  | 0,_=>none
  | e+1,c=>ZfM k self16 (Za7 k self16 v1 d a b e) v1 d a b c
def ZfL (k:Nat) (self16:(List Zb)→Int→Int→Option (Bool×(List Zb))) (v1:Int) (d:Int) (a:List Zb) (c:Int) (b:Int):Option (Bool×(List Zb)):=
  (cond (decide (b<5)) ((Za7 k self16 v1 d a b k c)) (((some (false,a)))))
def Zak (k:Nat) (v1:Int) (d:Int):Nat→(List Zb)→Int→Int→Option (Bool×(List Zb))
  | 0,_,_,_=>none
  | e+1,a,b,c=>ZfL k (Zak k v1 d e) v1 d a b c
def F154 (k:Nat) (v0:List Zb) (v1:Int) (a:Int):Option (Bool×(List Zb)):=
  (((Zak k v1 a k v0 (w64 (v1+1)) 0)))
theorem Zp3 (k:Nat) (v0:List Zb) (v1:Int) (p:Int) (r:Bool×(List Zb)) (a:F154 k v0 v1 p=some r) {n0:Nat} (hn_n0:n0=v0.length):SM 154 [ar 0 n0,oi v1,oi p,.val false [.pv (.fn 104)]] [.arr 2 (v0.map Za)] (ob r.1) [.arr 2 (r.2.map Za)]:=by
 refine Zz [0] Tryz.func154 rfl kr kr ?_
 show WA _ _ 141 _ _ _
 refine Ws [] [(0,ar 0 n0),(1,oi v1),(2,oi p),(3,.val false [.pv (.fn 104)])] [(0,.arr 2 (v0.map Za))] ?_
 refine Ws [] [(0,ar 0 n0),(1,oi v1),(2,oi p),(3,.val false [.pv (.fn 104)]),(9,oi (w64 (v1+1)))] [(0,.arr 2 (v0.map Za))] ?_
 refine WA.seq ?_
 refine Ws [] [(0,ar 0 n0),(1,oi v1),(2,oi p),(3,.val false [.pv (.fn 104)]),(9,oi (w64 (v1+1))),(10,oi 0)] [(0,.arr 2 (v0.map Za))] ?_
 refine WA.block ?_
 refine WA.loop (fun m t=>∃(d:List Zb) (i:Nat) (a1:Int) (e:Int),J t [(0,ar 0 i),(1,oi v1),(2,oi p),(3,.val false [.pv (.fn 104)]),(9,oi a1),(10,oi e)] [(0,.arr 2 (d.map Za))]∧i=(d:List _).length∧Zak k v1 p m d a1 e=some r) k ⟨v0,n0,(w64 (v1+1)),0,jk,zt,a⟩ ?_
 clear a
 rintro m16 t ⟨d,i,a1,e,s,h9,a⟩
 refine Wj s ?_
 clear s
 cases m16 with
 | zero=>cases a
 | succ m16=>
  obtain ⟨self16,a7⟩:∃g,g=Zak k v1 p m16:=⟨_,rfl⟩
  have a:ZfL k self16 v1 p d a1 e=some r:=by first | (rw [a7];exact a) | exact a
  refine WA.seq ?_
  refine Ws [] [(0,ar 0 i),(1,oi v1),(2,oi p),(3,.val false [.pv (.fn 104)]),(9,oi a1),(10,oi e),(16,ob (decide (e<5)))] [(0,.arr 2 (d.map Za))] ?_
  refine WA.cond (b:=(decide (e<5))) rfl (fun b1=>?_) (fun b1=>?_)
  {
 have a:=Zk a b1
 refine WA.skip ?_
 refine WA.join (fun t=>∃(a2:List Zb) (a5:Nat) (a6:Int),J t [(0,ar 0 a5),(1,oi v1),(2,oi p),(3,.val false [.pv (.fn 104)]),(9,oi a6),(10,oi e)] [(0,.arr 2 (a2.map Za))]∧a5=(a2:List _).length∧Zb9 self16 e a2 a6=some r) ?_ ?_
 {
 rintro t ⟨a2,a5,a6,s,i3,a⟩
 refine Wj s ?_
 clear s
 refine Wr [] [(0,ar 0 a5),(1,oi v1),(2,oi p),(3,.val false [.pv (.fn 104)]),(9,oi a6),(10,oi (w64 (e+1)))] [(0,.arr 2 (a2.map Za))] ?_
 exact ⟨m16,zl_ _,a2,a5,a6,(w64 (e+1)),jk,zt,by rw [a7] at a;exact a⟩ }
 {
 refine WA.block ?_
 refine WA.seq ?_
 refine WA.block ?_
 refine WA.loop (fun m t=>∃(c:Int),J t [(0,ar 0 i),(1,oi v1),(2,oi p),(3,.val false [.pv (.fn 104)]),(9,oi c),(10,oi e)] [(0,.arr 2 (d.map Za))]∧Za7 k self16 v1 p d e m c=some r) k ⟨a1,jk,a⟩ ?_
 clear a
 rintro m19 t ⟨c,s,a⟩
 refine Wj s ?_
 clear s
 cases m19 with
 | zero=>cases a
 | succ m19=>
  obtain ⟨c5,a8⟩:∃g,g=Za7 k self16 v1 p d e m19:=⟨_,rfl⟩
  have a:ZfM k self16 c5 v1 p d e c=some r:=by first | (rw [a8];exact a) | exact a
  refine WA.seq ?_
  refine WA.join (fun t=>∃(c1:Bool),J t [(0,ar 0 i),(1,oi v1),(2,oi p),(3,.val false [.pv (.fn 104)]),(9,oi c),(10,oi e),(36,ob c1)] [(0,.arr 2 (d.map Za))]∧ZcM k self16 c5 v1 p d e c c1=some r) ?_ ?_
  {
 rintro t ⟨c1,s,a⟩
 refine Wj s ?_
 clear s
 refine WA.cond (b:=c1) rfl (fun b2=>?_) (fun b2=>?_)
 {
 have a:=Zk a b2
 refine WA.skip ?_
 refine WA.block ?_
 refine Wr [] [(0,ar 0 i),(1,oi v1),(2,oi p),(3,.val false [.pv (.fn 104)]),(9,oi (w64 (c+1))),(10,oi e)] [(0,.arr 2 (d.map Za))] ?_
 exact ⟨m19,zl_ _,(w64 (c+1)),jk,by rw [a8] at a;exact a⟩ }
 {
 have a:=Zj a b2
 refine WA.exit ?_
 refine WA.seq ?_
 refine Ws [] [(0,ar 0 i),(1,oi v1),(2,oi p),(3,.val false [.pv (.fn 104)]),(9,oi c),(10,oi e),(41,ob (c == p))] [(0,.arr 2 (d.map Za))] ?_
 refine WA.cond (b:=(c == p)) rfl (fun b3=>?_) (fun b3=>?_)
 {
 have a:=Zk a b3
 refine Ws [] [(8,ob true)] [(0,.arr 2 (d.map Za))] ?_
 refine WA.ret ?_
 obtain rfl:=zj_ a
 exact Zq (ob true) [.arr 2 (d.map Za)] kr kr kr kr nd rfl rfl }
 {
 have a:=Zj a b3
 refine WA.skip ?_
 refine WA.seq ?_
 refine Ws [] [(0,ar 0 i),(1,oi v1),(2,oi p),(3,.val false [.pv (.fn 104)]),(9,oi c),(10,oi e),(45,ob (decide ((w64 (p-v1))<50)))] [(0,.arr 2 (d.map Za))] ?_
 refine WA.cond (b:=(decide ((w64 (p-v1))<50))) rfl (fun b4=>?_) (fun b4=>?_)
 {
 have a:=Zk a b4
 refine Ws [] [(8,ob false)] [(0,.arr 2 (d.map Za))] ?_
 refine WA.ret ?_
 obtain rfl:=zj_ a
 exact Zq (ob false) [.arr 2 (d.map Za)] kr kr kr kr nd rfl rfl }
 {
 have a:=Zj a b4
 refine WA.skip ?_
 refine WA.seq ?_
 obtain ⟨d4,a⟩:=Zo a
 obtain ⟨q,g1,a⟩:=Zh a
 obtain ⟨d5,a⟩:=Zo a
 obtain ⟨v,g2,a⟩:=Zh a
 obtain ⟨f2,a⟩:=Zo a
 obtain ⟨e6,g3,a⟩:=Zh a
 obtain ⟨f3,a⟩:=Zo a
 obtain ⟨e7,g4,a⟩:=Zh a
 have z0:(w64 (c-1))<((i:Nat):Int):=(by have h_:=d4.2;(try simp only [zl,Zi] at h_ ⊢);omega)
 have z2:c<((i:Nat):Int):=(by have h_:=d5.2;(try simp only [zl,Zi] at h_ ⊢);omega)
 refine Wdm (((((d.map Za).set (Int.toNat c) (Za q)).set (Int.toNat (w64 (c-1))) (Za v)),((d.map Za).set (Int.toNat c) (Za q))):(List (List PV))×(List (List PV))) ((((d.set (Int.toNat c) q).set (Int.toNat (w64 (c-1))) v).map Za),((d.set (Int.toNat c) q).map Za)) (fun m_=>([(0,ar 0 i),(1,oi v1),(2,oi p),(3,.val false [.pv (.fn 104)]),(9,oi c),(10,oi e)],[(0,.arr 2 m_.1)],[i=(d.map Za).length,(0:Int)≤(w64 (c-1)),(w64 (c-1))<((i:Nat):Int),i=(d.map Za).length,(d.map Za)[Int.toNat (w64 (c-1))]?=some (Za q),i=(d.map Za).length,(0:Int)≤c,c<((i:Nat):Int),i=(d.map Za).length,(d.map Za)[Int.toNat c]?=some (Za v),i=(d.map Za).length,(0:Int)≤c,c<((i:Nat):Int),i=(d.map Za).length,(d.map Za)[Int.toNat c]?=some (Za e6),i=m_.2.length,(0:Int)≤(w64 (c-1)),(w64 (c-1))<((i:Nat):Int),i=m_.2.length,m_.2[Int.toNat (w64 (c-1))]?=some (Za e7)])) (ZH zm zm) [(9,.cells (Za q)),(13,.cells (Za v)),(15,.cells (Za e6)),(17,.cells (Za e7))] ⟨zt,d4.1,z0,zt,(Zs (Zt _ g1)),zt,d5.1,z2,zt,(Zs (Zt _ g2)),zt,f2.1,z2,zt,(Zs (Zt _ g3)),zt,f3.1,z0,zt,(Zs (Zt _ g4)),trivial⟩ ?_
 refine WA.join (fun t=>∃(u:List Zb) (y:Nat),J t [(0,ar 0 y),(1,oi v1),(2,oi p),(3,.val false [.pv (.fn 104)]),(9,oi c),(10,oi e)] [(0,.arr 2 (u.map Za))]∧y=(u:List _).length∧Za6 k self16 p e c u=some r) ?_ ?_
 {
 rintro t ⟨u,y,s,i1,a⟩
 refine Wj s ?_
 clear s
 refine Ws [] [(0,ar 0 y),(1,oi v1),(2,oi p),(3,.val false [.pv (.fn 104)]),(9,oi c),(10,oi e),(104,ob (decide ((w64 (p-c))≥2)))] [(0,.arr 2 (u.map Za))] ?_
 refine WA.cond (b:=(decide ((w64 (p-c))≥2))) rfl (fun b8=>?_) (fun b8=>?_)
 {
 have a:=Zk a b8
 refine Ws [] [(0,ar 0 y),(1,oi v1),(2,oi p),(3,.val false [.pv (.fn 104)]),(9,oi c),(10,oi e),(12,oi (w64 (c+1)))] [(0,.arr 2 (u.map Za))] ?_
 refine WA.block ?_
 refine WA.loop (fun m t=>∃(n:List Zb) (o:Nat) (h:Int),J t [(0,ar 0 o),(1,oi v1),(2,oi p),(3,.val false [.pv (.fn 104)]),(9,oi c),(10,oi e),(12,oi h)] [(0,.arr 2 (n.map Za))]∧o=(n:List _).length∧Za9 k self16 p e c m n h=some r) k ⟨u,y,(w64 (c+1)),jk,zt,a⟩ ?_
 clear a
 rintro m23 t ⟨n,o,h,s,i2,a⟩
 refine Wj s ?_
 clear s
 cases m23 with
 | zero=>cases a
 | succ m23=>
  obtain ⟨e5,b0⟩:∃g,g=Za9 k self16 p e c m23:=⟨_,rfl⟩
  have a:ZfO k self16 e5 p e c n h=some r:=by first | (rw [b0];exact a) | exact a
  refine WA.seq ?_
  refine Ws [] [(0,ar 0 o),(1,oi v1),(2,oi p),(3,.val false [.pv (.fn 104)]),(9,oi c),(10,oi e),(12,oi h),(109,ob (decide (h<p)))] [(0,.arr 2 (n.map Za))] ?_
  refine WA.cond (b:=(decide (h<p))) rfl (fun b9=>?_) (fun b9=>?_)
  {
 have a:=Zk a b9
 refine WA.skip ?_
 refine WA.seq ?_
 refine WA.block ?_
 refine WA.seq ?_
 refine WA.seq ?_
 obtain ⟨e0,a⟩:=Zo a
 obtain ⟨d0,h2,a⟩:=Zh a
 obtain ⟨e1,a⟩:=Zo a
 obtain ⟨d1,h3,a⟩:=Zh a
 obtain ⟨c4,h4,a⟩:=Zh a
 refine Wd [(4,.cells (Za d0)),(9,.cells (Za d1)),(10,.callR [] (oi c4))] [(0,ar 0 o),(1,oi v1),(2,oi p),(3,.val false [.pv (.fn 104)]),(9,oi c),(10,oi e),(12,oi h),(124,ob (!(decide (c4<0))))] [(0,.arr 2 (n.map Za))] [o=(n.map Za).length,(0:Int)≤h,h<((o:Nat):Int),o=(n.map Za).length,(n.map Za)[Int.toNat h]?=some (Za d0),o=(n.map Za).length,(0:Int)≤(w64 (h-1)),(w64 (h-1))<((o:Nat):Int),o=(n.map Za).length,(n.map Za)[Int.toNat (w64 (h-1))]?=some (Za d1),SM 104 [tv (Za d0),tv (Za d1)] [] (oi c4) [],([]:List Nat).Nodup] ⟨zt,e0.1,(by have h_:=e0.2;(try simp only [zl,Zi] at h_ ⊢);omega),zt,(Zs (Zt _ h2)),zt,e1.1,(by have h_:=e1.2;(try simp only [zl,Zi] at h_ ⊢);omega),zt,(Zs (Zt _ h3)),(Zas k _ _ _ h4),nd,trivial⟩ ?_
 refine WA.cond (b:=(!(decide (c4<0)))) rfl (fun c0=>?_) (fun c0=>?_)
 {
 have a:=Zk a c0
 refine WA.exit ?_
 exact ⟨n,o,c,jk,zt,a⟩ }
 {
 have a:=Zj a c0
 refine WA.skip ?_
 obtain ⟨e2,a⟩:=Zo a
 obtain ⟨x,h5,a⟩:=Zh a
 obtain ⟨e3,a⟩:=Zo a
 obtain ⟨a4,h6,a⟩:=Zh a
 obtain ⟨f6,a⟩:=Zo a
 obtain ⟨f0,h7,a⟩:=Zh a
 obtain ⟨f7,a⟩:=Zo a
 obtain ⟨f1,h8,a⟩:=Zh a
 have z0:(w64 (h-1))<((o:Nat):Int):=(by have h_:=e2.2;(try simp only [zl,Zi] at h_ ⊢);omega)
 have z2:h<((o:Nat):Int):=(by have h_:=e3.2;(try simp only [zl,Zi] at h_ ⊢);omega)
 refine Wdm (((((n.map Za).set (Int.toNat h) (Za x)).set (Int.toNat (w64 (h-1))) (Za a4)),((n.map Za).set (Int.toNat h) (Za x))):(List (List PV))×(List (List PV))) ((((n.set (Int.toNat h) x).set (Int.toNat (w64 (h-1))) a4).map Za),((n.set (Int.toNat h) x).map Za)) (fun m_=>([(0,ar 0 o),(1,oi v1),(2,oi p),(3,.val false [.pv (.fn 104)]),(9,oi c),(10,oi e),(12,oi h)],[(0,.arr 2 m_.1)],[o=(n.map Za).length,(0:Int)≤(w64 (h-1)),(w64 (h-1))<((o:Nat):Int),o=(n.map Za).length,(n.map Za)[Int.toNat (w64 (h-1))]?=some (Za x),o=(n.map Za).length,(0:Int)≤h,h<((o:Nat):Int),o=(n.map Za).length,(n.map Za)[Int.toNat h]?=some (Za a4),o=(n.map Za).length,(0:Int)≤h,h<((o:Nat):Int),o=(n.map Za).length,(n.map Za)[Int.toNat h]?=some (Za f0),o=m_.2.length,(0:Int)≤(w64 (h-1)),(w64 (h-1))<((o:Nat):Int),o=m_.2.length,m_.2[Int.toNat (w64 (h-1))]?=some (Za f1)])) (ZH zm zm) [(9,.cells (Za x)),(13,.cells (Za a4)),(15,.cells (Za f0)),(17,.cells (Za f1))] ⟨zt,e2.1,z0,zt,(Zs (Zt _ h5)),zt,e3.1,z2,zt,(Zs (Zt _ h6)),zt,f6.1,z2,zt,(Zs (Zt _ h7)),zt,f7.1,z0,zt,(Zs (Zt _ h8)),trivial⟩ ?_
 refine Wr [] [(0,ar 0 o),(1,oi v1),(2,oi p),(3,.val false [.pv (.fn 104)]),(9,oi c),(10,oi e),(12,oi (w64 (h+1)))] [(0,.arr 2 (((n.set (Int.toNat h) x).set (Int.toNat (w64 (h-1))) a4).map Za))] ?_
 exact ⟨m23,zl_ _,((n.set (Int.toNat h) x).set (Int.toNat (w64 (h-1))) a4),o,(w64 (h+1)),jk,zt,by rw [b0] at a;exact a⟩ } }
  {
 have a:=Zj a b9
 refine WA.exit ?_
 exact ⟨n,o,c,jk,zt,a⟩ } }
 {
 have a:=Zj a b8
 refine WA.skip ?_
 exact ⟨u,y,c,jk,zt,a⟩ } }
 {
 refine Ws [] [(0,ar 0 i),(1,oi v1),(2,oi p),(3,.val false [.pv (.fn 104)]),(9,oi c),(10,oi e),(65,ob (decide ((w64 (c-v1))≥2)))] [(0,.arr 2 (((d.set (Int.toNat c) q).set (Int.toNat (w64 (c-1))) v).map Za))] ?_
 refine WA.cond (b:=(decide ((w64 (c-v1))≥2))) rfl (fun b5=>?_) (fun b5=>?_)
 {
 have a:=Zk a b5
 refine Ws [] [(0,ar 0 i),(1,oi v1),(2,oi p),(3,.val false [.pv (.fn 104)]),(9,oi c),(10,oi e),(11,oi (w64 (c-1)))] [(0,.arr 2 (((d.set (Int.toNat c) q).set (Int.toNat (w64 (c-1))) v).map Za))] ?_
 refine WA.block ?_
 refine WA.loop (fun m t=>∃(j:List Zb) (l:Nat) (f:Int),J t [(0,ar 0 l),(1,oi v1),(2,oi p),(3,.val false [.pv (.fn 104)]),(9,oi c),(10,oi e),(11,oi f)] [(0,.arr 2 (j.map Za))]∧l=(j:List _).length∧Za8 k self16 p e c m j f=some r) k ⟨((d.set (Int.toNat c) q).set (Int.toNat (w64 (c-1))) v),i,(w64 (c-1)),jk,zt,a⟩ ?_
 clear a
 rintro m21 t ⟨j,l,f,s,i0,a⟩
 refine Wj s ?_
 clear s
 cases m21 with
 | zero=>cases a
 | succ m21=>
  obtain ⟨e4,a9⟩:∃g,g=Za8 k self16 p e c m21:=⟨_,rfl⟩
  have a:ZfN k self16 e4 p e c j f=some r:=by first | (rw [a9];exact a) | exact a
  refine WA.seq ?_
  refine Ws [] [(0,ar 0 l),(1,oi v1),(2,oi p),(3,.val false [.pv (.fn 104)]),(9,oi c),(10,oi e),(11,oi f),(69,ob (decide (f≥1)))] [(0,.arr 2 (j.map Za))] ?_
  refine WA.cond (b:=(decide (f≥1))) rfl (fun b6=>?_) (fun b6=>?_)
  {
 have a:=Zk a b6
 refine WA.skip ?_
 refine WA.seq ?_
 refine WA.block ?_
 refine WA.seq ?_
 refine WA.seq ?_
 obtain ⟨d6,a⟩:=Zo a
 obtain ⟨c8,g5,a⟩:=Zh a
 obtain ⟨d7,a⟩:=Zo a
 obtain ⟨c9,g6,a⟩:=Zh a
 obtain ⟨c3,g7,a⟩:=Zh a
 refine Wd [(4,.cells (Za c8)),(9,.cells (Za c9)),(10,.callR [] (oi c3))] [(0,ar 0 l),(1,oi v1),(2,oi p),(3,.val false [.pv (.fn 104)]),(9,oi c),(10,oi e),(11,oi f),(84,ob (!(decide (c3<0))))] [(0,.arr 2 (j.map Za))] [l=(j.map Za).length,(0:Int)≤f,f<((l:Nat):Int),l=(j.map Za).length,(j.map Za)[Int.toNat f]?=some (Za c8),l=(j.map Za).length,(0:Int)≤(w64 (f-1)),(w64 (f-1))<((l:Nat):Int),l=(j.map Za).length,(j.map Za)[Int.toNat (w64 (f-1))]?=some (Za c9),SM 104 [tv (Za c8),tv (Za c9)] [] (oi c3) [],([]:List Nat).Nodup] ⟨zt,d6.1,(by have h_:=d6.2;(try simp only [zl,Zi] at h_ ⊢);omega),zt,(Zs (Zt _ g5)),zt,d7.1,(by have h_:=d7.2;(try simp only [zl,Zi] at h_ ⊢);omega),zt,(Zs (Zt _ g6)),(Zas k _ _ _ g7),nd,trivial⟩ ?_
 refine WA.cond (b:=(!(decide (c3<0)))) rfl (fun b7=>?_) (fun b7=>?_)
 {
 have a:=Zk a b7
 refine WA.exit ?_
 exact ⟨j,l,jk,zt,a⟩ }
 {
 have a:=Zj a b7
 refine WA.skip ?_
 obtain ⟨d8,a⟩:=Zo a
 obtain ⟨w,g8,a⟩:=Zh a
 obtain ⟨d9,a⟩:=Zo a
 obtain ⟨a3,g9,a⟩:=Zh a
 obtain ⟨f4,a⟩:=Zo a
 obtain ⟨e8,h0,a⟩:=Zh a
 obtain ⟨f5,a⟩:=Zo a
 obtain ⟨e9,h1,a⟩:=Zh a
 have z0:(w64 (f-1))<((l:Nat):Int):=(by have h_:=d8.2;(try simp only [zl,Zi] at h_ ⊢);omega)
 have z2:f<((l:Nat):Int):=(by have h_:=d9.2;(try simp only [zl,Zi] at h_ ⊢);omega)
 refine Wdm (((((j.map Za).set (Int.toNat f) (Za w)).set (Int.toNat (w64 (f-1))) (Za a3)),((j.map Za).set (Int.toNat f) (Za w))):(List (List PV))×(List (List PV))) ((((j.set (Int.toNat f) w).set (Int.toNat (w64 (f-1))) a3).map Za),((j.set (Int.toNat f) w).map Za)) (fun m_=>([(0,ar 0 l),(1,oi v1),(2,oi p),(3,.val false [.pv (.fn 104)]),(9,oi c),(10,oi e),(11,oi f)],[(0,.arr 2 m_.1)],[l=(j.map Za).length,(0:Int)≤(w64 (f-1)),(w64 (f-1))<((l:Nat):Int),l=(j.map Za).length,(j.map Za)[Int.toNat (w64 (f-1))]?=some (Za w),l=(j.map Za).length,(0:Int)≤f,f<((l:Nat):Int),l=(j.map Za).length,(j.map Za)[Int.toNat f]?=some (Za a3),l=(j.map Za).length,(0:Int)≤f,f<((l:Nat):Int),l=(j.map Za).length,(j.map Za)[Int.toNat f]?=some (Za e8),l=m_.2.length,(0:Int)≤(w64 (f-1)),(w64 (f-1))<((l:Nat):Int),l=m_.2.length,m_.2[Int.toNat (w64 (f-1))]?=some (Za e9)])) (ZH zm zm) [(9,.cells (Za w)),(13,.cells (Za a3)),(15,.cells (Za e8)),(17,.cells (Za e9))] ⟨zt,d8.1,z0,zt,(Zs (Zt _ g8)),zt,d9.1,z2,zt,(Zs (Zt _ g9)),zt,f4.1,z2,zt,(Zs (Zt _ h0)),zt,f5.1,z0,zt,(Zs (Zt _ h1)),trivial⟩ ?_
 refine Wr [] [(0,ar 0 l),(1,oi v1),(2,oi p),(3,.val false [.pv (.fn 104)]),(9,oi c),(10,oi e),(11,oi (w64 (f-1)))] [(0,.arr 2 (((j.set (Int.toNat f) w).set (Int.toNat (w64 (f-1))) a3).map Za))] ?_
 exact ⟨m21,zl_ _,((j.set (Int.toNat f) w).set (Int.toNat (w64 (f-1))) a3),l,(w64 (f-1)),jk,zt,by rw [a9] at a;exact a⟩ } }
  {
 have a:=Zj a b6
 refine WA.exit ?_
 exact ⟨j,l,jk,zt,a⟩ } }
 {
 have a:=Zj a b5
 refine WA.skip ?_
 exact ⟨((d.set (Int.toNat c) q).set (Int.toNat (w64 (c-1))) v),i,jk,zt,a⟩ } } } } } }
  {
 rcases zo_ (decide (c<p)) with z | z
 {
 have a:=Zk a z
 obtain ⟨d2,a⟩:=Zo a
 obtain ⟨c6,f8,a⟩:=Zh a
 obtain ⟨d3,a⟩:=Zo a
 obtain ⟨c7,f9,a⟩:=Zh a
 obtain ⟨c2,g0,a⟩:=Zh a
 refine Wd [(3,.bool true),(8,.cells (Za c6)),(13,.cells (Za c7)),(14,.callR [] (oi c2))] [(0,ar 0 i),(1,oi v1),(2,oi p),(3,.val false [.pv (.fn 104)]),(9,oi c),(10,oi e),(36,ob (!(decide (c2<0))))] [(0,.arr 2 (d.map Za))] [(decide (c<p))=true,i=(d.map Za).length,(0:Int)≤c,c<((i:Nat):Int),i=(d.map Za).length,(d.map Za)[Int.toNat c]?=some (Za c6),i=(d.map Za).length,(0:Int)≤(w64 (c-1)),(w64 (c-1))<((i:Nat):Int),i=(d.map Za).length,(d.map Za)[Int.toNat (w64 (c-1))]?=some (Za c7),SM 104 [tv (Za c6),tv (Za c7)] [] (oi c2) [],([]:List Nat).Nodup] ⟨z,zt,d2.1,(by have h_:=d2.2;(try simp only [zl,Zi] at h_ ⊢);omega),zt,(Zs (Zt _ f8)),zt,d3.1,(by have h_:=d3.2;(try simp only [zl,Zi] at h_ ⊢);omega),zt,(Zs (Zt _ f9)),(Zas k _ _ _ g0),nd,trivial⟩ ?_
 exact ⟨(!(decide (c2<0))),jk,a⟩ }
 {
 have a:=Zj a z
 refine Wd [(3,.bool false),(14,.callR [] (.tup []))] [(0,ar 0 i),(1,oi v1),(2,oi p),(3,.val false [.pv (.fn 104)]),(9,oi c),(10,oi e),(36,ob false)] [(0,.arr 2 (d.map Za))] [(decide (c<p))=false] ⟨z,trivial⟩ ?_
 exact ⟨false,jk,a⟩ } } } }
  {
 have a:=Zj a b1
 refine WA.exit ?_
 refine Ws [] [(8,ob false)] [(0,.arr 2 (d.map Za))] ?_
 refine WA.ret ?_
 obtain rfl:=zj_ a
 exact Zq (ob false) [.arr 2 (d.map Za)] kr kr kr kr nd rfl rfl }
def ZdE (e:(List Zb)→Int→Int→Option (List Zb)) (b:List Zb) (a:Int) (c:Int):Option (List Zb):=
  (cond (decide (a<c)) ((if (0:Int)≤c∧c<(b.length:Int) then (idxL b c).bind fun d=>if (0:Int)≤a∧a<(b.length:Int) then (idxL b a).bind fun f=>if (0:Int)≤a∧a<(b.length:Int) then (idxL b a).bind fun g=>if (0:Int)≤c∧c<((b.set (Int.toNat a) d).length:Int) then (idxL (b.set (Int.toNat a) d) c).bind fun h=>((e ((b.set (Int.toNat a) d).set (Int.toNat c) f) (w64 (a+1)) (w64 (c-1)))) else none else none else none else none)) (some b))
def ZbN:Nat→(List Zb)→Int→Int→Option (List Zb)
  | 0,_,_,_=>none
  | d+1,a,b,c=>ZdE (ZbN d) a b c
def F153 (k:Nat) (v0:List Zb) (v1:Int) (a:Int):Option (List Zb):=
  ((ZbN k v0 v1 (w64 (a-1))))
theorem Zp2 (k:Nat) (v0:List Zb) (v1:Int) (p:Int) (r:List Zb) (f:F153 k v0 v1 p=some r) {n0:Nat} (hn_n0:n0=v0.length):SM 153 [ar 0 n0,oi v1,oi p,.val false [.pv (.fn 104)]] [.arr 2 (v0.map Za)] (.tup []) [.arr 2 (r.map Za)]:=by
 refine Zz [0] Tryz.func153 rfl kr kr ?_
 show WA _ _ 34 _ _ _
 refine Ws [] [(0,ar 0 n0),(2,oi p),(8,oi v1)] [(0,.arr 2 (v0.map Za))] ?_
 refine Ws [] [(0,ar 0 n0),(8,oi v1),(9,oi (w64 (p-1)))] [(0,.arr 2 (v0.map Za))] ?_
 refine WA.block ?_
 refine WA.loop (fun m s_=>∃(c:List Zb) (e:Nat) (a:Int) (d:Int),J s_ [(0,ar 0 e),(8,oi a),(9,oi d)] [(0,.arr 2 (c.map Za))]∧e=(c:List _).length∧ZbN m c a d=some r) k ⟨v0,n0,v1,(w64 (p-1)),jk,zt,f⟩ ?_
 clear f
 rintro m0 s_ ⟨c,e,a,d,he,a1,f⟩
 refine Wj he ?_
 clear he
 cases m0 with
 | zero=>cases f
 | succ m0=>
  obtain ⟨a0,l⟩:∃g,g=ZbN m0:=⟨_,rfl⟩
  have f:ZdE a0 c a d=some r:=by first | (rw [l];exact f) | exact f
  refine WA.seq ?_
  refine Ws [] [(0,ar 0 e),(8,oi a),(9,oi d),(15,ob (decide (a<d)))] [(0,.arr 2 (c.map Za))] ?_
  refine WA.cond (b:=(decide (a<d))) rfl (fun j=>?_) (fun j=>?_)
  {
 have f:=Zk f j
 refine WA.skip ?_
 refine WA.block ?_
 refine WA.seq ?_
 obtain ⟨n,f⟩:=Zo f
 obtain ⟨h,v,f⟩:=Zh f
 obtain ⟨o,f⟩:=Zo f
 obtain ⟨i,w,f⟩:=Zh f
 obtain ⟨t,f⟩:=Zo f
 obtain ⟨q,x,f⟩:=Zh f
 obtain ⟨u,f⟩:=Zo f
 obtain ⟨s,y,f⟩:=Zh f
 have z0:d<((e:Nat):Int):=(by have h_:=n.2;(try simp only [zl,Zi] at h_ ⊢);omega)
 have z2:a<((e:Nat):Int):=(by have h_:=o.2;(try simp only [zl,Zi] at h_ ⊢);omega)
 refine Wdm (((((c.map Za).set (Int.toNat a) (Za h)).set (Int.toNat d) (Za i)),((c.map Za).set (Int.toNat a) (Za h))):(List (List PV))×(List (List PV))) ((((c.set (Int.toNat a) h).set (Int.toNat d) i).map Za),((c.set (Int.toNat a) h).map Za)) (fun z=>([(0,ar 0 e),(8,oi a),(9,oi d)],[(0,.arr 2 z.1)],[e=(c.map Za).length,(0:Int)≤d,d<((e:Nat):Int),e=(c.map Za).length,(c.map Za)[Int.toNat d]?=some (Za h),e=(c.map Za).length,(0:Int)≤a,a<((e:Nat):Int),e=(c.map Za).length,(c.map Za)[Int.toNat a]?=some (Za i),e=(c.map Za).length,(0:Int)≤a,a<((e:Nat):Int),e=(c.map Za).length,(c.map Za)[Int.toNat a]?=some (Za q),e=z.2.length,(0:Int)≤d,d<((e:Nat):Int),e=z.2.length,z.2[Int.toNat d]?=some (Za s)])) (ZH zm zm) [(7,.cells (Za h)),(11,.cells (Za i)),(13,.cells (Za q)),(15,.cells (Za s))] ⟨zt,n.1,z0,zt,(Zs (Zt _ v)),zt,o.1,z2,zt,(Zs (Zt _ w)),zt,t.1,z2,zt,(Zs (Zt _ x)),zt,u.1,z0,zt,(Zs (Zt _ y)),trivial⟩ ?_
 refine Ws [] [(0,ar 0 e),(8,oi (w64 (a+1))),(9,oi d)] [(0,.arr 2 (((c.set (Int.toNat a) h).set (Int.toNat d) i).map Za))] ?_
 refine Wr [] [(0,ar 0 e),(8,oi (w64 (a+1))),(9,oi (w64 (d-1)))] [(0,.arr 2 (((c.set (Int.toNat a) h).set (Int.toNat d) i).map Za))] ?_
 exact ⟨m0,zl_ _,((c.set (Int.toNat a) h).set (Int.toNat d) i),e,(w64 (a+1)),(w64 (d-1)),jk,zt,by rw [l] at f;exact f⟩ }
  {
 have f:=Zj f j
 refine WA.exit ?_
 obtain rfl:=zj_ f
 exact ZcV (.tup []) [.arr 2 (c.map Za)] kr kr kr kr nd rfl rfl }
def ZeO (a:List Zb) (c:Int) (b:Int):Option (Int×Int×(List Zb)):=
  ((cond (c == 0) ((some (b,1,a))) ((cond (c == 12) ((some (b,2,a))) ((some (b,0,a)))))))
def ZeN (k:Nat) (b:List Zb) (c:Int) (d:Int) (e:Int) (f:Int):Option (Int×Int×(List Zb)):=
  (F178 k b d e f c).bind fun a=>if a.2.1.length=b.length then (ZeO a.2.1 a.2.2 a.1) else none
def F152 (k:Nat) (v0:List Zb) (v1:Int) (c:Int):Option (Int×Int×(List Zb)):=
  (((if (4:Int)≠0 then (if (4:Int)≠0 then (if (4:Int)≠0 then ((cond (decide ((w64 (c-v1))≥8)) ((cond (decide ((w64 (c-v1))≥50)) ((F177 k v0 (w64 (v1+(w64 ((w64 (Int.tdiv (w64 (c-v1)) 4))*1)))) 0).bind fun a=>if a.2.1.length=v0.length then (F177 k a.2.1 (w64 (v1+(w64 ((w64 (Int.tdiv (w64 (c-v1)) 4))*2)))) a.2.2).bind fun b=>if b.2.1.length=a.2.1.length then (F177 k b.2.1 (w64 (v1+(w64 ((w64 (Int.tdiv (w64 (c-v1)) 4))*3)))) b.2.2).bind fun d=>if d.2.1.length=b.2.1.length then (ZeN k d.2.1 d.2.2 a.1 b.1 d.1) else none else none else none) ((ZeN k v0 0 (w64 (v1+(w64 ((w64 (Int.tdiv (w64 (c-v1)) 4))*1)))) (w64 (v1+(w64 ((w64 (Int.tdiv (w64 (c-v1)) 4))*2)))) (w64 (v1+(w64 ((w64 (Int.tdiv (w64 (c-v1)) 4))*3)))))))) ((ZeO v0 0 (w64 (v1+(w64 ((w64 (Int.tdiv (w64 (c-v1)) 4))*2)))))))) else none) else none) else none)))
theorem Zp1 (k:Nat) (v0:List Zb) (v1:Int) (c:Int) (r:Int×Int×(List Zb)) (a:F152 k v0 v1 c=some r) {n0:Nat} (hn_n0:n0=v0.length):SM 152 [ar 0 n0,oi v1,oi c,.val false [.pv (.fn 104)]] [.arr 2 (v0.map Za)] (.tup [(false,[.pv (.int .i64 r.1)]),(false,[.pv (.int .i64 r.2.1)])]) [.arr 2 (r.2.2.map Za)]:=by
 refine Zz [0] Tryz.func152 rfl kr kr ?_
 show WA _ _ 63 _ _ _
 refine Ws [] [(0,ar 0 n0),(1,oi v1),(2,oi c),(3,.val false [.pv (.fn 104)])] [(0,.arr 2 (v0.map Za))] ?_
 refine Ws [] [(0,ar 0 n0),(1,oi v1),(3,.val false [.pv (.fn 104)]),(10,oi (w64 (c-v1)))] [(0,.arr 2 (v0.map Za))] ?_
 refine Ws [(0,.obj 111)] [(0,ar 0 n0),(1,oi v1),(3,.val false [.pv (.fn 104)]),(10,oi (w64 (c-v1))),(11,pt 111)] [(0,.arr 2 (v0.map Za)),(111,bx [.int .i64 0])] ?_
 obtain ⟨y,a⟩:=Zo a
 refine Wos [] [(0,ar 0 n0),(1,oi v1),(3,.val false [.pv (.fn 104)]),(10,oi (w64 (c-v1))),(11,pt 111),(12,oi (w64 (v1+(w64 ((w64 (Int.tdiv (w64 (c-v1)) 4))*1)))))] [(0,.arr 2 (v0.map Za)),(111,bx [.int .i64 0])] [(4:Int)≠0] ⟨y,trivial⟩ ?_
 obtain ⟨z,a⟩:=Zo a
 refine Wos [] [(0,ar 0 n0),(1,oi v1),(3,.val false [.pv (.fn 104)]),(10,oi (w64 (c-v1))),(11,pt 111),(12,oi (w64 (v1+(w64 ((w64 (Int.tdiv (w64 (c-v1)) 4))*1))))),(13,oi (w64 (v1+(w64 ((w64 (Int.tdiv (w64 (c-v1)) 4))*2)))))] [(0,.arr 2 (v0.map Za)),(111,bx [.int .i64 0])] [(4:Int)≠0] ⟨z,trivial⟩ ?_
 obtain ⟨a0,a⟩:=Zo a
 refine Wos [] [(0,ar 0 n0),(3,.val false [.pv (.fn 104)]),(10,oi (w64 (c-v1))),(11,pt 111),(12,oi (w64 (v1+(w64 ((w64 (Int.tdiv (w64 (c-v1)) 4))*1))))),(13,oi (w64 (v1+(w64 ((w64 (Int.tdiv (w64 (c-v1)) 4))*2))))),(14,oi (w64 (v1+(w64 ((w64 (Int.tdiv (w64 (c-v1)) 4))*3)))))] [(0,.arr 2 (v0.map Za)),(111,bx [.int .i64 0])] [(4:Int)≠0] ⟨a0,trivial⟩ ?_
 refine WA.join (fun x=>∃(f:List Zb) (j:Int) (g:Int),J x [(11,pt 111),(13,oi g)] [(0,.arr 2 (f.map Za)),(111,bx [.int .i64 j])]∧ZeO f j g=some r) ?_ ?_
 {
 rintro x ⟨f,j,g,w,a⟩
 refine Wj w ?_
 clear w
 refine Ws [] [(13,oi g),(55,oi j)] [(0,.arr 2 (f.map Za))] ?_
 refine WA.block ?_
 refine Ws [] [(13,oi g),(55,oi j),(57,ob (j == 0))] [(0,.arr 2 (f.map Za))] ?_
 refine WA.cond (b:=(j == 0)) rfl (fun p=>?_) (fun p=>?_)
 {
 have a:=Zk a p
 refine Ws [] [(8,oi g),(9,oi 1)] [(0,.arr 2 (f.map Za))] ?_
 refine WA.ret ?_
 obtain rfl:=zj_ a
 exact Zq (.tup [(false,[.pv (.int .i64 g)]),(false,[.pv (.int .i64 1)])]) [.arr 2 (f.map Za)] kr kr kr kr nd rfl rfl }
 {
 have a:=Zj a p
 refine Ws [] [(13,oi g),(60,ob (j == 12))] [(0,.arr 2 (f.map Za))] ?_
 refine WA.cond (b:=(j == 12)) rfl (fun q=>?_) (fun q=>?_)
 {
 have a:=Zk a q
 refine Ws [] [(8,oi g),(9,oi 2)] [(0,.arr 2 (f.map Za))] ?_
 refine WA.ret ?_
 obtain rfl:=zj_ a
 exact Zq (.tup [(false,[.pv (.int .i64 g)]),(false,[.pv (.int .i64 2)])]) [.arr 2 (f.map Za)] kr kr kr kr nd rfl rfl }
 {
 have a:=Zj a q
 refine Ws [] [(8,oi g),(9,oi 0)] [(0,.arr 2 (f.map Za))] ?_
 refine WA.ret ?_
 obtain rfl:=zj_ a
 exact Zq (.tup [(false,[.pv (.int .i64 g)]),(false,[.pv (.int .i64 0)])]) [.arr 2 (f.map Za)] kr kr kr kr nd rfl rfl } } }
 {
 refine Ws [] [(0,ar 0 n0),(3,.val false [.pv (.fn 104)]),(10,oi (w64 (c-v1))),(11,pt 111),(12,oi (w64 (v1+(w64 ((w64 (Int.tdiv (w64 (c-v1)) 4))*1))))),(13,oi (w64 (v1+(w64 ((w64 (Int.tdiv (w64 (c-v1)) 4))*2))))),(14,oi (w64 (v1+(w64 ((w64 (Int.tdiv (w64 (c-v1)) 4))*3))))),(34,ob (decide ((w64 (c-v1))≥8)))] [(0,.arr 2 (v0.map Za)),(111,bx [.int .i64 0])] ?_
 refine WA.cond (b:=(decide ((w64 (c-v1))≥8))) rfl (fun n=>?_) (fun n=>?_)
 {
 have a:=Zk a n
 refine WA.join (fun x=>∃(l:List Zb) (s:Int) (m:Nat) (t:Int) (u:Int) (v:Int),J x [(0,ar 0 m),(3,.val false [.pv (.fn 104)]),(11,pt 111),(12,oi t),(13,oi u),(14,oi v)] [(0,.arr 2 (l.map Za)),(111,bx [.int .i64 s])]∧m=(l:List _).length∧ZeN k l s t u v=some r) ?_ ?_
 {
 rintro x ⟨l,s,m,t,u,v,w,a5,a⟩
 refine Wj w ?_
 clear w
 obtain ⟨i,a4,a⟩:=Zh a
 obtain ⟨a9,a⟩:=Zo a
 refine Wo [(5,.call [0,111] (oi i.1) [.arr 2 (i.2.1.map Za),bx [.int .i64 i.2.2]] [])] [(11,pt 111),(13,oi i.1)] [(0,.arr 2 (i.2.1.map Za)),(111,bx [.int .i64 i.2.2])] [SM 178 [ar 0 m,oi t,oi u,oi v,pt 1,.val false [.pv (.fn 104)]] [.arr 2 (l.map Za),bx [.int .i64 s]] (oi i.1) [.arr 2 (i.2.1.map Za),bx [.int .i64 i.2.2]],([0,111]:List Nat).Nodup] ⟨(ZmX k _ _ _ _ _ _ a4 (n0:=m) zt),nd,trivial⟩ ?_
 exact ⟨i.2.1,i.2.2,i.1,jk,a⟩ }
 {
 refine Ws [] [(0,ar 0 n0),(3,.val false [.pv (.fn 104)]),(11,pt 111),(12,oi (w64 (v1+(w64 ((w64 (Int.tdiv (w64 (c-v1)) 4))*1))))),(13,oi (w64 (v1+(w64 ((w64 (Int.tdiv (w64 (c-v1)) 4))*2))))),(14,oi (w64 (v1+(w64 ((w64 (Int.tdiv (w64 (c-v1)) 4))*3))))),(36,ob (decide ((w64 (c-v1))≥50)))] [(0,.arr 2 (v0.map Za)),(111,bx [.int .i64 0])] ?_
 refine WA.cond (b:=(decide ((w64 (c-v1))≥50))) rfl (fun o=>?_) (fun o=>?_)
 {
 have a:=Zk a o
 obtain ⟨d,a1,a⟩:=Zh a
 obtain ⟨a6,a⟩:=Zo a
 refine Wos [(3,.call [0,111] (oi d.1) [.arr 2 (d.2.1.map Za),bx [.int .i64 d.2.2]] [])] [(0,ar 0 n0),(3,.val false [.pv (.fn 104)]),(11,pt 111),(12,oi d.1),(13,oi (w64 (v1+(w64 ((w64 (Int.tdiv (w64 (c-v1)) 4))*2))))),(14,oi (w64 (v1+(w64 ((w64 (Int.tdiv (w64 (c-v1)) 4))*3)))))] [(0,.arr 2 (d.2.1.map Za)),(111,bx [.int .i64 d.2.2])] [SM 177 [ar 0 n0,oi (w64 (v1+(w64 ((w64 (Int.tdiv (w64 (c-v1)) 4))*1)))),pt 1,.val false [.pv (.fn 104)]] [.arr 2 (v0.map Za),bx [.int .i64 0]] (oi d.1) [.arr 2 (d.2.1.map Za),bx [.int .i64 d.2.2]],([0,111]:List Nat).Nodup] ⟨(ZjW k _ _ _ _ a1 (n0:=n0) zt),nd,trivial⟩ ?_
 obtain ⟨e,a2,a⟩:=Zh a
 obtain ⟨a7,a⟩:=Zo a
 refine Wos [(3,.call [0,111] (oi e.1) [.arr 2 (e.2.1.map Za),bx [.int .i64 e.2.2]] [])] [(0,ar 0 n0),(3,.val false [.pv (.fn 104)]),(11,pt 111),(12,oi d.1),(13,oi e.1),(14,oi (w64 (v1+(w64 ((w64 (Int.tdiv (w64 (c-v1)) 4))*3)))))] [(0,.arr 2 (e.2.1.map Za)),(111,bx [.int .i64 e.2.2])] [SM 177 [ar 0 n0,oi (w64 (v1+(w64 ((w64 (Int.tdiv (w64 (c-v1)) 4))*2)))),pt 1,.val false [.pv (.fn 104)]] [.arr 2 (d.2.1.map Za),bx [.int .i64 d.2.2]] (oi e.1) [.arr 2 (e.2.1.map Za),bx [.int .i64 e.2.2]],([0,111]:List Nat).Nodup] ⟨(ZjW k _ _ _ _ a2 (n0:=n0) zt),nd,trivial⟩ ?_
 obtain ⟨h,a3,a⟩:=Zh a
 obtain ⟨a8,a⟩:=Zo a
 refine Wo [(3,.call [0,111] (oi h.1) [.arr 2 (h.2.1.map Za),bx [.int .i64 h.2.2]] [])] [(0,ar 0 n0),(3,.val false [.pv (.fn 104)]),(11,pt 111),(12,oi d.1),(13,oi e.1),(14,oi h.1)] [(0,.arr 2 (h.2.1.map Za)),(111,bx [.int .i64 h.2.2])] [SM 177 [ar 0 n0,oi (w64 (v1+(w64 ((w64 (Int.tdiv (w64 (c-v1)) 4))*3)))),pt 1,.val false [.pv (.fn 104)]] [.arr 2 (e.2.1.map Za),bx [.int .i64 e.2.2]] (oi h.1) [.arr 2 (h.2.1.map Za),bx [.int .i64 h.2.2]],([0,111]:List Nat).Nodup] ⟨(ZjW k _ _ _ _ a3 (n0:=n0) zt),nd,trivial⟩ ?_
 exact ⟨h.2.1,h.2.2,n0,d.1,e.1,h.1,jk,zt,a⟩ }
 {
 have a:=Zj a o
 refine WA.skip ?_
 exact ⟨v0,0,n0,(w64 (v1+(w64 ((w64 (Int.tdiv (w64 (c-v1)) 4))*1)))),(w64 (v1+(w64 ((w64 (Int.tdiv (w64 (c-v1)) 4))*2)))),(w64 (v1+(w64 ((w64 (Int.tdiv (w64 (c-v1)) 4))*3)))),jk,zt,a⟩ } } }
 {
 have a:=Zj a n
 refine WA.skip ?_
 exact ⟨v0,0,(w64 (v1+(w64 ((w64 (Int.tdiv (w64 (c-v1)) 4))*2)))),jk,a⟩ } }
def ZeM (e:(List Zb)→Int→Int→Option (List Zb)) (v1:Int) (b:List Zb) (a:Int) (f:Int×Int) (c:Int):Option (List Zb):=
  if (0:Int)≤(w64 (v1+c))∧(w64 (v1+c))<(b.length:Int) then (idxL b (w64 (v1+c))).bind fun d=>if (0:Int)≤a∧a<(b.length:Int) then (idxL b a).bind fun g=>if (0:Int)≤a∧a<(b.length:Int) then (idxL b a).bind fun h=>if (0:Int)≤(w64 (v1+c))∧(w64 (v1+c))<((b.set (Int.toNat a) d).length:Int) then (idxL (b.set (Int.toNat a) d) (w64 (v1+c))).bind fun i=>(e ((b.set (Int.toNat a) d).set (Int.toNat (w64 (v1+c))) g) f.2 (w64 (a+1))) else none else none else none else none
def Zhs (k:Nat) (e:(List Zb)→Int→Int→Option (List Zb)) (v1:Int) (g:Int) (d:Int) (b:List Zb) (f:Int) (c:Int):Option (List Zb):=
  if (4:Int)≠0 then (cond (decide (c≤(w64 ((w64 (v1+(w64 ((w64 (Int.tdiv (w64 (g-v1)) 4))*2))))+1)))) ((F161 k f).bind fun a=>((cond (decide ((w64 (ZA .and .u64 a.1 (IntKind.wrap .u64 (d-1))))≥(w64 (g-v1)))) ((ZeM e v1 b c a (w64 ((w64 (ZA .and .u64 a.1 (IntKind.wrap .u64 (d-1))))-(w64 (g-v1)))))) ((ZeM e v1 b c a (w64 (ZA .and .u64 a.1 (IntKind.wrap .u64 (d-1))))))))) (some b)) else none
def ZbM (k:Nat) (v1:Int) (e:Int) (a:Int):Nat→(List Zb)→Int→Int→Option (List Zb)
  | 0,_,_,_=>none
  | f+1,b,c,d=>Zhs k (ZbM k v1 e a f) v1 e a b c d
def F151 (k:Nat) (v0:List Zb) (v1:Int) (a:Int):Option (List Zb):=
  ((cond (decide ((w64 (a-v1))≥8)) ((F160 k (w64 (a-v1))).bind fun b=>(if (4:Int)≠0 then (ZbM k v1 a b k v0 (IntKind.wrap .u64 (w64 (a-v1))) (w64 ((w64 (v1+(w64 ((w64 (Int.tdiv (w64 (a-v1)) 4))*2))))-1))) else none)) (some v0)))
theorem Zp0 (k:Nat) (v0:List Zb) (v1:Int) (i:Int) (r:List Zb) (e:F151 k v0 v1 i=some r) {n0:Nat} (hn_n0:n0=v0.length):SM 151 [ar 0 n0,oi v1,oi i,.val false [.pv (.fn 104)]] [.arr 2 (v0.map Za)] (.tup []) [.arr 2 (r.map Za)]:=by
 refine Zz [0] Tryz.func151 rfl kr kr ?_
 show WA _ _ 67 _ _ _
 refine Ws [] [(0,ar 0 n0),(1,oi v1),(8,oi (w64 (i-v1)))] [(0,.arr 2 (v0.map Za))] ?_
 refine Ws [] [(0,ar 0 n0),(1,oi v1),(8,oi (w64 (i-v1))),(17,ob (decide ((w64 (i-v1))≥8)))] [(0,.arr 2 (v0.map Za))] ?_
 refine WA.cond (b:=(decide ((w64 (i-v1))≥8))) rfl (fun p=>?_) (fun p=>?_)
 {
 have e:=Zk e p
 refine Ws [(2,.obj 109)] [(0,ar 0 n0),(1,oi v1),(8,oi (w64 (i-v1))),(9,pt 109)] [(0,.arr 2 (v0.map Za)),(109,bx [.int .u64 (IntKind.wrap .u64 (w64 (i-v1)))])] ?_
 obtain ⟨f,a5,e⟩:=Zh e
 refine Wos [(1,.callR [] (one (.int .u64 f)))] [(0,ar 0 n0),(1,oi v1),(8,oi (w64 (i-v1))),(9,pt 109),(10,one (.int .u64 f))] [(0,.arr 2 (v0.map Za)),(109,bx [.int .u64 (IntKind.wrap .u64 (w64 (i-v1)))])] [SM 160 [oi (w64 (i-v1))] [] (one (.int .u64 f)) [],([]:List Nat).Nodup] ⟨(Zp6 k _ _ a5),nd,trivial⟩ ?_
 obtain ⟨a1,e⟩:=Zo e
 refine Wos [] [(0,ar 0 n0),(1,oi v1),(8,oi (w64 (i-v1))),(9,pt 109),(10,one (.int .u64 f)),(11,oi (w64 ((w64 (v1+(w64 ((w64 (Int.tdiv (w64 (i-v1)) 4))*2))))-1)))] [(0,.arr 2 (v0.map Za)),(109,bx [.int .u64 (IntKind.wrap .u64 (w64 (i-v1)))])] [(4:Int)≠0] ⟨a1,trivial⟩ ?_
 refine WA.block ?_
 refine WA.loop (fun m y=>∃(c:List Zb) (n:Int) (d:Nat) (a:Int),J y [(0,ar 0 d),(1,oi v1),(8,oi (w64 (i-v1))),(9,pt 109),(10,one (.int .u64 f)),(11,oi a)] [(0,.arr 2 (c.map Za)),(109,bx [.int .u64 n])]∧d=(c:List _).length∧ZbM k v1 i f m c n a=some r) k ⟨v0,(IntKind.wrap .u64 (w64 (i-v1))),n0,(w64 ((w64 (v1+(w64 ((w64 (Int.tdiv (w64 (i-v1)) 4))*2))))-1)),jk,zt,e⟩ ?_
 clear e
 rintro m2 y ⟨c,n,d,a,x,b2,e⟩
 refine Wj x ?_
 clear x
 cases m2 with
 | zero=>cases e
 | succ m2=>
  obtain ⟨w,t⟩:∃g,g=ZbM k v1 i f m2:=⟨_,rfl⟩
  have e:Zhs k w v1 i f c n a=some r:=by first | (rw [t];exact e) | exact e
  refine WA.seq ?_
  obtain ⟨a2,e⟩:=Zo e
  refine Wos [] [(0,ar 0 d),(1,oi v1),(8,oi (w64 (i-v1))),(9,pt 109),(10,one (.int .u64 f)),(11,oi a),(35,ob (decide (a≤(w64 ((w64 (v1+(w64 ((w64 (Int.tdiv (w64 (i-v1)) 4))*2))))+1)))))] [(0,.arr 2 (c.map Za)),(109,bx [.int .u64 n])] [(4:Int)≠0] ⟨a2,trivial⟩ ?_
  refine WA.cond (b:=(decide (a≤(w64 ((w64 (v1+(w64 ((w64 (Int.tdiv (w64 (i-v1)) 4))*2))))+1))))) rfl (fun q=>?_) (fun q=>?_)
  {
 have e:=Zk e q
 refine WA.skip ?_
 refine WA.seq ?_
 refine WA.block ?_
 obtain ⟨h,a6,e⟩:=Zh e
 refine Wos [(0,.call [109] (one (.int .u64 h.1)) [bx [.int .u64 h.2]] [])] [(0,ar 0 d),(1,oi v1),(8,oi (w64 (i-v1))),(9,pt 109),(10,one (.int .u64 f)),(11,oi a),(12,oi (w64 (ZA .and .u64 h.1 (IntKind.wrap .u64 (f-1)))))] [(0,.arr 2 (c.map Za)),(109,bx [.int .u64 h.2])] [SM 161 [pt 0] [bx [.int .u64 n]] (one (.int .u64 h.1)) [bx [.int .u64 h.2]],([109]:List Nat).Nodup] ⟨(Zp7 k _ _ a6),nd,trivial⟩ ?_
 refine WA.join (fun y=>∃(j:Int),J y [(0,ar 0 d),(1,oi v1),(8,oi (w64 (i-v1))),(9,pt 109),(10,one (.int .u64 f)),(11,oi a),(12,oi j)] [(0,.arr 2 (c.map Za)),(109,bx [.int .u64 h.2])]∧ZeM w v1 c a h j=some r) ?_ ?_
 {
 rintro y ⟨j,x,e⟩
 refine Wj x ?_
 clear x
 obtain ⟨u,e⟩:=Zo e
 obtain ⟨l,a7,e⟩:=Zh e
 obtain ⟨v,e⟩:=Zo e
 obtain ⟨o,a8,e⟩:=Zh e
 obtain ⟨a3,e⟩:=Zo e
 obtain ⟨z,a9,e⟩:=Zh e
 obtain ⟨a4,e⟩:=Zo e
 obtain ⟨a0,b0,e⟩:=Zh e
 have z0:(w64 (v1+j))<((d:Nat):Int):=(by have h_:=u.2;(try simp only [zl,Zi] at h_ ⊢);omega)
 have z2:a<((d:Nat):Int):=(by have h_:=v.2;(try simp only [zl,Zi] at h_ ⊢);omega)
 refine Wdm (((((c.map Za).set (Int.toNat a) (Za l)).set (Int.toNat (w64 (v1+j))) (Za o)),((c.map Za).set (Int.toNat a) (Za l))):(List (List PV))×(List (List PV))) ((((c.set (Int.toNat a) l).set (Int.toNat (w64 (v1+j))) o).map Za),((c.set (Int.toNat a) l).map Za)) (fun m_=>([(0,ar 0 d),(1,oi v1),(8,oi (w64 (i-v1))),(9,pt 109),(10,one (.int .u64 f)),(11,oi a)],[(0,.arr 2 m_.1),(109,bx [.int .u64 h.2])],[d=(c.map Za).length,(0:Int)≤(w64 (v1+j)),(w64 (v1+j))<((d:Nat):Int),d=(c.map Za).length,(c.map Za)[Int.toNat (w64 (v1+j))]?=some (Za l),d=(c.map Za).length,(0:Int)≤a,a<((d:Nat):Int),d=(c.map Za).length,(c.map Za)[Int.toNat a]?=some (Za o),d=(c.map Za).length,(0:Int)≤a,a<((d:Nat):Int),d=(c.map Za).length,(c.map Za)[Int.toNat a]?=some (Za z),d=m_.2.length,(0:Int)≤(w64 (v1+j)),(w64 (v1+j))<((d:Nat):Int),d=m_.2.length,m_.2[Int.toNat (w64 (v1+j))]?=some (Za a0)])) (ZH zm zm) [(11,.cells (Za l)),(15,.cells (Za o)),(17,.cells (Za z)),(19,.cells (Za a0))] ⟨zt,u.1,z0,zt,(Zs (Zt _ a7)),zt,v.1,z2,zt,(Zs (Zt _ a8)),zt,a3.1,z2,zt,(Zs (Zt _ a9)),zt,a4.1,z0,zt,(Zs (Zt _ b0)),trivial⟩ ?_
 refine Wr [] [(0,ar 0 d),(1,oi v1),(8,oi (w64 (i-v1))),(9,pt 109),(10,one (.int .u64 f)),(11,oi (w64 (a+1)))] [(0,.arr 2 (((c.set (Int.toNat a) l).set (Int.toNat (w64 (v1+j))) o).map Za)),(109,bx [.int .u64 h.2])] ?_
 exact ⟨m2,zl_ _,((c.set (Int.toNat a) l).set (Int.toNat (w64 (v1+j))) o),h.2,d,(w64 (a+1)),jk,zt,by rw [t] at e;exact e⟩ }
 {
 refine Ws [] [(0,ar 0 d),(1,oi v1),(8,oi (w64 (i-v1))),(9,pt 109),(10,one (.int .u64 f)),(11,oi a),(12,oi (w64 (ZA .and .u64 h.1 (IntKind.wrap .u64 (f-1))))),(45,ob (decide ((w64 (ZA .and .u64 h.1 (IntKind.wrap .u64 (f-1))))≥(w64 (i-v1)))))] [(0,.arr 2 (c.map Za)),(109,bx [.int .u64 h.2])] ?_
 refine WA.cond (b:=(decide ((w64 (ZA .and .u64 h.1 (IntKind.wrap .u64 (f-1))))≥(w64 (i-v1))))) rfl (fun s=>?_) (fun s=>?_)
 {
 have e:=Zk e s
 refine Wr [] [(0,ar 0 d),(1,oi v1),(8,oi (w64 (i-v1))),(9,pt 109),(10,one (.int .u64 f)),(11,oi a),(12,oi (w64 ((w64 (ZA .and .u64 h.1 (IntKind.wrap .u64 (f-1))))-(w64 (i-v1)))))] [(0,.arr 2 (c.map Za)),(109,bx [.int .u64 h.2])] ?_
 exact ⟨(w64 ((w64 (ZA .and .u64 h.1 (IntKind.wrap .u64 (f-1))))-(w64 (i-v1)))),jk,e⟩ }
 {
 have e:=Zj e s
 refine WA.skip ?_
 exact ⟨(w64 (ZA .and .u64 h.1 (IntKind.wrap .u64 (f-1)))),jk,e⟩ } } }
  {
 have e:=Zj e q
 refine WA.exit ?_
 obtain rfl:=zj_ e
 exact ZcV (.tup []) [.arr 2 (c.map Za)] kr kr kr kr nd rfl rfl } }
 {
 have e:=Zj e p
 refine WA.skip ?_
 obtain rfl:=zj_ e
 exact ZcV (.tup []) [.arr 2 (v0.map Za)] kr kr kr kr nd rfl rfl }
def ZdD (k:Nat) (f:(List Zb)→Int→Option (List Zb)) (v1:Int) (a:List Zb) (b:Int):Option (List Zb):=
  (cond (decide (b≥0)) ((if (0:Int)≤(w64 (v1+b))∧(w64 (v1+b))<(a.length:Int) then (idxL a (w64 (v1+b))).bind fun c=>if (0:Int)≤v1∧v1<(a.length:Int) then (idxL a v1).bind fun d=>if (0:Int)≤v1∧v1<(a.length:Int) then (idxL a v1).bind fun g=>if (0:Int)≤(w64 (v1+b))∧(w64 (v1+b))<((a.set (Int.toNat v1) c).length:Int) then (idxL (a.set (Int.toNat v1) c) (w64 (v1+b))).bind fun h=>(F176 k ((a.set (Int.toNat v1) c).set (Int.toNat (w64 (v1+b))) d) 0 b v1).bind fun e=>if e.length=((a.set (Int.toNat v1) c).set (Int.toNat (w64 (v1+b))) d).length then (f e (w64 (b-1))) else none else none else none else none else none)) (some a))
def ZaN (k:Nat) (v1:Int):Nat→(List Zb)→Int→Option (List Zb)
  | 0,_,_=>none
  | c+1,a,b=>ZdD k (ZaN k v1 c) v1 a b
def ZdC (k:Nat) (d:(List Zb)→Int→Option (List Zb)) (v1:Int) (e:Int) (a:List Zb) (b:Int):Option (List Zb):=
  (cond (decide (b≥0)) ((F176 k a b (w64 (e-v1)) v1).bind fun c=>if c.length=a.length then (d c (w64 (b-1))) else none) (((ZaN k v1 k a (w64 ((w64 (e-v1))-1))))))
def ZbL (k:Nat) (v1:Int) (c:Int):Nat→(List Zb)→Int→Option (List Zb)
  | 0,_,_=>none
  | d+1,a,b=>ZdC k (ZbL k v1 c d) v1 c a b
def F150 (k:Nat) (v0:List Zb) (v1:Int) (a:Int):Option (List Zb):=
  (((if (2:Int)≠0 then (ZbL k v1 a k v0 (w64 (Int.tdiv (w64 ((w64 (a-v1))-1)) 2))) else none)))
theorem ZpZ (k:Nat) (v0:List Zb) (v1:Int) (j:Int) (r:List Zb) (a:F150 k v0 v1 j=some r) {n0:Nat} (hn_n0:n0=v0.length):SM 150 [ar 0 n0,oi v1,oi j,.val false [.pv (.fn 104)]] [.arr 2 (v0.map Za)] (.tup []) [.arr 2 (r.map Za)]:=by
 refine Zz [0] Tryz.func150 rfl kr kr ?_
 show WA _ _ 60 _ _ _
 refine Ws [] [(0,ar 0 n0),(1,oi v1),(2,oi j),(3,.val false [.pv (.fn 104)]),(8,oi v1)] [(0,.arr 2 (v0.map Za))] ?_
 refine Ws [] [(0,ar 0 n0),(1,oi v1),(2,oi j),(3,.val false [.pv (.fn 104)]),(8,oi v1),(9,oi 0)] [(0,.arr 2 (v0.map Za))] ?_
 refine Ws [] [(0,ar 0 n0),(3,.val false [.pv (.fn 104)]),(8,oi v1),(9,oi 0),(10,oi (w64 (j-v1)))] [(0,.arr 2 (v0.map Za))] ?_
 refine WA.seq ?_
 obtain ⟨a1,a⟩:=Zo a
 refine Wos [] [(0,ar 0 n0),(3,.val false [.pv (.fn 104)]),(8,oi v1),(9,oi 0),(10,oi (w64 (j-v1))),(11,oi (w64 (Int.tdiv (w64 ((w64 (j-v1))-1)) 2)))] [(0,.arr 2 (v0.map Za))] [(2:Int)≠0] ⟨a1,trivial⟩ ?_
 refine WA.block ?_
 refine WA.loop (fun m y=>∃(i:List Zb) (f:Nat) (h:Int),J y [(0,ar 0 f),(3,.val false [.pv (.fn 104)]),(8,oi v1),(9,oi 0),(10,oi (w64 (j-v1))),(11,oi h)] [(0,.arr 2 (i.map Za))]∧f=(i:List _).length∧ZbL k v1 j m i h=some r) k ⟨v0,n0,(w64 (Int.tdiv (w64 ((w64 (j-v1))-1)) 2)),jk,zt,a⟩ ?_
 clear a
 rintro m0 y ⟨i,f,h,x,b3,a⟩
 refine Wj x ?_
 clear x
 cases m0 with
 | zero=>cases a
 | succ m0=>
  obtain ⟨b1,t⟩:∃g,g=ZbL k v1 j m0:=⟨_,rfl⟩
  have a:ZdC k b1 v1 j i h=some r:=by first | (rw [t];exact a) | exact a
  refine WA.seq ?_
  refine Ws [] [(0,ar 0 f),(3,.val false [.pv (.fn 104)]),(8,oi v1),(9,oi 0),(10,oi (w64 (j-v1))),(11,oi h),(21,ob (decide (h≥0)))] [(0,.arr 2 (i.map Za))] ?_
  refine WA.cond (b:=(decide (h≥0))) rfl (fun q=>?_) (fun q=>?_)
  {
 have a:=Zk a q
 refine WA.skip ?_
 refine WA.seq ?_
 refine WA.block ?_
 obtain ⟨n,a4,a⟩:=Zh a
 obtain ⟨b5,a⟩:=Zo a
 refine Wo [(5,.call [0] (.tup []) [.arr 2 (n.map Za)] [])] [(0,ar 0 f),(3,.val false [.pv (.fn 104)]),(8,oi v1),(9,oi 0),(10,oi (w64 (j-v1))),(11,oi h)] [(0,.arr 2 (n.map Za))] [SM 176 [ar 0 f,oi h,oi (w64 (j-v1)),oi v1,.val false [.pv (.fn 104)]] [.arr 2 (i.map Za)] (.tup []) [.arr 2 (n.map Za)],([0]:List Nat).Nodup] ⟨(ZmW k _ _ _ _ _ a4 (n0:=f) zt),nd,trivial⟩ ?_
 refine Wr [] [(0,ar 0 f),(3,.val false [.pv (.fn 104)]),(8,oi v1),(9,oi 0),(10,oi (w64 (j-v1))),(11,oi (w64 (h-1)))] [(0,.arr 2 (n.map Za))] ?_
 exact ⟨m0,zl_ _,n,f,(w64 (h-1)),jk,zt,by rw [t] at a;exact a⟩ }
  {
 have a:=Zj a q
 refine WA.exit ?_
 refine Ws [] [(0,ar 0 f),(3,.val false [.pv (.fn 104)]),(8,oi v1),(9,oi 0),(12,oi (w64 ((w64 (j-v1))-1)))] [(0,.arr 2 (i.map Za))] ?_
 refine WA.block ?_
 refine WA.loop (fun m y=>∃(e:List Zb) (c:Nat) (d:Int),J y [(0,ar 0 c),(3,.val false [.pv (.fn 104)]),(8,oi v1),(9,oi 0),(12,oi d)] [(0,.arr 2 (e.map Za))]∧c=(e:List _).length∧ZaN k v1 m e d=some r) k ⟨i,f,(w64 ((w64 (j-v1))-1)),jk,zt,a⟩ ?_
 clear a
 rintro m1 y ⟨e,c,d,x,b4,a⟩
 refine Wj x ?_
 clear x
 cases m1 with
 | zero=>cases a
 | succ m1=>
  obtain ⟨b2,u⟩:∃g,g=ZaN k v1 m1:=⟨_,rfl⟩
  have a:ZdD k b2 v1 e d=some r:=by first | (rw [u];exact a) | exact a
  refine WA.seq ?_
  refine Ws [] [(0,ar 0 c),(3,.val false [.pv (.fn 104)]),(8,oi v1),(9,oi 0),(12,oi d),(33,ob (decide (d≥0)))] [(0,.arr 2 (e.map Za))] ?_
  refine WA.cond (b:=(decide (d≥0))) rfl (fun s=>?_) (fun s=>?_)
  {
 have a:=Zk a s
 refine WA.skip ?_
 refine WA.seq ?_
 refine WA.block ?_
 refine WA.seq ?_
 obtain ⟨v,a⟩:=Zo a
 obtain ⟨l,a5,a⟩:=Zh a
 obtain ⟨w,a⟩:=Zo a
 obtain ⟨o,a6,a⟩:=Zh a
 obtain ⟨a2,a⟩:=Zo a
 obtain ⟨z,a7,a⟩:=Zh a
 obtain ⟨a3,a⟩:=Zo a
 obtain ⟨a0,a8,a⟩:=Zh a
 have z0:(w64 (v1+d))<((c:Nat):Int):=(by have h_:=v.2;(try simp only [zl,Zi] at h_ ⊢);omega)
 have z2:v1<((c:Nat):Int):=(by have h_:=w.2;(try simp only [zl,Zi] at h_ ⊢);omega)
 refine Wdm (((((e.map Za).set (Int.toNat v1) (Za l)).set (Int.toNat (w64 (v1+d))) (Za o)),((e.map Za).set (Int.toNat v1) (Za l))):(List (List PV))×(List (List PV))) ((((e.set (Int.toNat v1) l).set (Int.toNat (w64 (v1+d))) o).map Za),((e.set (Int.toNat v1) l).map Za)) (fun m_=>([(0,ar 0 c),(3,.val false [.pv (.fn 104)]),(8,oi v1),(9,oi 0),(12,oi d)],[(0,.arr 2 m_.1)],[c=(e.map Za).length,(0:Int)≤(w64 (v1+d)),(w64 (v1+d))<((c:Nat):Int),c=(e.map Za).length,(e.map Za)[Int.toNat (w64 (v1+d))]?=some (Za l),c=(e.map Za).length,(0:Int)≤v1,v1<((c:Nat):Int),c=(e.map Za).length,(e.map Za)[Int.toNat v1]?=some (Za o),c=(e.map Za).length,(0:Int)≤v1,v1<((c:Nat):Int),c=(e.map Za).length,(e.map Za)[Int.toNat v1]?=some (Za z),c=m_.2.length,(0:Int)≤(w64 (v1+d)),(w64 (v1+d))<((c:Nat):Int),c=m_.2.length,m_.2[Int.toNat (w64 (v1+d))]?=some (Za a0)])) (ZH zm zm) [(11,.cells (Za l)),(15,.cells (Za o)),(17,.cells (Za z)),(19,.cells (Za a0))] ⟨zt,v.1,z0,zt,(Zs (Zt _ a5)),zt,w.1,z2,zt,(Zs (Zt _ a6)),zt,a2.1,z2,zt,(Zs (Zt _ a7)),zt,a3.1,z0,zt,(Zs (Zt _ a8)),trivial⟩ ?_
 obtain ⟨p,a9,a⟩:=Zh a
 obtain ⟨b6,a⟩:=Zo a
 refine Wo [(5,.call [0] (.tup []) [.arr 2 (p.map Za)] [])] [(0,ar 0 c),(3,.val false [.pv (.fn 104)]),(8,oi v1),(9,oi 0),(12,oi d)] [(0,.arr 2 (p.map Za))] [SM 176 [ar 0 c,oi 0,oi d,oi v1,.val false [.pv (.fn 104)]] [.arr 2 (((e.set (Int.toNat v1) l).set (Int.toNat (w64 (v1+d))) o).map Za)] (.tup []) [.arr 2 (p.map Za)],([0]:List Nat).Nodup] ⟨(ZmW k _ _ _ _ _ a9 (n0:=c) zt),nd,trivial⟩ ?_
 refine Wr [] [(0,ar 0 c),(3,.val false [.pv (.fn 104)]),(8,oi v1),(9,oi 0),(12,oi (w64 (d-1)))] [(0,.arr 2 (p.map Za))] ?_
 exact ⟨m1,zl_ _,p,c,(w64 (d-1)),jk,zt,by rw [u] at a;exact a⟩ }
  {
 have a:=Zj a s
 refine WA.exit ?_
 obtain rfl:=zj_ a
 exact ZcV (.tup []) [.arr 2 (e.map Za)] kr kr kr kr nd rfl rfl } }
def ZcL (self8:(List Zb)→Int→Option (List Zb)) (d:(List Zb)→Int→Option (List Zb)) (e:Int) (b:List Zb) (a:Int) (f:Bool):Option (List Zb):=
  cond f ((if (0:Int)≤(w64 (a-1))∧(w64 (a-1))<(b.length:Int) then (idxL b (w64 (a-1))).bind fun c=>if (0:Int)≤a∧a<(b.length:Int) then (idxL b a).bind fun g=>if (0:Int)≤a∧a<(b.length:Int) then (idxL b a).bind fun h=>if (0:Int)≤(w64 (a-1))∧(w64 (a-1))<((b.set (Int.toNat a) c).length:Int) then (idxL (b.set (Int.toNat a) c) (w64 (a-1))).bind fun i=>(d ((b.set (Int.toNat a) c).set (Int.toNat (w64 (a-1))) g) (w64 (a-1))) else none else none else none else none)) ((self8 b (w64 (e+1))))
def ZfK (k:Nat) (self8:(List Zb)→Int→Option (List Zb)) (c:(List Zb)→Int→Option (List Zb)) (v1:Int) (d:Int) (b:List Zb) (a:Int):Option (List Zb):=
  cond (decide (a > v1)) (if (0:Int)≤a∧a<(b.length:Int) then (idxL b a).bind fun e=>if (0:Int)≤(w64 (a-1))∧(w64 (a-1))<(b.length:Int) then (idxL b (w64 (a-1))).bind fun f=>(F104 k e f).bind fun g=>(ZcL self8 c d b a (decide (g<0))) else none else none) ((ZcL self8 c d b a false))
def Zbu (k:Nat) (self8:(List Zb)→Int→Option (List Zb)) (v1:Int) (a:Int):Nat→(List Zb)→Int→Option (List Zb)
  | 0,_,_=>none
  | d+1,b,c=>ZfK k self8 (Zbu k self8 v1 a d) v1 a b c
def ZdB (k:Nat) (self8:(List Zb)→Int→Option (List Zb)) (v1:Int) (c:Int) (b:List Zb) (a:Int):Option (List Zb):=
  (cond (decide (a<c)) (((Zbu k self8 v1 a k b a))) (some b))
def Zch (k:Nat) (v1:Int) (c:Int):Nat→(List Zb)→Int→Option (List Zb)
  | 0,_,_=>none
  | d+1,a,b=>ZdB k (Zch k v1 c d) v1 c a b
def F149 (k:Nat) (v0:List Zb) (v1:Int) (a:Int):Option (List Zb):=
  (Zch k v1 a k v0 (w64 (v1+1)))
theorem ZpY (k:Nat) (v0:List Zb) (v1:Int) (i:Int) (r:List Zb) (e:F149 k v0 v1 i=some r) {n0:Nat} (hn_n0:n0=v0.length):SM 149 [ar 0 n0,oi v1,oi i,.val false [.pv (.fn 104)]] [.arr 2 (v0.map Za)] (.tup []) [.arr 2 (r.map Za)]:=by
 refine Zz [0] Tryz.func149 rfl kr kr ?_
 show WA _ _ 53 _ _ _
 refine Ws [] [(0,ar 0 n0),(1,oi v1),(2,oi i),(3,.val false [.pv (.fn 104)]),(8,oi (w64 (v1+1)))] [(0,.arr 2 (v0.map Za))] ?_
 refine WA.block ?_
 refine WA.loop (fun m w=>∃(h:List Zb) (v215:Nat) (f:Int),J w [(0,ar 0 v215),(1,oi v1),(2,oi i),(3,.val false [.pv (.fn 104)]),(8,oi f)] [(0,.arr 2 (h.map Za))]∧v215=(h:List _).length∧Zch k v1 i m h f=some r) k ⟨v0,n0,(w64 (v1+1)),jk,zt,e⟩ ?_
 clear e
 rintro m8 w ⟨h,v215,f,u,b6,e⟩
 refine Wj u ?_
 clear u
 cases m8 with
 | zero=>cases e
 | succ m8=>
  obtain ⟨self8,v⟩:∃g,g=Zch k v1 i m8:=⟨_,rfl⟩
  have e:ZdB k self8 v1 i h f=some r:=by first | (rw [v];exact e) | exact e
  refine WA.seq ?_
  refine Ws [] [(0,ar 0 v215),(1,oi v1),(2,oi i),(3,.val false [.pv (.fn 104)]),(8,oi f),(14,ob (decide (f<i)))] [(0,.arr 2 (h.map Za))] ?_
  refine WA.cond (b:=(decide (f<i))) rfl (fun p=>?_) (fun p=>?_)
  {
 have e:=Zk e p
 refine WA.skip ?_
 refine WA.seq ?_
 refine WA.block ?_
 refine Ws [] [(0,ar 0 v215),(1,oi v1),(2,oi i),(3,.val false [.pv (.fn 104)]),(8,oi f),(9,oi f)] [(0,.arr 2 (h.map Za))] ?_
 refine WA.block ?_
 refine WA.loop (fun m w=>∃(c:List Zb) (d:Nat) (a:Int),J w [(0,ar 0 d),(1,oi v1),(2,oi i),(3,.val false [.pv (.fn 104)]),(8,oi f),(9,oi a)] [(0,.arr 2 (c.map Za))]∧d=(c:List _).length∧Zbu k self8 v1 f m c a=some r) k ⟨h,v215,f,jk,zt,e⟩ ?_
 clear e
 rintro m11 w ⟨c,d,a,u,b7,e⟩
 refine Wj u ?_
 clear u
 cases m11 with
 | zero=>cases e
 | succ m11=>
  obtain ⟨x,o⟩:∃g,g=Zbu k self8 v1 f m11:=⟨_,rfl⟩
  have e:ZfK k self8 x v1 f c a=some r:=by first | (rw [o];exact e) | exact e
  refine WA.seq ?_
  refine WA.join (fun w=>∃(s:Bool),J w [(0,ar 0 d),(1,oi v1),(2,oi i),(3,.val false [.pv (.fn 104)]),(8,oi f),(9,oi a),(34,ob s)] [(0,.arr 2 (c.map Za))]∧ZcL self8 x f c a s=some r) ?_ ?_
  {
 rintro w ⟨s,u,e⟩
 refine Wj u ?_
 clear u
 refine WA.cond (b:=s) rfl (fun q=>?_) (fun q=>?_)
 {
 have e:=Zk e q
 refine WA.skip ?_
 refine WA.seq ?_
 refine WA.block ?_
 obtain ⟨a2,e⟩:=Zo e
 obtain ⟨j,b1,e⟩:=Zh e
 obtain ⟨a3,e⟩:=Zo e
 obtain ⟨n,b2,e⟩:=Zh e
 obtain ⟨a6,e⟩:=Zo e
 obtain ⟨a4,b3,e⟩:=Zh e
 obtain ⟨a7,e⟩:=Zo e
 obtain ⟨a5,b4,e⟩:=Zh e
 have z0:(w64 (a-1))<((d:Nat):Int):=(by have h_:=a2.2;(try simp only [zl,Zi] at h_ ⊢);omega)
 have z2:a<((d:Nat):Int):=(by have h_:=a3.2;(try simp only [zl,Zi] at h_ ⊢);omega)
 refine Wdm (((((c.map Za).set (Int.toNat a) (Za j)).set (Int.toNat (w64 (a-1))) (Za n)),((c.map Za).set (Int.toNat a) (Za j))):(List (List PV))×(List (List PV))) ((((c.set (Int.toNat a) j).set (Int.toNat (w64 (a-1))) n).map Za),((c.set (Int.toNat a) j).map Za)) (fun m_=>([(0,ar 0 d),(1,oi v1),(2,oi i),(3,.val false [.pv (.fn 104)]),(8,oi f),(9,oi a)],[(0,.arr 2 m_.1)],[d=(c.map Za).length,(0:Int)≤(w64 (a-1)),(w64 (a-1))<((d:Nat):Int),d=(c.map Za).length,(c.map Za)[Int.toNat (w64 (a-1))]?=some (Za j),d=(c.map Za).length,(0:Int)≤a,a<((d:Nat):Int),d=(c.map Za).length,(c.map Za)[Int.toNat a]?=some (Za n),d=(c.map Za).length,(0:Int)≤a,a<((d:Nat):Int),d=(c.map Za).length,(c.map Za)[Int.toNat a]?=some (Za a4),d=m_.2.length,(0:Int)≤(w64 (a-1)),(w64 (a-1))<((d:Nat):Int),d=m_.2.length,m_.2[Int.toNat (w64 (a-1))]?=some (Za a5)])) (ZH zm zm) [(9,.cells (Za j)),(13,.cells (Za n)),(15,.cells (Za a4)),(17,.cells (Za a5))] ⟨zt,a2.1,z0,zt,(Zs (Zt _ b1)),zt,a3.1,z2,zt,(Zs (Zt _ b2)),zt,a6.1,z2,zt,(Zs (Zt _ b3)),zt,a7.1,z0,zt,(Zs (Zt _ b4)),trivial⟩ ?_
 refine Wr [] [(0,ar 0 d),(1,oi v1),(2,oi i),(3,.val false [.pv (.fn 104)]),(8,oi f),(9,oi (w64 (a-1)))] [(0,.arr 2 (((c.set (Int.toNat a) j).set (Int.toNat (w64 (a-1))) n).map Za))] ?_
 exact ⟨m11,zl_ _,((c.set (Int.toNat a) j).set (Int.toNat (w64 (a-1))) n),d,(w64 (a-1)),jk,zt,by rw [o] at e;exact e⟩ }
 {
 have e:=Zj e q
 refine WA.exit ?_
 refine Wr [] [(0,ar 0 d),(1,oi v1),(2,oi i),(3,.val false [.pv (.fn 104)]),(8,oi (w64 (f+1)))] [(0,.arr 2 (c.map Za))] ?_
 exact ⟨m8,zl_ _,c,d,(w64 (f+1)),jk,zt,by rw [v] at e;exact e⟩ } }
  {
 rcases zo_ (decide (a > v1)) with l | l
 {
 have e:=Zk e l
 obtain ⟨a0,e⟩:=Zo e
 obtain ⟨y,a8,e⟩:=Zh e
 obtain ⟨a1,e⟩:=Zo e
 obtain ⟨z,a9,e⟩:=Zh e
 obtain ⟨t,b0,e⟩:=Zh e
 refine Wd [(3,.bool true),(8,.cells (Za y)),(13,.cells (Za z)),(14,.callR [] (oi t))] [(0,ar 0 d),(1,oi v1),(2,oi i),(3,.val false [.pv (.fn 104)]),(8,oi f),(9,oi a),(34,ob (decide (t<0)))] [(0,.arr 2 (c.map Za))] [(decide (a > v1))=true,d=(c.map Za).length,(0:Int)≤a,a<((d:Nat):Int),d=(c.map Za).length,(c.map Za)[Int.toNat a]?=some (Za y),d=(c.map Za).length,(0:Int)≤(w64 (a-1)),(w64 (a-1))<((d:Nat):Int),d=(c.map Za).length,(c.map Za)[Int.toNat (w64 (a-1))]?=some (Za z),SM 104 [tv (Za y),tv (Za z)] [] (oi t) [],([]:List Nat).Nodup] ⟨l,zt,a0.1,(by have h_:=a0.2;(try simp only [zl,Zi] at h_ ⊢);omega),zt,(Zs (Zt _ a8)),zt,a1.1,(by have h_:=a1.2;(try simp only [zl,Zi] at h_ ⊢);omega),zt,(Zs (Zt _ a9)),(Zas k _ _ _ b0),nd,trivial⟩ ?_
 exact ⟨(decide (t<0)),jk,e⟩ }
 {
 have e:=Zj e l
 refine Wd [(3,.bool false),(14,.callR [] (.tup []))] [(0,ar 0 d),(1,oi v1),(2,oi i),(3,.val false [.pv (.fn 104)]),(8,oi f),(9,oi a),(34,ob false)] [(0,.arr 2 (c.map Za))] [(decide (a > v1))=false] ⟨l,trivial⟩ ?_
 exact ⟨false,jk,e⟩ } } }
  {
 have e:=Zj e p
 refine WA.exit ?_
 obtain rfl:=zj_ e
 exact ZcV (.tup []) [.arr 2 (h.map Za)] kr kr kr kr nd rfl rfl }
def ZcI (R121:(List Zb)→Int→Int→Int→Option (List Zb)) (k:Nat) (d:(List Zb)→Int→Int→Int→Bool→Bool→Option (List Zb)) (c:Int) (b:Int) (l:Bool) (m:Bool) (e:Int) (h:Int) (f:List Zb) (n:Bool):Option (List Zb):=
  cond n ((F155 k f c b h).bind fun g=>if g.2.length=f.length then ((d g.2 g.1 b e l m)) else none) ((F156 k f c b h).bind fun a=>if a.2.2.length=f.length then (((if (8:Int)≠0 then ((cond (decide ((w64 (a.1-c))<(w64 (b-a.1)))) ((R121 a.2.2 c a.1 e).bind fun i=>if i.length=a.2.2.length then (d i (w64 (a.1+1)) b e (decide ((w64 (a.1-c))≥(w64 (Int.tdiv (w64 (b-c)) 8)))) a.2.1) else none) ((R121 a.2.2 (w64 (a.1+1)) b e).bind fun j=>if j.length=a.2.2.length then (d j c a.1 e (decide ((w64 (b-a.1))≥(w64 (Int.tdiv (w64 (b-c)) 8)))) a.2.1) else none))) else none))) else none)
def ZdX (R121:(List Zb)→Int→Int→Int→Option (List Zb)) (k:Nat) (d:(List Zb)→Int→Int→Int→Bool→Bool→Option (List Zb)) (a:Int) (e:Int) (f:Bool) (g:Bool) (h:Int) (c:Int) (b:List Zb):Option (List Zb):=
  cond (decide (a > 0)) (if (0:Int)≤(w64 (a-1))∧(w64 (a-1))<(b.length:Int) then (idxL b (w64 (a-1))).bind fun i=>if (0:Int)≤c∧c<(b.length:Int) then (idxL b c).bind fun j=>(F104 k i j).bind fun l=>(ZcI R121 k d a e f g h c b (!(decide (l<0)))) else none else none) ((ZcI R121 k d a e f g h c b false))
def ZcH (R121:(List Zb)→Int→Int→Int→Option (List Zb)) (k:Nat) (b:(List Zb)→Int→Int→Int→Bool→Bool→Option (List Zb)) (c:Int) (d:Int) (f:Bool) (g:Bool) (h:Int) (e:List Zb) (i:Int) (j:Bool):Option (List Zb):=
  cond j ((F154 k e c d).bind fun a=>if a.2.length=e.length then (cond a.1 (some a.2) ((ZdX R121 k b c d f g h i a.2))) else none) ((ZdX R121 k b c d f g h i e))
def ZdW (R121:(List Zb)→Int→Int→Int→Option (List Zb)) (k:Nat) (a:(List Zb)→Int→Int→Int→Bool→Bool→Option (List Zb)) (d:Int) (e:Int) (b:Bool) (c:Bool) (f:Int) (g:List Zb) (h:Int) (i:Int):Option (List Zb):=
  cond b (cond c ((ZcH R121 k a d e b c f g h (i == 1))) ((ZcH R121 k a d e b c f g h false))) ((ZcH R121 k a d e b c f g h false))
def ZdV (R121:(List Zb)→Int→Int→Int→Option (List Zb)) (k:Nat) (d:(List Zb)→Int→Int→Int→Bool→Bool→Option (List Zb)) (b:Int) (c:Int) (e:Bool) (f:Bool) (g:List Zb) (h:Int):Option (List Zb):=
  (F152 k g b c).bind fun a=>if a.2.2.length=g.length then ((cond (a.2.1 == 2) ((F153 k a.2.2 b c).bind fun i=>if i.length=a.2.2.length then (((ZdW R121 k d b c e f h i (w64 ((w64 (c-1))-(w64 (a.1-b)))) 1))) else none) ((ZdW R121 k d b c e f h a.2.2 a.1 a.2.1)))) else none
def ZfJ (R121:(List Zb)→Int→Int→Int→Option (List Zb)) (k:Nat) (d:(List Zb)→Int→Int→Int→Bool→Bool→Option (List Zb)) (a:List Zb) (b:Int) (c:Int) (e:Int) (f:Bool) (g:Bool):Option (List Zb):=
  ((cond (decide ((w64 (c-b))≤12)) ((F149 k a b c).bind fun h=>if h.length=a.length then (some h) else none) (((cond (e == 0) ((F150 k a b c).bind fun i=>if i.length=a.length then (some i) else none) (((cond (!f) ((F151 k a b c).bind fun j=>if j.length=a.length then ((ZdV R121 k d b c f g j (w64 (e-1)))) else none) ((ZdV R121 k d b c f g a e))))))))))
def Zaj (R121:(List Zb)→Int→Int→Int→Option (List Zb)) (k:Nat):Nat→(List Zb)→Int→Int→Int→Bool→Bool→Option (List Zb)
  | 0,_,_,_,_,_,_=>none
  | g+1,a,b,c,d,e,f=>ZfJ R121 k (Zaj R121 k g) a b c d e f
def ZnX (R121:(List Zb)→Int→Int→Int→Option (List Zb)) (k:Nat) (v0:List Zb) (v1:Int) (a:Int) (b:Int):Option (List Zb):=
  ((Zaj R121 k k v0 v1 a b true true))
theorem ZnY (R121:(List Zb)→Int→Int→Int→Option (List Zb)) (IH121:∀(v0:List Zb) (v1:Int) (v2:Int) (v3:Int) (r:List Zb),R121 v0 v1 v2 v3=some r→∀{n0:Nat},n0=v0.length→SM 121 [ar 0 n0,oi v1,oi v2,oi v3,.val false [.pv (.fn 104)]] [.arr 2 (v0.map Za)] (.tup []) [.arr 2 (r.map Za)]) (k:Nat) (v0:List Zb) (v1:Int) (v2:Int) (v3:Int) (r:List Zb) (d:ZnX R121 k v0 v1 v2 v3=some r) {n0:Nat} (hn_n0:n0=v0.length):SM 121 [ar 0 n0,oi v1,oi v2,oi v3,.val false [.pv (.fn 104)]] [.arr 2 (v0.map Za)] (.tup []) [.arr 2 (r.map Za)]:=by
 refine Zz [0] Tryz.func121 rfl kr kr ?_
 show WA _ _ 148 _ _ _
 refine Ws [] [(0,ar 0 n0),(1,oi v1),(2,oi v2),(3,oi v3),(4,.val false [.pv (.fn 104)]),(10,ob true)] [(0,.arr 2 (v0.map Za))] ?_
 refine Ws [] [(0,ar 0 n0),(1,oi v1),(2,oi v2),(3,oi v3),(4,.val false [.pv (.fn 104)]),(10,ob true),(11,ob true)] [(0,.arr 2 (v0.map Za))] ?_
 refine WA.block ?_
 refine WA.loop (fun m s_=>∃(t:List Zb) (o:Nat) (a:Int) (c:Int) (q:Int) (f:Bool) (i:Bool),J s_ [(0,ar 0 o),(1,oi a),(2,oi c),(3,oi q),(4,.val false [.pv (.fn 104)]),(10,ob f),(11,ob i)] [(0,.arr 2 (t.map Za))]∧o=(t:List _).length∧Zaj R121 k m t a c q f i=some r) k ⟨v0,n0,v1,v2,v3,true,true,jk,zt,d⟩ ?_
 clear d
 rintro m13 s_ ⟨t,o,a,c,q,f,i,z,e4,d⟩
 refine Wj z ?_
 clear z
 cases m13 with
 | zero=>cases d
 | succ m13=>
  obtain ⟨x,a2⟩:∃g,g=Zaj R121 k m13:=⟨_,rfl⟩
  have d:ZfJ R121 k x t a c q f i=some r:=by first | (rw [a2];exact d) | exact d
  refine WA.block ?_
  refine Ws [] [(0,ar 0 o),(1,oi a),(2,oi c),(3,oi q),(4,.val false [.pv (.fn 104)]),(10,ob f),(11,ob i),(12,oi (w64 (c-a)))] [(0,.arr 2 (t.map Za))] ?_
  refine WA.seq ?_
  refine Ws [] [(0,ar 0 o),(1,oi a),(2,oi c),(3,oi q),(4,.val false [.pv (.fn 104)]),(10,ob f),(11,ob i),(12,oi (w64 (c-a))),(25,ob (decide ((w64 (c-a))≤12)))] [(0,.arr 2 (t.map Za))] ?_
  refine WA.cond (b:=(decide ((w64 (c-a))≤12))) rfl (fun b1=>?_) (fun b1=>?_)
  {
 have d:=Zk d b1
 obtain ⟨c1,d1,d⟩:=Zh d
 obtain ⟨e8,d⟩:=Zo d
 refine Wos [(4,.call [0] (.tup []) [.arr 2 (c1.map Za)] [])] [] [(0,.arr 2 (c1.map Za))] [SM 149 [ar 0 o,oi a,oi c,.val false [.pv (.fn 104)]] [.arr 2 (t.map Za)] (.tup []) [.arr 2 (c1.map Za)],([0]:List Nat).Nodup] ⟨(ZpY k _ _ _ _ d1 (n0:=o) zt),nd,trivial⟩ ?_
 refine WA.ret ?_
 obtain rfl:=zj_ d
 exact Zq (.tup []) [.arr 2 (c1.map Za)] kr kr kr kr nd rfl rfl }
  {
 have d:=Zj d b1
 refine WA.skip ?_
 refine WA.seq ?_
 refine Ws [] [(0,ar 0 o),(1,oi a),(2,oi c),(3,oi q),(4,.val false [.pv (.fn 104)]),(10,ob f),(11,ob i),(12,oi (w64 (c-a))),(32,ob (q == 0))] [(0,.arr 2 (t.map Za))] ?_
 refine WA.cond (b:=(q == 0)) rfl (fun b2=>?_) (fun b2=>?_)
 {
 have d:=Zk d b2
 obtain ⟨c2,d2,d⟩:=Zh d
 obtain ⟨e9,d⟩:=Zo d
 refine Wos [(4,.call [0] (.tup []) [.arr 2 (c2.map Za)] [])] [] [(0,.arr 2 (c2.map Za))] [SM 150 [ar 0 o,oi a,oi c,.val false [.pv (.fn 104)]] [.arr 2 (t.map Za)] (.tup []) [.arr 2 (c2.map Za)],([0]:List Nat).Nodup] ⟨(ZpZ k _ _ _ _ d2 (n0:=o) zt),nd,trivial⟩ ?_
 refine WA.ret ?_
 obtain rfl:=zj_ d
 exact Zq (.tup []) [.arr 2 (c2.map Za)] kr kr kr kr nd rfl rfl }
 {
 have d:=Zj d b2
 refine WA.skip ?_
 refine WA.join (fun s_=>∃(a6:List Zb) (s:Nat) (h:Int),J s_ [(0,ar 0 s),(1,oi a),(2,oi c),(3,oi h),(4,.val false [.pv (.fn 104)]),(10,ob f),(11,ob i),(12,oi (w64 (c-a)))] [(0,.arr 2 (a6.map Za))]∧s=(a6:List _).length∧ZdV R121 k x a c f i a6 h=some r) ?_ ?_
 {
 rintro s_ ⟨a6,s,h,z,e5,d⟩
 refine Wj z ?_
 clear z
 obtain ⟨l,d4,d⟩:=Zh d
 obtain ⟨f1,d⟩:=Zo d
 refine Wos [(4,.call [0] (.tup [(false,[.pv (.int .i64 l.1)]),(false,[.pv (.int .i64 l.2.1)])]) [.arr 2 (l.2.2.map Za)] [])] [(0,ar 0 s),(1,oi a),(2,oi c),(3,oi h),(4,.val false [.pv (.fn 104)]),(10,ob f),(11,ob i),(12,oi (w64 (c-a))),(13,oi l.1),(14,oi l.2.1)] [(0,.arr 2 (l.2.2.map Za))] [SM 152 [ar 0 s,oi a,oi c,.val false [.pv (.fn 104)]] [.arr 2 (a6.map Za)] (.tup [(false,[.pv (.int .i64 l.1)]),(false,[.pv (.int .i64 l.2.1)])]) [.arr 2 (l.2.2.map Za)],([0]:List Nat).Nodup] ⟨(Zp1 k _ _ _ _ d4 (n0:=s) zt),nd,trivial⟩ ?_
 refine WA.join (fun s_=>∃(v:List Zb) (u:Nat) (n:Int) (a7:Int),J s_ [(0,ar 0 u),(1,oi a),(2,oi c),(3,oi h),(4,.val false [.pv (.fn 104)]),(10,ob f),(11,ob i),(12,oi (w64 (c-a))),(13,oi n),(14,oi a7)] [(0,.arr 2 (v.map Za))]∧u=(v:List _).length∧ZdW R121 k x a c f i h v n a7=some r) ?_ ?_
 {
 rintro s_ ⟨v,u,n,a7,z,e6,d⟩
 refine Wj z ?_
 clear z
 refine WA.join (fun s_=>∃(p:List Zb) (j:Nat),J s_ [(0,ar 0 j),(1,oi a),(2,oi c),(3,oi h),(4,.val false [.pv (.fn 104)]),(10,ob f),(11,ob i),(12,oi (w64 (c-a))),(13,oi n)] [(0,.arr 2 (p.map Za))]∧j=(p:List _).length∧ZdX R121 k x a c f i h n p=some r) ?_ ?_
 {
 rintro s_ ⟨p,j,z,e7,d⟩
 refine Wj z ?_
 clear z
 refine WA.seq ?_
 refine WA.join (fun s_=>∃(c0:Bool),J s_ [(0,ar 0 j),(1,oi a),(2,oi c),(3,oi h),(4,.val false [.pv (.fn 104)]),(10,ob f),(11,ob i),(12,oi (w64 (c-a))),(13,oi n),(97,ob c0)] [(0,.arr 2 (p.map Za))]∧ZcI R121 k x a c f i h n p c0=some r) ?_ ?_
 {
 rintro s_ ⟨c0,z,d⟩
 refine Wj z ?_
 clear z
 refine WA.cond (b:=c0) rfl (fun b7=>?_) (fun b7=>?_)
 {
 have d:=Zk d b7
 obtain ⟨w,e0,d⟩:=Zh d
 obtain ⟨f4,d⟩:=Zo d
 refine Wos [(5,.call [0] (oi w.1) [.arr 2 (w.2.map Za)] [])] [(0,ar 0 j),(2,oi c),(3,oi h),(4,.val false [.pv (.fn 104)]),(10,ob f),(11,ob i),(15,oi w.1)] [(0,.arr 2 (w.2.map Za))] [SM 155 [ar 0 j,oi a,oi c,oi n,.val false [.pv (.fn 104)]] [.arr 2 (p.map Za)] (oi w.1) [.arr 2 (w.2.map Za)],([0]:List Nat).Nodup] ⟨(Zp4 k _ _ _ _ _ e0 (n0:=j) zt),nd,trivial⟩ ?_
 refine Ws [] [(0,ar 0 j),(1,oi w.1),(2,oi c),(3,oi h),(4,.val false [.pv (.fn 104)]),(10,ob f),(11,ob i)] [(0,.arr 2 (w.2.map Za))] ?_
 refine WA.exit ?_
 exact ⟨m13,zl_ _,w.2,j,w.1,c,h,f,i,jk,zt,by rw [a2] at d;exact d⟩ }
 {
 have d:=Zj d b7
 refine WA.skip ?_
 obtain ⟨e,e1,d⟩:=Zh d
 obtain ⟨f5,d⟩:=Zo d
 refine Wos [(5,.call [0] (.tup [(false,[.pv (.int .i64 e.1)]),(false,[.pv (.bool e.2.1)])]) [.arr 2 (e.2.2.map Za)] [])] [(0,ar 0 j),(1,oi a),(2,oi c),(3,oi h),(4,.val false [.pv (.fn 104)]),(12,oi (w64 (c-a))),(16,oi e.1),(17,ob e.2.1)] [(0,.arr 2 (e.2.2.map Za))] [SM 156 [ar 0 j,oi a,oi c,oi n,.val false [.pv (.fn 104)]] [.arr 2 (p.map Za)] (.tup [(false,[.pv (.int .i64 e.1)]),(false,[.pv (.bool e.2.1)])]) [.arr 2 (e.2.2.map Za)],([0]:List Nat).Nodup] ⟨(Zp5 k _ _ _ _ _ e1 (n0:=j) zt),nd,trivial⟩ ?_
 refine Ws [] [(0,ar 0 j),(1,oi a),(2,oi c),(3,oi h),(4,.val false [.pv (.fn 104)]),(11,ob e.2.1),(12,oi (w64 (c-a))),(16,oi e.1)] [(0,.arr 2 (e.2.2.map Za))] ?_
 refine Ws [] [(0,ar 0 j),(1,oi a),(2,oi c),(3,oi h),(4,.val false [.pv (.fn 104)]),(11,ob e.2.1),(12,oi (w64 (c-a))),(16,oi e.1),(18,oi (w64 (e.1-a))),(19,oi (w64 (c-e.1)))] [(0,.arr 2 (e.2.2.map Za))] ?_
 obtain ⟨d0,d⟩:=Zo d
 refine Wos [] [(0,ar 0 j),(1,oi a),(2,oi c),(3,oi h),(4,.val false [.pv (.fn 104)]),(11,ob e.2.1),(16,oi e.1),(18,oi (w64 (e.1-a))),(19,oi (w64 (c-e.1))),(20,oi (w64 (Int.tdiv (w64 (c-a)) 8)))] [(0,.arr 2 (e.2.2.map Za))] [(8:Int)≠0] ⟨d0,trivial⟩ ?_
 refine Ws [] [(0,ar 0 j),(1,oi a),(2,oi c),(3,oi h),(4,.val false [.pv (.fn 104)]),(11,ob e.2.1),(16,oi e.1),(18,oi (w64 (e.1-a))),(19,oi (w64 (c-e.1))),(20,oi (w64 (Int.tdiv (w64 (c-a)) 8))),(125,ob (decide ((w64 (e.1-a))<(w64 (c-e.1)))))] [(0,.arr 2 (e.2.2.map Za))] ?_
 refine WA.cond (b:=(decide ((w64 (e.1-a))<(w64 (c-e.1))))) rfl (fun b8=>?_) (fun b8=>?_)
 {
 have d:=Zk d b8
 refine Ws [] [(0,ar 0 j),(1,oi a),(2,oi c),(3,oi h),(4,.val false [.pv (.fn 104)]),(10,ob (decide ((w64 (e.1-a))≥(w64 (Int.tdiv (w64 (c-a)) 8))))),(11,ob e.2.1),(16,oi e.1)] [(0,.arr 2 (e.2.2.map Za))] ?_
 obtain ⟨a9,e2,d⟩:=Zh d
 obtain ⟨f6,d⟩:=Zo d
 refine Wos [(5,.call [0] (.tup []) [.arr 2 (a9.map Za)] [])] [(0,ar 0 j),(2,oi c),(3,oi h),(4,.val false [.pv (.fn 104)]),(10,ob (decide ((w64 (e.1-a))≥(w64 (Int.tdiv (w64 (c-a)) 8))))),(11,ob e.2.1),(16,oi e.1)] [(0,.arr 2 (a9.map Za))] [SM 121 [ar 0 j,oi a,oi e.1,oi h,.val false [.pv (.fn 104)]] [.arr 2 (e.2.2.map Za)] (.tup []) [.arr 2 (a9.map Za)],([0]:List Nat).Nodup] ⟨(IH121 _ _ _ _ _ e2 (n0:=j) zt),nd,trivial⟩ ?_
 refine Wr [] [(0,ar 0 j),(1,oi (w64 (e.1+1))),(2,oi c),(3,oi h),(4,.val false [.pv (.fn 104)]),(10,ob (decide ((w64 (e.1-a))≥(w64 (Int.tdiv (w64 (c-a)) 8))))),(11,ob e.2.1)] [(0,.arr 2 (a9.map Za))] ?_
 exact ⟨m13,zl_ _,a9,j,(w64 (e.1+1)),c,h,(decide ((w64 (e.1-a))≥(w64 (Int.tdiv (w64 (c-a)) 8)))),e.2.1,jk,zt,by rw [a2] at d;exact d⟩ }
 {
 have d:=Zj d b8
 refine Ws [] [(0,ar 0 j),(1,oi a),(2,oi c),(3,oi h),(4,.val false [.pv (.fn 104)]),(10,ob (decide ((w64 (c-e.1))≥(w64 (Int.tdiv (w64 (c-a)) 8))))),(11,ob e.2.1),(16,oi e.1)] [(0,.arr 2 (e.2.2.map Za))] ?_
 obtain ⟨b0,e3,d⟩:=Zh d
 obtain ⟨f7,d⟩:=Zo d
 refine Wos [(6,.call [0] (.tup []) [.arr 2 (b0.map Za)] [])] [(0,ar 0 j),(1,oi a),(3,oi h),(4,.val false [.pv (.fn 104)]),(10,ob (decide ((w64 (c-e.1))≥(w64 (Int.tdiv (w64 (c-a)) 8))))),(11,ob e.2.1),(16,oi e.1)] [(0,.arr 2 (b0.map Za))] [SM 121 [ar 0 j,oi (w64 (e.1+1)),oi c,oi h,.val false [.pv (.fn 104)]] [.arr 2 (e.2.2.map Za)] (.tup []) [.arr 2 (b0.map Za)],([0]:List Nat).Nodup] ⟨(IH121 _ _ _ _ _ e3 (n0:=j) zt),nd,trivial⟩ ?_
 refine Wr [] [(0,ar 0 j),(1,oi a),(2,oi e.1),(3,oi h),(4,.val false [.pv (.fn 104)]),(10,ob (decide ((w64 (c-e.1))≥(w64 (Int.tdiv (w64 (c-a)) 8))))),(11,ob e.2.1)] [(0,.arr 2 (b0.map Za))] ?_
 exact ⟨m13,zl_ _,b0,j,a,e.1,h,(decide ((w64 (c-e.1))≥(w64 (Int.tdiv (w64 (c-a)) 8)))),e.2.1,jk,zt,by rw [a2] at d;exact d⟩ } } }
 {
 rcases zo_ (decide (a > 0)) with a4 | a4
 {
 have d:=Zk d a4
 obtain ⟨c8,d⟩:=Zo d
 obtain ⟨c6,d7,d⟩:=Zh d
 obtain ⟨c9,d⟩:=Zo d
 obtain ⟨c7,d8,d⟩:=Zh d
 obtain ⟨c3,d9,d⟩:=Zh d
 refine Wd [(2,.bool true),(8,.cells (Za c6)),(12,.cells (Za c7)),(13,.callR [] (oi c3))] [(0,ar 0 j),(1,oi a),(2,oi c),(3,oi h),(4,.val false [.pv (.fn 104)]),(10,ob f),(11,ob i),(12,oi (w64 (c-a))),(13,oi n),(97,ob (!(decide (c3<0))))] [(0,.arr 2 (p.map Za))] [(decide (a > 0))=true,j=(p.map Za).length,(0:Int)≤(w64 (a-1)),(w64 (a-1))<((j:Nat):Int),j=(p.map Za).length,(p.map Za)[Int.toNat (w64 (a-1))]?=some (Za c6),j=(p.map Za).length,(0:Int)≤n,n<((j:Nat):Int),j=(p.map Za).length,(p.map Za)[Int.toNat n]?=some (Za c7),SM 104 [tv (Za c6),tv (Za c7)] [] (oi c3) [],([]:List Nat).Nodup] ⟨a4,zt,c8.1,(by have h_:=c8.2;(try simp only [zl,Zi] at h_ ⊢);omega),zt,(Zs (Zt _ d7)),zt,c9.1,(by have h_:=c9.2;(try simp only [zl,Zi] at h_ ⊢);omega),zt,(Zs (Zt _ d8)),(Zas k _ _ _ d9),nd,trivial⟩ ?_
 exact ⟨(!(decide (c3<0))),jk,d⟩ }
 {
 have d:=Zj d a4
 refine Wd [(2,.bool false),(13,.callR [] (.tup []))] [(0,ar 0 j),(1,oi a),(2,oi c),(3,oi h),(4,.val false [.pv (.fn 104)]),(10,ob f),(11,ob i),(12,oi (w64 (c-a))),(13,oi n),(97,ob false)] [(0,.arr 2 (p.map Za))] [(decide (a > 0))=false] ⟨a4,trivial⟩ ?_
 exact ⟨false,jk,d⟩ } } }
 {
 refine WA.join (fun s_=>∃(b9:Bool),J s_ [(0,ar 0 u),(1,oi a),(2,oi c),(3,oi h),(4,.val false [.pv (.fn 104)]),(10,ob f),(11,ob i),(12,oi (w64 (c-a))),(13,oi n),(75,ob b9)] [(0,.arr 2 (v.map Za))]∧ZcH R121 k x a c f i h v n b9=some r) ?_ ?_
 {
 rintro s_ ⟨b9,z,d⟩
 refine Wj z ?_
 clear z
 refine WA.cond (b:=b9) rfl (fun b5=>?_) (fun b5=>?_)
 {
 have d:=Zk d b5
 obtain ⟨y,d6,d⟩:=Zh d
 obtain ⟨f3,d⟩:=Zo d
 refine Wos [(4,.call [0] (ob y.1) [.arr 2 (y.2.map Za)] [])] [(0,ar 0 u),(1,oi a),(2,oi c),(3,oi h),(4,.val false [.pv (.fn 104)]),(10,ob f),(11,ob i),(12,oi (w64 (c-a))),(13,oi n),(80,ob y.1)] [(0,.arr 2 (y.2.map Za))] [SM 154 [ar 0 u,oi a,oi c,.val false [.pv (.fn 104)]] [.arr 2 (v.map Za)] (ob y.1) [.arr 2 (y.2.map Za)],([0]:List Nat).Nodup] ⟨(Zp3 k _ _ _ _ d6 (n0:=u) zt),nd,trivial⟩ ?_
 refine WA.cond (b:=y.1) rfl (fun b6=>?_) (fun b6=>?_)
 {
 have d:=Zk d b6
 refine WA.ret ?_
 obtain rfl:=zj_ d
 exact Zq (.tup []) [.arr 2 (y.2.map Za)] kr kr kr kr nd rfl rfl }
 {
 have d:=Zj d b6
 refine WA.skip ?_
 exact ⟨y.2,u,jk,zt,d⟩ } }
 {
 have d:=Zj d b5
 refine WA.skip ?_
 exact ⟨v,u,jk,zt,d⟩ } }
 {
 rcases zo_ f with a1 | a1
 {
 have d:=Zk d a1
 rcases zo_ i with a3 | a3
 {
 have d:=Zk d a3
 refine Wo [(1,.bool true),(4,.bool true)] [(0,ar 0 u),(1,oi a),(2,oi c),(3,oi h),(4,.val false [.pv (.fn 104)]),(10,ob f),(11,ob i),(12,oi (w64 (c-a))),(13,oi n),(75,ob (a7 == 1))] [(0,.arr 2 (v.map Za))] [f=true,i=true] ⟨a1,a3,trivial⟩ ?_
 exact ⟨(a7 == 1),jk,d⟩ }
 {
 have d:=Zj d a3
 refine Wo [(1,.bool true),(4,.bool false)] [(0,ar 0 u),(1,oi a),(2,oi c),(3,oi h),(4,.val false [.pv (.fn 104)]),(10,ob f),(11,ob i),(12,oi (w64 (c-a))),(13,oi n),(75,ob false)] [(0,.arr 2 (v.map Za))] [f=true,i=false] ⟨a1,a3,trivial⟩ ?_
 exact ⟨false,jk,d⟩ } }
 {
 have d:=Zj d a1
 refine Wo [(1,.bool false)] [(0,ar 0 u),(1,oi a),(2,oi c),(3,oi h),(4,.val false [.pv (.fn 104)]),(10,ob f),(11,ob i),(12,oi (w64 (c-a))),(13,oi n),(75,ob false)] [(0,.arr 2 (v.map Za))] [f=false] ⟨a1,trivial⟩ ?_
 exact ⟨false,jk,d⟩ } } } }
 {
 refine Ws [] [(0,ar 0 s),(1,oi a),(2,oi c),(3,oi h),(4,.val false [.pv (.fn 104)]),(10,ob f),(11,ob i),(12,oi (w64 (c-a))),(13,oi l.1),(14,oi l.2.1),(56,ob (l.2.1 == 2))] [(0,.arr 2 (l.2.2.map Za))] ?_
 refine WA.cond (b:=(l.2.1 == 2)) rfl (fun b4=>?_) (fun b4=>?_)
 {
 have d:=Zk d b4
 obtain ⟨a5,d5,d⟩:=Zh d
 obtain ⟨f2,d⟩:=Zo d
 refine Wos [(4,.call [0] (.tup []) [.arr 2 (a5.map Za)] [])] [(0,ar 0 s),(1,oi a),(2,oi c),(3,oi h),(4,.val false [.pv (.fn 104)]),(10,ob f),(11,ob i),(12,oi (w64 (c-a))),(13,oi l.1)] [(0,.arr 2 (a5.map Za))] [SM 153 [ar 0 s,oi a,oi c,.val false [.pv (.fn 104)]] [.arr 2 (l.2.2.map Za)] (.tup []) [.arr 2 (a5.map Za)],([0]:List Nat).Nodup] ⟨(Zp2 k _ _ _ _ d5 (n0:=s) zt),nd,trivial⟩ ?_
 refine Ws [] [(0,ar 0 s),(1,oi a),(2,oi c),(3,oi h),(4,.val false [.pv (.fn 104)]),(10,ob f),(11,ob i),(12,oi (w64 (c-a))),(13,oi (w64 ((w64 (c-1))-(w64 (l.1-a)))))] [(0,.arr 2 (a5.map Za))] ?_
 refine Wr [] [(0,ar 0 s),(1,oi a),(2,oi c),(3,oi h),(4,.val false [.pv (.fn 104)]),(10,ob f),(11,ob i),(12,oi (w64 (c-a))),(13,oi (w64 ((w64 (c-1))-(w64 (l.1-a))))),(14,oi 1)] [(0,.arr 2 (a5.map Za))] ?_
 exact ⟨a5,s,(w64 ((w64 (c-1))-(w64 (l.1-a)))),1,jk,zt,d⟩ }
 {
 have d:=Zj d b4
 refine WA.skip ?_
 exact ⟨l.2.2,s,l.1,l.2.1,jk,zt,d⟩ } } }
 {
 refine Ws [] [(0,ar 0 o),(1,oi a),(2,oi c),(3,oi q),(4,.val false [.pv (.fn 104)]),(10,ob f),(11,ob i),(12,oi (w64 (c-a))),(39,ob (!f))] [(0,.arr 2 (t.map Za))] ?_
 refine WA.cond (b:=(!f)) rfl (fun b3=>?_) (fun b3=>?_)
 {
 have d:=Zk d b3
 obtain ⟨a8,d3,d⟩:=Zh d
 obtain ⟨f0,d⟩:=Zo d
 refine Wos [(4,.call [0] (.tup []) [.arr 2 (a8.map Za)] [])] [(0,ar 0 o),(1,oi a),(2,oi c),(3,oi q),(4,.val false [.pv (.fn 104)]),(10,ob f),(11,ob i),(12,oi (w64 (c-a)))] [(0,.arr 2 (a8.map Za))] [SM 151 [ar 0 o,oi a,oi c,.val false [.pv (.fn 104)]] [.arr 2 (t.map Za)] (.tup []) [.arr 2 (a8.map Za)],([0]:List Nat).Nodup] ⟨(Zp0 k _ _ _ _ d3 (n0:=o) zt),nd,trivial⟩ ?_
 refine Wr [] [(0,ar 0 o),(1,oi a),(2,oi c),(3,oi (w64 (q-1))),(4,.val false [.pv (.fn 104)]),(10,ob f),(11,ob i),(12,oi (w64 (c-a)))] [(0,.arr 2 (a8.map Za))] ?_
 exact ⟨a8,o,(w64 (q-1)),jk,zt,d⟩ }
 {
 have d:=Zj d b3
 refine WA.skip ?_
 exact ⟨t,o,q,jk,zt,d⟩ } } } }
def F121:Nat→(List Zb)→Int→Int→Int→Option (List Zb)
  | 0,_,_,_,_=>none
  | k+1,v0,v1,a,b=>ZnX (F121 k) k v0 v1 a b
theorem ZmP:∀(k:Nat),∀(v0:List Zb) (v1:Int) (a:Int) (b:Int) (r:List Zb),F121 k v0 v1 a b=some r→∀{n0:Nat},n0=v0.length→SM 121 [ar 0 n0,oi v1,oi a,oi b,.val false [.pv (.fn 104)]] [.arr 2 (v0.map Za)] (.tup []) [.arr 2 (r.map Za)]
  | 0=>fun _ _ _ _ _ c=>by cases c
  | k+1=>fun v0 v1 a b r c=>ZnY (F121 k) (ZmP k) k v0 v1 a b r c
def F103 (k:Nat) (v0:List Zb):Option (List Zb):=
  (F112 k (IntKind.wrap .u64 (v0.length:Int))).bind fun b=>(F121 k v0 0 (v0.length:Int) b).bind fun a=>if a.length=v0.length then some a else none
theorem ZpR (k:Nat) (v0:List Zb) (r:List Zb) (b:F103 k v0=some r) {n0:Nat} (hn_n0:n0=v0.length):SM 103 [ar 0 n0,.val false [.pv (.fn 104)]] [.arr 2 (v0.map Za)] (.tup []) [.arr 2 (r.map Za)]:=by
 refine Zz [0] Tryz.func103 rfl kr kr ?_
 show WA _ _ 14 _ _ _
 refine WA.seq ?_
 refine Wm ((n0:Nat):Int) (v0.length:Int) (fun g=>([(0,ar 0 n0),(1,.val false [.pv (.fn 104)]),(4,oi g)],[(0,.arr 2 (v0.map Za))],[])) ((by first | (simp only [zl,Zi];done) | (simp only [zl,Zi];omega) | omega)) [] trivial ?_
 obtain ⟨c,d,b⟩:=Zh b
 obtain ⟨a,e,b⟩:=Zh b
 obtain ⟨f,b⟩:=Zo b
 refine Wo [(4,.callR [] (oi c)),(6,.call [0] (.tup []) [.arr 2 (a.map Za)] [])] [] [(0,.arr 2 (a.map Za))] [SM 112 [one (.int .u64 (IntKind.wrap .u64 (v0.length:Int)))] [] (oi c) [],([]:List Nat).Nodup,SM 121 [ar 0 n0,oi 0,oi (v0.length:Int),oi c,.val false [.pv (.fn 104)]] [.arr 2 (v0.map Za)] (.tup []) [.arr 2 (a.map Za)],([0]:List Nat).Nodup] ⟨(ZmM k _ _ d),nd,(ZmP k _ _ _ _ _ e (n0:=n0) zt),nd,trivial⟩ ?_
 obtain rfl:=zj_ b
 exact ZcV (.tup []) [.arr 2 (a.map Za)] kr kr kr kr nd rfl rfl
end Go.Proofs.YthilboheomikjaaGreatDoor
end
section
namespace Go.Proofs.YthilboheomikjaaGreatDoor
open Go.AL Go.Lib
set_option maxRecDepth 100000
def Small (l:List Zb):Prop:=∀r∈l,-4611686018427387904≤r.f_Lo∧r.f_Lo≤4611686018427387903
def ZP (l:List Zb) (a b:Nat):Prop:=∀p q x y,a≤p→p<q→q<b→l[p]?=some x→l[q]?=some y→x.f_Lo≤y.f_Lo
def ZaO (l l':List Zb) (a b:Nat):Prop:=∀p,(p<a∨b≤p)→l'[p]?=l[p]?
theorem Small.perm {l l':List Zb} (h:Small l) (p:List.Perm l' l):Small l':=fun r hr=>h r (p.mem_iff.1 hr)
theorem Small.at {l:List Zb} (h:Small l) {p:Nat} {x:Zb} (e:l[p]?=some x):-4611686018427387904≤x.f_Lo∧x.f_Lo≤4611686018427387903:=h x (List.mem_of_getElem? e)
def swp (l:List Zb) (i j:Nat) (x y:Zb):List Zb:=(l.set i y).set j x
theorem Zeh {l:List Zb} {i j:Nat} {x y:Zb} (hi:l[i]?=some x) (hj:l[j]?=some y):List.Perm (swp l i j x y) l:=by
  obtain ⟨h1,rfl⟩:=List.getElem?_eq_some_iff.1 hi
  obtain ⟨h2,rfl⟩:=List.getElem?_eq_some_iff.1 hj
  exact List.set_set_perm h1 h2
theorem Z5 {l:List Zb} {i j:Nat} {x y:Zb} (hi:l[i]?=some x) (hj:l[j]?=some y) (p:Nat):(swp l i j x y)[p]?=if p=j then some x else if p=i then some y else l[p]?:=by
  have h1:=(List.getElem?_eq_some_iff.1 hi).1
  have h2:=(List.getElem?_eq_some_iff.1 hj).1
  unfold swp
  rw [List.getElem?_set,List.length_set,List.getElem?_set]
  by_cases e1:p=j
  · rw [if_pos e1,if_pos e1.symm,if_pos (by omega)]
  · rw [if_neg e1,if_neg (fun h=>e1 h.symm)]
    by_cases e2:p=i
    · rw [if_pos e2,if_pos e2.symm,if_pos (by omega)]
    · rw [if_neg e2,if_neg (fun h=>e2 h.symm)]
theorem ZW (l:List Zb) (i j:Nat) (x y:Zb):(swp l i j x y).length=l.length:=by simp [swp]
theorem Zfx {x y:Zb} (hx:-4611686018427387904≤x.f_Lo∧x.f_Lo≤4611686018427387903) (hy:-4611686018427387904≤y.f_Lo∧y.f_Lo≤4611686018427387903):w64 (x.f_Lo-y.f_Lo)=x.f_Lo-y.f_Lo:=Zv (by omega) (by omega)
theorem Zom {k:Nat} {self8:List Zb→Int→Option (List Zb)} {a i:Nat}:∀(m j:Nat) (v:List Zb),a≤j→j≤i→i<v.length→v.length≤1073741824→j<m+a→
    ∃v',Zbu k self8 (a:Int) (i:Int) m v (j:Int)=self8 v' ((i+1:Nat):Int)∧List.Perm v' v∧ZaO v v' a (i+1)∧
      (Small v→(∀p q x y,a≤p→p<q→q≤i→q≠j→v[p]?=some x→v[q]?=some y→x.f_Lo≤y.f_Lo)→ZP v' a (i+1))
  | 0,j,v,ha,hj,hi,hv,hm=>by omega
  | m+1,j,v,ha,hj,hi,hv,hm=>by
    have stop:∀b:Bool,b=false→(Small v→(∀p q x y,a≤p→p<q→q≤i→q≠j→v[p]?=some x→v[q]?=some y→x.f_Lo≤y.f_Lo)→ZP v a (i+1))→
        ∃v',ZcL self8 (Zbu k self8 (a:Int) (i:Int) m) (i:Int) v (j:Int) b=self8 v' ((i+1:Nat):Int)∧List.Perm v' v∧ZaO v v' a (i+1)∧
          (Small v→(∀p q x y,a≤p→p<q→q≤i→q≠j→v[p]?=some x→v[q]?=some y→x.f_Lo≤y.f_Lo)→ZP v' a (i+1)):=fun b hb hs=>by
      subst hb
      refine ⟨v,?_,List.Perm.refl _,fun p _=>rfl,hs⟩
      unfold ZcL
      simp only [cond]
      rw [Zv (by omega) (by omega)];rfl
    have e:Zbu k self8 (a:Int) (i:Int) (m+1) v (j:Int)=ZfK k self8 (Zbu k self8 (a:Int) (i:Int) m) (a:Int) (i:Int) v (j:Int):=rfl
    rw [e]
    unfold ZfK
    by_cases hja:a<j
    · obtain ⟨x,hx⟩:∃x,v[j]?=some x:=⟨_,List.getElem?_eq_getElem (by omega)⟩
      obtain ⟨y,hy⟩:∃y,v[j-1]?=some y:=⟨_,List.getElem?_eq_getElem (by omega)⟩
      have ew:w64 ((j:Int)-1)=((j-1:Nat):Int):=by rw [Zv (by omega) (by omega)];omega
      rw [dt (by omega),ew]
      simp only [cond]
      rw [if_pos ⟨by omega,by omega⟩,Zy,hx]
      simp only [zb_]
      rw [if_pos ⟨by omega,by omega⟩,Zy,hy]
      simp only [zb_,F104]
      by_cases hc:w64 (x.f_Lo-y.f_Lo)<0
      · rw [dt hc]
        unfold ZcL
        simp only [cond]
        rw [ew,if_pos ⟨by omega,by omega⟩,Zy,hy]
        simp only [zb_]
        rw [if_pos ⟨by omega,by omega⟩,Zy,hx]
        simp only [zb_]
        rw [if_pos ⟨by omega,by omega⟩]
        rw [if_pos ⟨by omega,by rw [List.length_set];omega⟩]
        have hset:idxL (v.set (Int.toNat (j:Int)) y) ((j-1:Nat):Int)=some y:=by
          rw [Zy,List.getElem?_set,if_neg (by omega)];exact hy
        rw [hset]
        simp only [zb_,Int.toNat_natCast]
        have hget:=Z5 hx hy
        obtain ⟨v',e1,e2,e3,e4⟩:=Zom (k:=k) (self8:=self8) (a:=a) (i:=i) m (j-1) (swp v j (j-1) x y) (by omega) (by omega) (by rw [ZW];exact hi) (by rw [ZW];exact hv) (by omega)
        refine ⟨v',e1,e2.trans (Zeh hx hy),fun p hp=>by rw [e3 p hp,hget,if_neg (by omega),if_neg (by omega)],fun hsm hs=>e4 (hsm.perm (Zeh hx hy)) ?_⟩
        have hxy:x.f_Lo≤y.f_Lo:=by
          have:=Zfx (hsm.at hx) (hsm.at hy)
          omega
        intro p q x1 y1 hap hpq hqi hqj h1 h2
        rw [hget] at h1 h2
        rw [if_neg hqj] at h2
        by_cases e5:p=j-1
        · rw [if_pos e5] at h1
          obtain rfl:=zj_ h1
          by_cases e6:q=j
          · rw [if_pos e6] at h2
            obtain rfl:=zj_ h2
            exact hxy
          · rw [if_neg e6] at h2
            have:=hs (j-1) q y y1 (by omega) (by omega) hqi (by omega) hy h2
            omega
        · rw [if_neg e5] at h1
          by_cases e6:p=j
          · rw [if_pos e6] at h1
            obtain rfl:=zj_ h1
            rw [if_neg (by omega)] at h2
            exact hs (j-1) q _ _ (by omega) (by omega) hqi (by omega) hy h2
          · rw [if_neg e6] at h1
            by_cases e7:q=j
            · rw [if_pos e7] at h2
              obtain rfl:=zj_ h2
              exact hs p (j-1) _ _ hap (by omega) (by omega) (by omega) h1 hy
            · rw [if_neg e7] at h2
              exact hs p q _ _ hap hpq hqi e7 h1 h2
      · rw [df hc]
        refine stop _ rfl fun hsm hs=>?_
        have hyx:y.f_Lo≤x.f_Lo:=by
          have:=Zfx (hsm.at hx) (hsm.at hy)
          omega
        intro p q x1 y1 hap hpq hqi h1 h2
        by_cases e5:q=j
        · subst e5
          rw [hx] at h2
          obtain rfl:=zj_ h2
          by_cases e6:p=q-1
          · subst e6
            rw [hy] at h1
            obtain rfl:=zj_ h1
            exact hyx
          · have:=hs p (q-1) _ _ hap (by omega) (by omega) (by omega) h1 hy
            omega
        · exact hs p q _ _ hap hpq (by omega) e5 h1 h2
    · rw [df (by omega)]
      simp only [cond]
      refine stop _ rfl fun hsm hs=>?_
      intro p q x1 y1 hap hpq hqi h1 h2
      exact hs p q _ _ hap hpq (by omega) (by omega) h1 h2
theorem Znc {k a b:Nat} (hk:b-a<k):∀(m i:Nat) (v:List Zb),a≤i→i≤b→b≤v.length→v.length≤1073741824→b-i<m→
    ∃v',Zch k (a:Int) (b:Int) m v (i:Int)=some v'∧List.Perm v' v∧ZaO v v' a b∧(Small v→ZP v a i→ZP v' a b)
  | 0,i,v,_,_,_,_,hm=>by omega
  | m+1,i,v,ha,hi,hb,hv,hm=>by
    have e:Zch k (a:Int) (b:Int) (m+1) v (i:Int)=ZdB k (Zch k (a:Int) (b:Int) m) (a:Int) (b:Int) v (i:Int):=rfl
    rw [e]
    unfold ZdB
    by_cases hib:i<b
    · rw [dt (by omega)]
      simp only [cond]
      obtain ⟨v1,e1,p1,o1,s1⟩:=Zom (k:=k) (self8:=Zch k (a:Int) (b:Int) m) (a:=a) (i:=i) k i v ha (Nat.le_refl _) (by omega) hv (by omega)
      rw [e1]
      have hl:=p1.length_eq
      obtain ⟨v2,e2,p2,o2,s2⟩:=Znc (k:=k) (a:=a) (b:=b) hk m (i+1) v1 (by omega) (by omega) (by omega) (by omega) (by omega)
      refine ⟨v2,e2,p2.trans p1,fun p hp=>by rw [o2 p hp,o1 p (by omega)],fun hsm hs=>s2 (hsm.perm p1) (s1 hsm fun p q x y hap hpq hqi hq=>hs p q x y hap hpq (by omega))⟩
    · rw [df (by omega)]
      simp only [cond]
      obtain rfl:i=b:=by omega
      exact ⟨v,rfl,List.Perm.refl _,fun _ _=>rfl,fun _ h=>h⟩
theorem Zq5 {k a b:Nat} {v:List Zb} (hk:b-a<k) (hab:a≤b) (hb:b≤v.length) (hv:v.length≤1073741824) :
    ∃v',F149 k v (a:Int) (b:Int)=some v'∧List.Perm v' v∧ZaO v v' a b∧(Small v→ZP v' a b):=by
  unfold F149
  rw [Zv (by omega) (by omega)]
  by_cases h:a<b
  · obtain ⟨v',e,p,o,s⟩:=Znc (a:=a) hk k (a+1) v (by omega) (by omega) hb hv (by omega)
    exact ⟨v',e,p,o,fun hs=>s hs fun p q x y hp hq hq2=>by omega⟩
  · obtain rfl:a=b:=by omega
    obtain ⟨k,rfl⟩:∃q,k=q+1:=⟨k-1,by omega⟩
    refine ⟨v,?_,List.Perm.refl _,fun _ _=>rfl,fun _ p q x y hp hq hq2=>by omega⟩
    show ZdB _ _ _ _ _ _=_
    unfold ZdB
    rw [df (by omega)]
    rfl
end Go.Proofs.YthilboheomikjaaGreatDoor
end
section
namespace Go.Proofs.YthilboheomikjaaGreatDoor
open Go.AL Go.Lib
set_option maxRecDepth 100000
def sw {β:Type} (v:List Zb) (i j:Int) (K:List Zb→Option β):Option β:=
  if (0:Int)≤j∧j<(v.length:Int) then (idxL v j).bind fun y1=>if (0:Int)≤i∧i<(v.length:Int) then (idxL v i).bind fun y2=>if (0:Int)≤i∧i<(v.length:Int) then (idxL v i).bind fun y3=>
    if (0:Int)≤j∧j<((v.set (Int.toNat i) y1).length:Int) then (idxL (v.set (Int.toNat i) y1) j).bind fun y4=>K ((v.set (Int.toNat i) y1).set (Int.toNat j) y2) else none else none else none else none
theorem ZbW {β:Type} {v:List Zb} {i j:Nat} {x y:Zb} (hi:v[i]?=some x) (hj:v[j]?=some y) (K:List Zb→Option β):sw v (i:Int) (j:Int) K=K (swp v i j x y):=by
  have h1:=(List.getElem?_eq_some_iff.1 hi).1
  have h2:=(List.getElem?_eq_some_iff.1 hj).1
  unfold sw
  rw [if_pos ⟨by omega,by omega⟩,Zy,hj]
  simp only [zb_]
  rw [if_pos ⟨by omega,by omega⟩,Zy,hi]
  simp only [zb_]
  rw [if_pos ⟨by omega,by omega⟩,if_pos ⟨by omega,by rw [List.length_set];omega⟩,Zy,Int.toNat_natCast,Int.toNat_natCast]
  have:(v.set i y)[j]?=some ((v.set i y)[j]'(by rw [List.length_set];exact h2)):=List.getElem?_eq_getElem _
  rw [this]
  rfl
theorem ZT {v:List Zb} {i:Nat} (h:i<v.length):∃x,v[i]?=some x:=⟨_,List.getElem?_eq_getElem h⟩
structure Kept (v v':List Zb) (a b:Nat):Prop where
  perm:List.Perm v' v
  out:ZaO v v' a b
theorem Kept.refl (v:List Zb) (a b:Nat):Kept v v a b:=⟨List.Perm.refl _,fun _ _=>rfl⟩
theorem Kept.trans {u v w:List Zb} {a b:Nat} (h:Kept u v a b) (h2:Kept v w a b):Kept u w a b:=⟨h2.perm.trans h.perm,fun p hp=>(h2.out p hp).trans (h.out p hp)⟩
theorem Kept.mono {u v:List Zb} {a b c d:Nat} (h:Kept u v a b) (h1:c≤a) (h2:b≤d):Kept u v c d:=⟨h.perm,fun p hp=>h.out p (by omega)⟩
theorem Kept.len {u v:List Zb} {a b:Nat} (h:Kept u v a b):v.length=u.length:=h.perm.length_eq
theorem Kept.swp {v:List Zb} {i j a b:Nat} {x y:Zb} (hi:v[i]?=some x) (hj:v[j]?=some y) (h1:a≤i) (h2:i<b) (h3:a≤j) (h4:j<b):Kept v (swp v i j x y) a b:=
  ⟨Zeh hi hj,fun p hp=>by rw [Z5 hi hj,if_neg (by omega),if_neg (by omega)]⟩
theorem Zmo:∀(m i j:Nat) (v:List Zb),i≤j+1→j<v.length→v.length≤1073741824→j-i<m→(j=0→i=0)→
    ∃v',ZbN m v (i:Int) (j:Int)=some v'∧Kept v v' i (j+1)
  | 0,i,j,v,_,_,_,hm,_=>by omega
  | m+1,i,j,v,hij,hj,hv,hm,h0=>by
    have e:ZbN (m+1) v (i:Int) (j:Int)=ZdE (ZbN m) v (i:Int) (j:Int):=rfl
    rw [e]
    unfold ZdE
    by_cases h:i<j
    · obtain ⟨x,hx⟩:=ZT (v:=v) (i:=i) (by omega)
      obtain ⟨y,hy⟩:=ZT (v:=v) (i:=j) (by omega)
      rw [dt (by omega)]
      simp only [cond]
      have e2:=ZbW hx hy (fun l=>ZbN m l (w64 ((i:Int)+1)) (w64 ((j:Int)-1)))
      unfold sw at e2
      rw [e2,Zv (by omega) (by omega),Zv (by omega) (by omega),show (j:Int)-1=((j-1:Nat):Int) by omega]
      by_cases h1:i+1≤j-1+1∧(j-1=0→i+1=0)
      · obtain ⟨v',e3,k3⟩:=Zmo m (i+1) (j-1) (swp v i j x y) h1.1 (by rw [ZW];omega) (by rw [ZW];exact hv) (by omega) h1.2
        exact ⟨v',e3,(Kept.swp hx hy (by omega) (by omega) (by omega) (by omega)).trans (k3.mono (by omega) (by omega))⟩
      · obtain ⟨m,rfl⟩:∃q,m=q+1:=⟨m-1,by omega⟩
        refine ⟨swp v i j x y,?_,Kept.swp hx hy (by omega) (by omega) (by omega) (by omega)⟩
        show ZdE (ZbN m) _ _ _=_
        unfold ZdE
        rw [df (by omega)]
        rfl
    · rw [df (by omega)]
      exact ⟨v,rfl,Kept.refl _ _ _⟩
theorem Zrf {k a b:Nat} {v:List Zb} (hk:b-a<k) (hab:a<b) (hb:b≤v.length) (hv:v.length≤1073741824):∃v',F153 k v (a:Int) (b:Int)=some v'∧Kept v v' a b:=by
  unfold F153
  rw [Zv (by omega) (by omega),show (b:Int)-1=((b-1:Nat):Int) by omega]
  obtain ⟨v',e,h⟩:=Zmo k a (b-1) v (by omega) (by omega) hv (by omega) (by omega)
  exact ⟨v',e,by rw [show b-1+1=b by omega] at h;exact h⟩
theorem Zg0 {k i j:Nat} {v:List Zb} {s:Int} (hi:i<v.length) (hj:j<v.length):∃p q s',F191 k v (i:Int) (j:Int) s=some (((p:Nat):Int),((q:Nat):Int),v,s')∧((p=i∧q=j)∨(p=j∧q=i)):=by
  obtain ⟨x,hx⟩:=ZT hi
  obtain ⟨y,hy⟩:=ZT hj
  unfold F191
  rw [if_pos ⟨by omega,by omega⟩,Zy,hy]
  simp only [zb_]
  rw [if_pos ⟨by omega,by omega⟩,Zy,hx]
  simp only [zb_,F104]
  by_cases h:w64 (y.f_Lo-x.f_Lo)<0
  · rw [dt h];exact ⟨j,i,_,rfl,.inr ⟨rfl,rfl⟩⟩
  · rw [df h];exact ⟨i,j,_,rfl,.inl ⟨rfl,rfl⟩⟩
theorem ZkI {k i j l:Nat} {v:List Zb} {s:Int} (hi:i<v.length) (hj:j<v.length) (hl:l<v.length):∃p s',F178 k v (i:Int) (j:Int) (l:Int) s=some (((p:Nat):Int),v,s')∧(p=i∨p=j∨p=l):=by
  unfold F178
  obtain ⟨p1,q1,s1,e1,h1⟩:=Zg0 (k:=k) (s:=s) hi hj
  rw [e1]
  simp only [zb_]
  rw [if_pos trivial]
  have hp1:p1<v.length:=by rcases h1 with ⟨a,b⟩ | ⟨a,b⟩ <;> omega
  have hq1:q1<v.length:=by rcases h1 with ⟨a,b⟩ | ⟨a,b⟩ <;> omega
  obtain ⟨p2,q2,s2,e2,h2⟩:=Zg0 (k:=k) (s:=s1) hq1 hl
  rw [e2]
  simp only [zb_]
  rw [if_pos trivial]
  have hp2:p2<v.length:=by rcases h2 with ⟨a,b⟩ | ⟨a,b⟩ <;> omega
  obtain ⟨p3,q3,s3,e3,h3⟩:=Zg0 (k:=k) (s:=s2) hp1 hp2
  rw [e3]
  simp only [zb_]
  rw [if_pos trivial]
  exact ⟨q3,s3,rfl,by omega⟩
theorem Zez {k i:Nat} {v:List Zb} {s:Int} (h0:0<i) (hi:i+1<v.length) (hv:v.length≤1073741824):∃p s',F177 k v (i:Int) s=some (((p:Nat):Int),v,s')∧i≤p+1∧p≤i+1:=by
  unfold F177
  rw [Zv (by omega) (by omega),Zv (by omega) (by omega),show (i:Int)-1=((i-1:Nat):Int) by omega,show (i:Int)+1=((i+1:Nat):Int) by omega]
  obtain ⟨p,s',e,h⟩:=ZkI (k:=k) (v:=v) (i:=i-1) (j:=i) (l:=i+1) (s:=s) (by omega) (by omega) hi
  rw [e]
  simp only [zb_]
  rw [if_pos trivial]
  exact ⟨p,s',rfl,by omega,by omega⟩
theorem Zqq (v:List Zb) (s:Int) (p:Int):∃h,ZeO v s p=some (p,h,v):=by
  unfold ZeO
  cases s == 0
  · cases s == 12
    · exact ⟨_,rfl⟩
    · exact ⟨_,rfl⟩
  · exact ⟨_,rfl⟩
theorem ZnS (n:Nat):Int.tdiv (n:Int) 4=((n / 4:Nat):Int):=by
  rw [Int.tdiv_eq_ediv_of_nonneg (by omega)];rfl
theorem Zpu {k a b:Nat} {v:List Zb} (hab:a+12<b) (hb:b≤v.length) (hv:v.length≤1073741824):∃p h,F152 k v (a:Int) (b:Int)=some (((p:Nat):Int),h,v)∧a≤p∧p<b:=by
  unfold F152
  rw [if_pos (by decide),if_pos (by decide),if_pos (by decide)]
  have e0:w64 ((b:Int)-(a:Int))=((b-a:Nat):Int):=by rw [Zv (by omega) (by omega)];omega
  rw [e0,ZnS]
  have eq:w64 ((((b-a) / 4:Nat)):Int)=(((b-a) / 4:Nat):Int):=Zv (by omega) (by omega)
  rw [eq]
  have e1:w64 ((a:Int)+w64 ((((b-a) / 4:Nat):Int)*1))=((a+(b-a) / 4:Nat):Int):=by rw [Zv (x:=_*1) (by omega) (by omega),Zv (by omega) (by omega)];omega
  have e2:w64 ((a:Int)+w64 ((((b-a) / 4:Nat):Int)*2))=((a+(b-a) / 4*2:Nat):Int):=by rw [Zv (x:=_*2) (by omega) (by omega),Zv (by omega) (by omega)];omega
  have e3:w64 ((a:Int)+w64 ((((b-a) / 4:Nat):Int)*3))=((a+(b-a) / 4*3:Nat):Int):=by rw [Zv (x:=_*3) (by omega) (by omega),Zv (by omega) (by omega)];omega
  rw [e1,e2,e3,dt (by omega)]
  simp only [cond]
  have fin:∀(s:Int) (i j l:Nat),a≤i→i<b→a≤j→j<b→a≤l→l<b→∃p h,ZeN k v s (i:Int) (j:Int) (l:Int)=some (((p:Nat):Int),h,v)∧a≤p∧p<b:=fun s i j l h1 h2 h3 h4 h5 h6=>by
    unfold ZeN
    obtain ⟨p,s',e,hp⟩:=ZkI (k:=k) (v:=v) (i:=i) (j:=j) (l:=l) (s:=s) (by omega) (by omega) (by omega)
    rw [e]
    simp only [zb_]
    rw [if_pos trivial]
    obtain ⟨h,e4⟩:=Zqq v s' (p:Int)
    exact ⟨p,h,e4,by omega,by omega⟩
  by_cases h50:50≤b-a
  · rw [dt (by omega)]
    simp only
    obtain ⟨p1,s1,f1,g1⟩:=Zez (k:=k) (v:=v) (i:=a+(b-a) / 4) (s:=0) (by omega) (by omega) hv
    rw [f1]
    simp only [zb_]
    rw [if_pos trivial]
    obtain ⟨p2,s2,f2,g2⟩:=Zez (k:=k) (v:=v) (i:=a+(b-a) / 4*2) (s:=s1) (by omega) (by omega) hv
    rw [f2]
    simp only [zb_]
    rw [if_pos trivial]
    obtain ⟨p3,s3,f3,g3⟩:=Zez (k:=k) (v:=v) (i:=a+(b-a) / 4*3) (s:=s2) (by omega) (by omega) hv
    rw [f3]
    simp only [zb_]
    rw [if_pos trivial]
    exact fin s3 p1 p2 p3 (by omega) (by omega) (by omega) (by omega) (by omega) (by omega)
  · rw [df (by omega)]
    exact fin 0 _ _ _ (by omega) (by omega) (by omega) (by omega) (by omega) (by omega)
end Go.Proofs.YthilboheomikjaaGreatDoor
end
section
namespace Go.Proofs.YthilboheomikjaaGreatDoor
open Go.AL Go.Lib
set_option maxRecDepth 100000
theorem Zoq:∀(f x:Nat),x<2 ^ f→x≠0→x<2 ^ Lib.bitLenAux f x∧2 ^ Lib.bitLenAux f x≤2*x
  | 0,x,h,h0=>by simp at h;omega
  | f+1,x,h,h0=>by
    unfold Lib.bitLenAux
    rw [if_neg h0]
    by_cases h2:x / 2=0
    · have:x=1:=by omega
      subst this
      have:Lib.bitLenAux f (1 / 2)=0:=by cases f <;> simp [Lib.bitLenAux]
      rw [this];decide
    · have ih:=Zoq f (x / 2) (by rw [Nat.pow_succ] at h;omega) h2
      rw [show 1+Lib.bitLenAux f (x / 2)=Lib.bitLenAux f (x / 2)+1 by omega,Nat.pow_succ]
      omega
theorem Zpv {k n:Nat} (h0:0<n) (hn:n≤1073741824):∃M:Nat,F160 k (n:Int)=some (M:Int)∧n<M∧M≤2*n:=by
  have hb:=Zoq 64 n (by omega) (by omega)
  have hw:IntKind.wrap .u64 (n:Int)=n:=by simp [IntKind.wrap,IntKind.bits,IntKind.signed];omega
  unfold F160 F112
  rw [hw,if_pos (by omega)]
  simp only [zb_,Int.toNat_natCast]
  rw [if_pos (by omega)]
  have hl:Lib.bitLen n≤64:=by
    have h2:Lib.bitLen n<32:=by
      apply Nat.lt_of_not_le
      intro h
      have:=Nat.pow_le_pow_right (n:=2) (by omega) h
      unfold Lib.bitLen at this
      omega
    omega
  refine ⟨2 ^ Lib.bitLen n,?_,hb.1,hb.2⟩
  rw [Nat.min_eq_left hl]
  congr 1
  have e:(1*2 ^ Lib.bitLen n:Int)=((2 ^ Lib.bitLen n:Nat):Int):=by simp
  rw [e]
  have:2 ^ Lib.bitLen n≤2*n:=hb.2
  generalize 2 ^ Lib.bitLen n=M at this
  simp [IntKind.wrap,IntKind.bits,IntKind.signed];omega
theorem ZqX (x:Int) {m:Nat} (hm:m≤4294967296):∃q:Nat,ZA .and .u64 x (m:Int)=(q:Int)∧q≤m:=by
  refine ⟨(BitVec.ofInt 64 x &&& BitVec.ofInt 64 (m:Int)).toNat,?_,?_⟩
  · unfold ZA
    have h:(BitVec.ofInt 64 x &&& BitVec.ofInt 64 (m:Int)).toNat<2 ^ 64:=BitVec.isLt _
    show IntKind.wrap .u64 (((BitVec.ofInt 64 x &&& BitVec.ofInt 64 (m:Int)).toNat:Nat):Int)=_
    generalize (BitVec.ofInt 64 x &&& BitVec.ofInt 64 (m:Int)).toNat=z at h
    simp [IntKind.wrap,IntKind.bits,IntKind.signed];omega
  · rw [BitVec.toNat_and]
    have:(BitVec.ofInt 64 (m:Int)).toNat=m:=by
      rw [BitVec.toNat_ofInt];omega
    rw [this]
    exact Nat.and_le_right
theorem ZoI (k:Nat) (x:Int):∃y z,F161 k x=some (y,z):=by
  unfold F161
  rw [if_pos (by decide),if_pos (by decide),if_pos (by decide)]
  exact ⟨_,_,rfl⟩
theorem Zjb {k a b M:Nat} (h1:b-a<M) (h2:M≤2*(b-a)) (hab:a+12<b):∀(m i:Nat) (v:List Zb) (x:Int),b≤v.length→v.length≤1073741824→a≤i→i≤a+(b-a) / 4*2+2→a+(b-a) / 4*2+2-i<m→
    ∃v',ZbM k (a:Int) (b:Int) (M:Int) m v x (i:Int)=some v'∧Kept v v' a b
  | 0,i,v,x,_,_,_,_,hm=>by omega
  | m+1,i,v,x,hb,hv,ha,hi,hm=>by
    have e:ZbM k (a:Int) (b:Int) (M:Int) (m+1) v x (i:Int)=Zhs k (ZbM k (a:Int) (b:Int) (M:Int) m) (a:Int) (b:Int) (M:Int) v x (i:Int):=rfl
    rw [e]
    unfold Zhs
    have e0:w64 ((b:Int)-(a:Int))=((b-a:Nat):Int):=by rw [Zv (by omega) (by omega)];omega
    have eq:w64 ((((b-a) / 4:Nat)):Int)=(((b-a) / 4:Nat):Int):=Zv (by omega) (by omega)
    have e2:w64 ((a:Int)+w64 ((((b-a) / 4:Nat):Int)*2))=((a+(b-a) / 4*2:Nat):Int):=by rw [Zv (x:=_*2) (by omega) (by omega),Zv (by omega) (by omega)];omega
    have e3:w64 (((a+(b-a) / 4*2:Nat):Int)+1)=((a+(b-a) / 4*2+1:Nat):Int):=by rw [Zv (by omega) (by omega)];omega
    rw [if_pos (by decide),e0,ZnS,eq,e2,e3]
    by_cases h:i≤a+(b-a) / 4*2+1
    · rw [dt (by omega)]
      simp only [cond]
      obtain ⟨y,z,er⟩:=ZoI k x
      rw [er]
      simp only [zb_]
      have eM:IntKind.wrap .u64 ((M:Int)-1)=((M-1:Nat):Int):=by simp [IntKind.wrap,IntKind.bits,IntKind.signed];omega
      obtain ⟨q,eq2,hq⟩:=ZqX y (m:=M-1) (by omega)
      rw [eM,eq2,Zv (x:=(q:Int)) (by omega) (by omega)]
      have step:∀o:Nat,o<b-a→∃v',ZeM (ZbM k (a:Int) (b:Int) (M:Int) m) (a:Int) v (i:Int) (y,z) (o:Int)=some v'∧Kept v v' a b:=fun o ho=>by
        unfold ZeM
        rw [Zv (x:=(a:Int)+(o:Int)) (by omega) (by omega),show (a:Int)+(o:Int)=((a+o:Nat):Int) by omega]
        obtain ⟨p,hp⟩:=ZT (v:=v) (i:=i) (by omega)
        obtain ⟨r,hr⟩:=ZT (v:=v) (i:=a+o) (by omega)
        have e4:=ZbW hp hr (fun l=>ZbM k (a:Int) (b:Int) (M:Int) m l z (w64 ((i:Int)+1)))
        unfold sw at e4
        simp only
        rw [e4,Zv (by omega) (by omega)]
        obtain ⟨v',e5,k5⟩:=Zjb h1 h2 hab m (i+1) (swp v i (a+o) p r) z (by rw [ZW];exact hb) (by rw [ZW];exact hv) (by omega) (by omega) (by omega)
        exact ⟨v',e5,(Kept.swp hp hr (by omega) (by omega) (by omega) (by omega)).trans k5⟩
      by_cases hqn:b-a≤q
      · rw [dt (by omega)]
        simp only
        rw [Zv (by omega) (by omega),show (q:Int)-((b-a:Nat):Int)=((q-(b-a):Nat):Int) by omega]
        exact step _ (by omega)
      · rw [df (by omega)]
        exact step q (by omega)
    · rw [df (by omega)]
      exact ⟨v,rfl,Kept.refl _ _ _⟩
theorem Zij {c:Nat} (h:1≤c) (h2:c≤4611686018427387904):w64 ((c:Int)-1)=((c-1:Nat):Int):=by rw [Zv (by omega) (by omega)];omega
theorem Zqo {a n:Nat} (h:a≤1073741824) (hn:n≤1073741824):w64 ((a:Int)+w64 (w64 (Int.tdiv (n:Int) 4)*2))=((a+n / 4*2:Nat):Int):=by
  rw [ZnS,Zv (x:=((n / 4:Nat):Int)) (by omega) (by omega),Zv (x:=_*2) (by omega) (by omega),Zv (by omega) (by omega)];omega
theorem Zkk {a b:Nat} (h:a≤b) (hb:b≤1073741824):w64 ((b:Int)-(a:Int))=((b-a:Nat):Int):=by rw [Zv (by omega) (by omega)];omega
theorem ge8 {n:Nat} (h:8≤n):decide ((n:Int)≥8)=true:=dt (by omega)
theorem Zpa {k a b:Nat} {v:List Zb} (hk:5≤k) (hab:a+12<b) (hb:b≤v.length) (hv:v.length≤1073741824):∃v',F151 k v (a:Int) (b:Int)=some v'∧Kept v v' a b:=by
  obtain ⟨M,eM,h1,h2⟩:=Zpv (k:=k) (n:=b-a) (by omega) (by omega)
  have hi:a≤a+(b-a) / 4*2-1:=by omega
  have hi2:a+(b-a) / 4*2-1≤a+(b-a) / 4*2+2:=by omega
  have hi3:a+(b-a) / 4*2+2-(a+(b-a) / 4*2-1)<k:=by omega
  obtain ⟨v',e,h⟩:=Zjb h1 h2 hab k _ v (IntKind.wrap .u64 (((b-a:Nat)):Int)) hb hv hi hi2 hi3
  refine ⟨v',?_,h⟩
  rw [F151,Zkk (by omega) (by omega),ge8 (by omega),zt_,eM,zb_,if_pos (show (4:Int)≠0 by omega),Zqo (by omega) (by omega),Zij (by omega) (by omega)]
  exact e
end Go.Proofs.YthilboheomikjaaGreatDoor
end
section
namespace Go.Proofs.YthilboheomikjaaGreatDoor
open Go.AL Go.Lib
set_option maxRecDepth 100000
def Le (x y:Zb):Prop:=w64 (x.f_Lo-y.f_Lo)<0
instance (x y:Zb):Decidable (Le x y):=by unfold Le;infer_instance
theorem ZpN {k:Nat} {self24:List Zb→Int→Int→Option (Int×Bool×List Zb)} {a j:Nat} {v:List Zb} {z:Zb} (ha:v[a]?=some z) (hj:j<v.length) (hv:v.length≤1073741824) :
    ∀(m i:Nat),i≤j+1→j+1-i<m→∃i',i≤i'∧i'≤j+1∧(∀p x,i≤p→p<i'→v[p]?=some x→Le x z)∧(i'≤j→∀x,v[i']?=some x→¬Le x z)∧
      Zbw k self24 (a:Int) v (j:Int) m (i:Int)=Zbx k self24 (a:Int) v (i':Int) k (j:Int)
  | 0,i,_,hm=>by omega
  | m+1,i,hi,hm=>by
    have e:Zbw k self24 (a:Int) v (j:Int) (m+1) (i:Int)=ZfS k self24 (Zbw k self24 (a:Int) v (j:Int) m) (a:Int) v (j:Int) (i:Int):=rfl
    rw [e]
    unfold ZfS
    have hal:=(List.getElem?_eq_some_iff.1 ha).1
    by_cases h:i≤j
    · obtain ⟨x,hx⟩:=ZT (v:=v) (i:=i) (by omega)
      rw [dt (by omega)]
      simp only [cond]
      rw [if_pos ⟨by omega,by omega⟩,Zy,hx]
      simp only [zb_]
      rw [if_pos ⟨by omega,by omega⟩,Zy,ha]
      simp only [zb_,F104]
      by_cases hl:Le x z
      · obtain ⟨i',h1,h2,h3,h4,h5⟩:=ZpN (k:=k) (self24:=self24) ha hj hv m (i+1) (by omega) (by omega)
        refine ⟨i',by omega,h2,fun p y hp hp2 hy=>?_,h4,?_⟩
        · by_cases e2:p=i
          · subst e2;rw [hx] at hy;obtain rfl:=zj_ hy;exact hl
          · exact h3 p y (by omega) hp2 hy
        · rw [dt (show w64 (x.f_Lo-z.f_Lo)<0 from hl)]
          unfold ZfU
          simp only [cond]
          rw [Zv (by omega) (by omega)]
          exact h5
      · refine ⟨i,Nat.le_refl _,hi,fun p y hp hp2 _=>by omega,fun _ y hy=>by rw [hx] at hy;obtain rfl:=zj_ hy;exact hl,?_⟩
        rw [df (show ¬w64 (x.f_Lo-z.f_Lo)<0 from hl)]
        rfl
    · refine ⟨i,Nat.le_refl _,hi,fun p y hp hp2 _=>by omega,fun h2=>absurd h2 h,?_⟩
      rw [df (by omega)]
      rfl
theorem Zm7 {k:Nat} {self24:List Zb→Int→Int→Option (Int×Bool×List Zb)} {a i:Nat} {v:List Zb} {z:Zb} (ha:v[a]?=some z) (hai:a<i) (hv:v.length≤1073741824) :
    ∀(m j:Nat),i≤j+1→j<v.length→j+1-i<m→∃j',i≤j'+1∧j'≤j∧(∀p x,j'<p→p≤j→v[p]?=some x→¬Le x z)∧(i≤j'→∀x,v[j']?=some x→Le x z)∧
      Zbx k self24 (a:Int) v (i:Int) m (j:Int)=Zca self24 (fun _=>none) (a:Int) v (i:Int) (j':Int) false
  | 0,j,_,_,hm=>by omega
  | m+1,j,hi,hj,hm=>by
    have e:Zbx k self24 (a:Int) v (i:Int) (m+1) (j:Int)=ZfT k self24 (Zbx k self24 (a:Int) v (i:Int) m) (a:Int) v (i:Int) (j:Int):=rfl
    rw [e]
    unfold ZfT
    have hal:=(List.getElem?_eq_some_iff.1 ha).1
    by_cases h:i≤j
    · obtain ⟨x,hx⟩:=ZT (v:=v) (i:=j) (by omega)
      rw [dt (by omega)]
      simp only [cond]
      rw [if_pos ⟨by omega,by omega⟩,Zy,hx]
      simp only [zb_]
      rw [if_pos ⟨by omega,by omega⟩,Zy,ha]
      simp only [zb_,F104]
      by_cases hl:Le x z
      · refine ⟨j,by omega,Nat.le_refl _,fun p y hp hp2 _=>by omega,fun _ y hy=>by rw [hx] at hy;obtain rfl:=zj_ hy;exact hl,?_⟩
        rw [dt (show w64 (x.f_Lo-z.f_Lo)<0 from hl)]
        rfl
      · obtain ⟨j',h1,h2,h3,h4,h5⟩:=Zm7 (k:=k) (self24:=self24) ha hai hv m (j-1) (by omega) (by omega) (by omega)
        refine ⟨j',h1,by omega,fun p y hp hp2 hy=>?_,h4,?_⟩
        · by_cases e2:p=j
          · subst e2;rw [hx] at hy;obtain rfl:=zj_ hy;exact hl
          · exact h3 p y hp (by omega) hy
        · rw [df (show ¬w64 (x.f_Lo-z.f_Lo)<0 from hl)]
          unfold Zca
          simp only [Bool.not_false,cond]
          rw [Zv (by omega) (by omega),show (j:Int)-1=((j-1:Nat):Int) by omega]
          rw [h5]
          unfold Zca
          rfl
    · refine ⟨j,hi,Nat.le_refl _,fun p y hp hp2 _=>by omega,fun h2=>absurd h2 h,?_⟩
      rw [df (by omega)]
      rfl
structure ZgF (v:List Zb) (a b q:Nat) (z:Zb):Prop where
  here:v[q]?=some z
  lo:∀p x,a≤p→p<q→v[p]?=some x→Le x z
  hi:∀p x,q<p→p<b→v[p]?=some x→¬Le x z
theorem ZkQ {k a b:Nat} {z:Zb} (hab:a<b) (hk:b-a<k):∀(m i j:Nat) (v:List Zb),a<i→i≤j+1→j<b→b≤v.length→v.length≤1073741824→j+1-i<m→v[a]?=some z→
    (∀p x,a<p→p<i→v[p]?=some x→Le x z)→(∀p x,j<p→p<b→v[p]?=some x→¬Le x z)→
    ∃(q:Nat) (v':List Zb),ZaH k (a:Int) m v (i:Int) (j:Int)=some ((q:Int),false,v')∧a≤q∧q<b∧Kept v v' a b∧ZgF v' a b q z
  | 0,i,j,v,_,_,_,_,_,hm,_,_,_=>by omega
  | m+1,i,j,v,hai,hij,hjb,hb,hv,hm,hz,hlo,hhi=>by
    have e:ZaH k (a:Int) (m+1) v (i:Int) (j:Int)=Zbw k (ZaH k (a:Int) m) (a:Int) v (j:Int) k (i:Int):=rfl
    rw [e]
    obtain ⟨i',g1,g2,g3,g4,e1⟩:=ZpN (k:=k) (self24:=ZaH k (a:Int) m) hz (j:=j) (by omega) hv k i hij (by omega)
    rw [e1]
    obtain ⟨j',d1,d2,d3,d4,e2⟩:=Zm7 (k:=k) (self24:=ZaH k (a:Int) m) hz (i:=i') (by omega) hv k j g2 (by omega) (by omega)
    rw [e2]
    have lo':∀p x,a<p→p<i'→v[p]?=some x→Le x z:=fun p x h1 h2 hx=>by
      by_cases h:p<i
      · exact hlo p x h1 h hx
      · exact g3 p x (by omega) h2 hx
    have hi':∀p x,j'<p→p<b→v[p]?=some x→¬Le x z:=fun p x h1 h2 hx=>by
      by_cases h:p≤j
      · exact d3 p x h1 h hx
      · exact hhi p x (by omega) h2 hx
    unfold Zca
    simp only [cond]
    by_cases h:j'<i'
    · rw [dt (by omega)]
      simp only
      obtain ⟨y,hy⟩:=ZT (v:=v) (i:=j') (by omega)
      have e3:=ZbW hy hz (fun l=>some ((j':Int),false,l))
      unfold sw at e3
      rw [e3]
      refine ⟨j',_,rfl,by omega,by omega,Kept.swp hy hz (by omega) (by omega) (by omega) (by omega),⟨?_,fun p x h1 h2 hx=>?_,fun p x h1 h2 hx=>?_⟩⟩
      · rw [Z5 hy hz]
        by_cases e4:j'=a
        · rw [if_pos e4];subst e4;rw [hy] at hz;exact hz ▸ rfl
        · rw [if_neg e4,if_pos rfl]
      · rw [Z5 hy hz] at hx
        by_cases e4:p=a
        · rw [if_pos e4] at hx
          obtain rfl:=zj_ hx
          exact lo' j' _ (by omega) (by omega) hy
        · rw [if_neg e4,if_neg (by omega)] at hx
          exact lo' p x (by omega) (by omega) hx
      · rw [Z5 hy hz,if_neg (by omega),if_neg (by omega)] at hx
        exact hi' p x h1 h2 hx
    · rw [df (by omega)]
      simp only
      obtain ⟨x,hx⟩:=ZT (v:=v) (i:=i') (by omega)
      obtain ⟨y,hy⟩:=ZT (v:=v) (i:=j') (by omega)
      have hne:i'≠j':=fun e4=>by
        subst e4
        exact g4 (by omega) x hx (d4 (by omega) x hx)
      have e3:=ZbW hx hy (fun l=>ZaH k (a:Int) m l (w64 ((i':Int)+1)) (w64 ((j':Int)-1)))
      unfold sw at e3
      rw [e3,Zv (by omega) (by omega),Zv (by omega) (by omega),show (j':Int)-1=((j'-1:Nat):Int) by omega]
      obtain ⟨q,v',f1,f2,f3,f4,f5⟩:=ZkQ (z:=z) hab hk m (i'+1) (j'-1) (swp v i' j' x y) (by omega) (by omega) (by omega) (by rw [ZW];exact hb) (by rw [ZW];exact hv) (by omega)
        (by rw [Z5 hx hy,if_neg (by omega),if_neg (by omega)];exact hz)
        (fun p w h1 h2 hw=>by
          rw [Z5 hx hy,if_neg (by omega)] at hw
          by_cases e4:p=i'
          · rw [if_pos e4] at hw;obtain rfl:=zj_ hw;exact d4 (by omega) _ hy
          · rw [if_neg e4] at hw;exact lo' p w h1 (by omega) hw)
        (fun p w h1 h2 hw=>by
          rw [Z5 hx hy] at hw
          by_cases e4:p=j'
          · rw [if_pos e4] at hw;obtain rfl:=zj_ hw;exact g4 (by omega) _ hx
          · rw [if_neg e4,if_neg (by omega)] at hw;exact hi' p w (by omega) h2 hw)
      exact ⟨q,v',f1,f2,f3,(Kept.swp hx hy (by omega) (by omega) (by omega) (by omega)).trans f4,f5⟩
end Go.Proofs.YthilboheomikjaaGreatDoor
end
section
namespace Go.Proofs.YthilboheomikjaaGreatDoor
open Go.AL Go.Lib
set_option maxRecDepth 100000
theorem ZoO {k a b pp:Nat} {v W:List Zb} {x0 y0 z:Zb} (hW:(v.set (Int.toNat (a:Int)) y0).set (Int.toNat (pp:Int)) x0=W) (ha:W[a]?=some z) (hab:a<b) (hb:b≤W.length) (hv:W.length≤1073741824) :
    ∀(m i:Nat),i≤b→b-i<m→∃i',i≤i'∧i'≤b∧(∀p x,i≤p→p<i'→W[p]?=some x→Le x z)∧(i'<b→∀x,W[i']?=some x→¬Le x z)∧
      Zci k v (a:Int) (b:Int) (pp:Int) y0 x0 m (i:Int)=Zbl k v (a:Int) (pp:Int) y0 x0 (i':Int) k ((b-1:Nat):Int)
  | 0,i,_,hm=>by omega
  | m+1,i,hi,hm=>by
    have e:Zci k v (a:Int) (b:Int) (pp:Int) y0 x0 (m+1) (i:Int)=Zht k (Zci k v (a:Int) (b:Int) (pp:Int) y0 x0 m) v (a:Int) (b:Int) (pp:Int) y0 x0 (i:Int):=rfl
    rw [e]
    unfold Zht
    rw [hW]
    have eb:w64 ((b:Int)-1)=((b-1:Nat):Int):=by rw [Zv (by omega) (by omega)];omega
    rw [eb]
    by_cases h:i<b
    · obtain ⟨x,hx⟩:=ZT (v:=W) (i:=i) (by omega)
      rw [dt (by omega)]
      simp only [cond]
      rw [if_pos ⟨by omega,by omega⟩,Zy,hx]
      simp only [zb_]
      rw [if_pos ⟨by omega,by omega⟩,Zy,ha]
      simp only [zb_,F104]
      by_cases hl:Le x z
      · obtain ⟨i',h1,h2,h3,h4,h5⟩:=ZoO (k:=k) hW ha hab hb hv m (i+1) (by omega) (by omega)
        refine ⟨i',by omega,h2,fun p y hp hp2 hy=>?_,h4,?_⟩
        · by_cases e2:p=i
          · subst e2;rw [hx] at hy;obtain rfl:=zj_ hy;exact hl
          · exact h3 p y (by omega) hp2 hy
        · rw [dt (show w64 (x.f_Lo-z.f_Lo)<0 from hl)]
          unfold ZdF
          simp only [cond]
          rw [Zv (by omega) (by omega)]
          exact h5
      · refine ⟨i,Nat.le_refl _,hi,fun p y hp hp2 _=>by omega,fun _ y hy=>by rw [hx] at hy;obtain rfl:=zj_ hy;exact hl,?_⟩
        rw [df (show ¬w64 (x.f_Lo-z.f_Lo)<0 from hl)]
        unfold ZdF
        simp only [cond]
        rw [eb]
    · refine ⟨i,Nat.le_refl _,hi,fun p y hp hp2 _=>by omega,fun h2=>absurd h2 h,?_⟩
      rw [df (by omega)]
      unfold ZdF
      simp only [cond]
      rw [eb]
theorem ZlR {k a i pp:Nat} {v W:List Zb} {x0 y0 z:Zb} (hW:(v.set (Int.toNat (a:Int)) y0).set (Int.toNat (pp:Int)) x0=W) (ha:W[a]?=some z) (hai:a<i) (hv:W.length≤1073741824) :
    ∀(m j:Nat),i≤j+1→j<W.length→j+1-i<m→∃j',i≤j'+1∧j'≤j∧(∀p x,j'<p→p≤j→W[p]?=some x→¬Le x z)∧(i≤j'→∀x,W[j']?=some x→Le x z)∧
      Zbl k v (a:Int) (pp:Int) y0 x0 (i:Int) m (j:Int)=ZdG k (fun _=>none) v (a:Int) (pp:Int) y0 x0 (i:Int) (j':Int) false
  | 0,j,_,_,hm=>by omega
  | m+1,j,hi,hj,hm=>by
    have e:Zbl k v (a:Int) (pp:Int) y0 x0 (i:Int) (m+1) (j:Int)=Zhu k (Zbl k v (a:Int) (pp:Int) y0 x0 (i:Int) m) v (a:Int) (pp:Int) y0 x0 (i:Int) (j:Int):=rfl
    rw [e]
    unfold Zhu
    rw [hW]
    have hal:=(List.getElem?_eq_some_iff.1 ha).1
    by_cases h:i≤j
    · obtain ⟨x,hx⟩:=ZT (v:=W) (i:=j) (by omega)
      rw [dt (by omega)]
      simp only [cond]
      rw [if_pos ⟨by omega,by omega⟩,Zy,hx]
      simp only [zb_]
      rw [if_pos ⟨by omega,by omega⟩,Zy,ha]
      simp only [zb_,F104]
      by_cases hl:Le x z
      · refine ⟨j,by omega,Nat.le_refl _,fun p y hp hp2 _=>by omega,fun _ y hy=>by rw [hx] at hy;obtain rfl:=zj_ hy;exact hl,?_⟩
        rw [dt (show w64 (x.f_Lo-z.f_Lo)<0 from hl)]
        rfl
      · obtain ⟨j',h1,h2,h3,h4,h5⟩:=ZlR (k:=k) hW ha hai hv m (j-1) (by omega) (by omega) (by omega)
        refine ⟨j',h1,by omega,fun p y hp hp2 hy=>?_,h4,?_⟩
        · by_cases e2:p=j
          · subst e2;rw [hx] at hy;obtain rfl:=zj_ hy;exact hl
          · exact h3 p y hp (by omega) hy
        · rw [df (show ¬w64 (x.f_Lo-z.f_Lo)<0 from hl)]
          have e3:ZdG k (Zbl k v (a:Int) (pp:Int) y0 x0 (i:Int) m) v (a:Int) (pp:Int) y0 x0 (i:Int) (j:Int) (!false)=Zbl k v (a:Int) (pp:Int) y0 x0 (i:Int) m (w64 ((j:Int)-1)):=rfl
          rw [e3,Zv (by omega) (by omega),show (j:Int)-1=((j-1:Nat):Int) by omega]
          exact h5
    · refine ⟨j,hi,Nat.le_refl _,fun p y hp hp2 _=>by omega,fun h2=>absurd h2 h,?_⟩
      rw [df (by omega)]
      rfl
theorem Zqx {k a b pp:Nat} {v:List Zb} (hk:b-a+1<k) (hap:a≤pp) (hpb:pp<b) (hb:b≤v.length) (hv:v.length≤1073741824) :
    ∃(q:Nat) (fl:Bool) (v':List Zb) (z:Zb),F156 k v (a:Int) (b:Int) (pp:Int)=some ((q:Int),fl,v')∧a≤q∧q<b∧Kept v v' a b∧ZgF v' a b q z:=by
  obtain ⟨x,hx⟩:=ZT (v:=v) (i:=a) (by omega)
  obtain ⟨y,hy⟩:=ZT (v:=v) (i:=pp) (by omega)
  obtain ⟨W,hWd⟩:∃W,W=swp v a pp x y:=⟨_,rfl⟩
  have hW:(v.set (Int.toNat (a:Int)) y).set (Int.toNat (pp:Int)) x=W:=hWd.symm
  have hz:W[a]?=some y:=by
    rw [hWd,Z5 hx hy]
    by_cases e:a=pp
    · rw [if_pos e];subst e;rw [hx] at hy;exact hy
    · rw [if_neg e,if_pos rfl]
  have hlen:W.length=v.length:=by rw [hWd];exact ZW v a pp x y
  have k0:Kept v W a b:=by rw [hWd];exact Kept.swp hx hy (by omega) (by omega) hap hpb
  unfold F156
  rw [if_pos ⟨by omega,by omega⟩,Zy,hy]
  simp only [zb_]
  rw [if_pos ⟨by omega,by omega⟩,Zy,hx]
  simp only [zb_]
  rw [if_pos ⟨by omega,by omega⟩,if_pos ⟨by omega,by rw [List.length_set];omega⟩,Zy,Int.toNat_natCast]
  have h4:(v.set a y)[pp]?=some ((v.set a y)[pp]'(by rw [List.length_set];omega)):=List.getElem?_eq_getElem _
  rw [h4]
  simp only [zb_]
  rw [Zv (by omega) (by omega)]
  obtain ⟨i',g1,g2,g3,g4,e1⟩:=ZoO (k:=k) hW hz (b:=b) (by omega) (by omega) (by omega) k (a+1) (by omega) (by omega)
  have e1':Zci k v (a:Int) (b:Int) (pp:Int) y x k ((a:Int)+1)=_:=e1
  rw [e1']
  obtain ⟨j',d1,d2,d3,d4,e2⟩:=ZlR (k:=k) hW hz (i:=i') (by omega) (by omega) k (b-1) (by omega) (by omega) (by omega)
  rw [e2]
  unfold ZdG
  rw [hW]
  have lo':∀p w,a<p→p<i'→W[p]?=some w→Le w y:=fun p w h1 h2 hw=>g3 p w (by omega) h2 hw
  have hi':∀p w,j'<p→p<b→W[p]?=some w→¬Le w y:=fun p w h1 h2 hw=>d3 p w h1 (by omega) hw
  simp only [cond]
  by_cases h:j'<i'
  · rw [dt (by omega)]
    simp only
    obtain ⟨u,hu⟩:=ZT (v:=W) (i:=j') (by omega)
    have e3:=ZbW hu hz (fun l=>some ((j':Int),true,l))
    unfold sw at e3
    rw [e3]
    refine ⟨j',true,_,y,rfl,by omega,by omega,k0.trans (Kept.swp hu hz (by omega) (by omega) (by omega) (by omega)),⟨?_,fun p w h1 h2 hw=>?_,fun p w h1 h2 hw=>?_⟩⟩
    · rw [Z5 hu hz]
      by_cases e4:j'=a
      · rw [if_pos e4];subst e4;rw [hu] at hz;exact hz
      · rw [if_neg e4,if_pos rfl]
    · rw [Z5 hu hz] at hw
      by_cases e4:p=a
      · rw [if_pos e4] at hw
        obtain rfl:=zj_ hw
        exact lo' j' _ (by omega) (by omega) hu
      · rw [if_neg e4,if_neg (by omega)] at hw
        exact lo' p w (by omega) (by omega) hw
    · rw [Z5 hu hz,if_neg (by omega),if_neg (by omega)] at hw
      exact hi' p w h1 h2 hw
  · rw [df (by omega)]
    simp only
    obtain ⟨u,hu⟩:=ZT (v:=W) (i:=i') (by omega)
    obtain ⟨w,hw⟩:=ZT (v:=W) (i:=j') (by omega)
    have hne:i'≠j':=fun e4=>by
      subst e4
      exact g4 (by omega) u hu (d4 (by omega) u hu)
    have e3:=ZbW hu hw (fun l=>ZaH k (a:Int) k l (w64 ((i':Int)+1)) (w64 ((j':Int)-1)))
    unfold sw at e3
    rw [e3,Zv (by omega) (by omega),Zv (by omega) (by omega),show (j':Int)-1=((j'-1:Nat):Int) by omega]
    obtain ⟨q,v',f1,f2,f3,f4,f5⟩:=ZkQ (k:=k) (z:=y) (a:=a) (b:=b) (by omega) (by omega) k (i'+1) (j'-1) (swp W i' j' u w) (by omega) (by omega) (by omega) (by rw [ZW];omega) (by rw [ZW];omega) (by omega)
      (by rw [Z5 hu hw,if_neg (by omega),if_neg (by omega)];exact hz)
      (fun p t h1 h2 ht=>by
        rw [Z5 hu hw,if_neg (by omega)] at ht
        by_cases e4:p=i'
        · rw [if_pos e4] at ht;obtain rfl:=zj_ ht;exact d4 (by omega) _ hw
        · rw [if_neg e4] at ht;exact lo' p t h1 (by omega) ht)
      (fun p t h1 h2 ht=>by
        rw [Z5 hu hw] at ht
        by_cases e4:p=j'
        · rw [if_pos e4] at ht;obtain rfl:=zj_ ht;exact g4 (by omega) _ hu
        · rw [if_neg e4,if_neg (by omega)] at ht;exact hi' p t (by omega) h2 ht)
    exact ⟨q,false,v',y,f1,f2,f3,(k0.trans (Kept.swp hu hw (by omega) (by omega) (by omega) (by omega))).trans f4,f5⟩
end Go.Proofs.YthilboheomikjaaGreatDoor
end
section
namespace Go.Proofs.YthilboheomikjaaGreatDoor
open Go.AL Go.Lib
set_option maxRecDepth 100000
theorem ZoP {k:Nat} {self16:List Zb→Int→Int→Option (Int×List Zb)} {a j:Nat} {v:List Zb} {z:Zb} (ha:v[a]?=some z) (hj:j<v.length) (hv:v.length≤1073741824) :
    ∀(m i:Nat),i≤j+1→j+1-i<m→∃i',i≤i'∧i'≤j+1∧(∀p x,i≤p→p<i'→v[p]?=some x→¬Le z x)∧(i'≤j→∀x,v[i']?=some x→Le z x)∧
      Zbv k self16 (a:Int) v (j:Int) m (i:Int)=ZaW k self16 (a:Int) v (i':Int) k (j:Int)
  | 0,i,_,hm=>by omega
  | m+1,i,hi,hm=>by
    have e:Zbv k self16 (a:Int) v (j:Int) (m+1) (i:Int)=ZfP k self16 (Zbv k self16 (a:Int) v (j:Int) m) (a:Int) v (j:Int) (i:Int):=rfl
    rw [e]
    unfold ZfP
    have hal:=(List.getElem?_eq_some_iff.1 ha).1
    by_cases h:i≤j
    · obtain ⟨x,hx⟩:=ZT (v:=v) (i:=i) (by omega)
      rw [dt (by omega)]
      simp only [cond]
      rw [if_pos ⟨by omega,by omega⟩,Zy,ha]
      simp only [zb_]
      rw [if_pos ⟨by omega,by omega⟩,Zy,hx]
      simp only [zb_,F104]
      by_cases hl:Le z x
      · refine ⟨i,Nat.le_refl _,hi,fun p y hp hp2 _=>by omega,fun _ y hy=>by rw [hx] at hy;obtain rfl:=zj_ hy;exact hl,?_⟩
        rw [dt (show w64 (z.f_Lo-x.f_Lo)<0 from hl)]
        rfl
      · obtain ⟨i',h1,h2,h3,h4,h5⟩:=ZoP (k:=k) (self16:=self16) ha hj hv m (i+1) (by omega) (by omega)
        refine ⟨i',by omega,h2,fun p y hp hp2 hy=>?_,h4,?_⟩
        · by_cases e2:p=i
          · subst e2;rw [hx] at hy;obtain rfl:=zj_ hy;exact hl
          · exact h3 p y (by omega) hp2 hy
        · rw [df (show ¬w64 (z.f_Lo-x.f_Lo)<0 from hl)]
          unfold ZfR
          simp only [Bool.not_false,cond]
          rw [Zv (by omega) (by omega)]
          exact h5
    · refine ⟨i,Nat.le_refl _,hi,fun p y hp hp2 _=>by omega,fun h2=>absurd h2 h,?_⟩
      rw [df (by omega)]
      rfl
theorem ZlS {k:Nat} {self16:List Zb→Int→Int→Option (Int×List Zb)} {a i:Nat} {v:List Zb} {z:Zb} (ha:v[a]?=some z) (hai:a<i) (hv:v.length≤1073741824) :
    ∀(m j:Nat),i≤j+1→j<v.length→j+1-i<m→∃j',i≤j'+1∧j'≤j∧(∀p x,j'<p→p≤j→v[p]?=some x→Le z x)∧(i≤j'→∀x,v[j']?=some x→¬Le z x)∧
      ZaW k self16 (a:Int) v (i:Int) m (j:Int)=ZcN self16 (fun _=>none) v (i:Int) (j':Int) false
  | 0,j,_,_,hm=>by omega
  | m+1,j,hi,hj,hm=>by
    have e:ZaW k self16 (a:Int) v (i:Int) (m+1) (j:Int)=ZfQ k self16 (ZaW k self16 (a:Int) v (i:Int) m) (a:Int) v (i:Int) (j:Int):=rfl
    rw [e]
    unfold ZfQ
    have hal:=(List.getElem?_eq_some_iff.1 ha).1
    by_cases h:i≤j
    · obtain ⟨x,hx⟩:=ZT (v:=v) (i:=j) (by omega)
      rw [dt (by omega)]
      simp only [cond]
      rw [if_pos ⟨by omega,by omega⟩,Zy,ha]
      simp only [zb_]
      rw [if_pos ⟨by omega,by omega⟩,Zy,hx]
      simp only [zb_,F104]
      by_cases hl:Le z x
      · obtain ⟨j',h1,h2,h3,h4,h5⟩:=ZlS (k:=k) (self16:=self16) ha hai hv m (j-1) (by omega) (by omega) (by omega)
        refine ⟨j',h1,by omega,fun p y hp hp2 hy=>?_,h4,?_⟩
        · by_cases e2:p=j
          · subst e2;rw [hx] at hy;obtain rfl:=zj_ hy;exact hl
          · exact h3 p y hp (by omega) hy
        · rw [dt (show w64 (z.f_Lo-x.f_Lo)<0 from hl)]
          have e3:ZcN self16 (ZaW k self16 (a:Int) v (i:Int) m) v (i:Int) (j:Int) true=ZaW k self16 (a:Int) v (i:Int) m (w64 ((j:Int)-1)):=rfl
          rw [e3,Zv (by omega) (by omega),show (j:Int)-1=((j-1:Nat):Int) by omega]
          exact h5
      · refine ⟨j,by omega,Nat.le_refl _,fun p y hp hp2 _=>by omega,fun _ y hy=>by rw [hx] at hy;obtain rfl:=zj_ hy;exact hl,?_⟩
        rw [df (show ¬w64 (z.f_Lo-x.f_Lo)<0 from hl)]
        rfl
    · refine ⟨j,hi,Nat.le_refl _,fun p y hp hp2 _=>by omega,fun h2=>absurd h2 h,?_⟩
      rw [df (by omega)]
      rfl
structure ZjZ (v:List Zb) (a b q:Nat) (z:Zb):Prop where
  lo:∀p x,a≤p→p<q→v[p]?=some x→¬Le z x
  hi:∀p x,q≤p→p<b→v[p]?=some x→Le z x
theorem Le.irr (z:Zb):¬Le z z:=by unfold Le;rw [Int.sub_self,Zv (by omega) (by omega)];omega
theorem Zjv {k a b:Nat} {z:Zb} (hab:a<b) (hk:b-a<k):∀(m i j:Nat) (v:List Zb),a<i→i≤j+1→j<b→b≤v.length→v.length≤1073741824→j+1-i<m→v[a]?=some z→
    (∀p x,a<p→p<i→v[p]?=some x→¬Le z x)→(∀p x,j<p→p<b→v[p]?=some x→Le z x)→
    ∃(q:Nat) (v':List Zb),ZaG k (a:Int) m v (i:Int) (j:Int)=some ((q:Int),v')∧a<q∧q≤b∧Kept v v' a b∧ZjZ v' a b q z
  | 0,i,j,v,_,_,_,_,_,hm,_,_,_=>by omega
  | m+1,i,j,v,hai,hij,hjb,hb,hv,hm,hz,hlo,hhi=>by
    have e:ZaG k (a:Int) (m+1) v (i:Int) (j:Int)=Zbv k (ZaG k (a:Int) m) (a:Int) v (j:Int) k (i:Int):=rfl
    rw [e]
    obtain ⟨i',g1,g2,g3,g4,e1⟩:=ZoP (k:=k) (self16:=ZaG k (a:Int) m) hz (j:=j) (by omega) hv k i hij (by omega)
    rw [e1]
    obtain ⟨j',d1,d2,d3,d4,e2⟩:=ZlS (k:=k) (self16:=ZaG k (a:Int) m) hz (i:=i') (by omega) hv k j g2 (by omega) (by omega)
    rw [e2]
    have lo':∀p x,a≤p→p<i'→v[p]?=some x→¬Le z x:=fun p x h1 h2 hx=>by
      by_cases e0:p=a
      · subst e0;rw [hz] at hx;obtain rfl:=zj_ hx;exact Le.irr _
      · by_cases h:p<i
        · exact hlo p x (by omega) h hx
        · exact g3 p x (by omega) h2 hx
    have hi':∀p x,j'<p→p<b→v[p]?=some x→Le z x:=fun p x h1 h2 hx=>by
      by_cases h:p≤j
      · exact d3 p x h1 h hx
      · exact hhi p x (by omega) h2 hx
    unfold ZcN
    simp only [cond]
    by_cases h:j'<i'
    · rw [dt (by omega)]
      exact ⟨i',v,rfl,by omega,by omega,Kept.refl _ _ _,⟨lo',fun p x h1 h2 hx=>hi' p x (by omega) h2 hx⟩⟩
    · rw [df (by omega)]
      simp only
      obtain ⟨x,hx⟩:=ZT (v:=v) (i:=i') (by omega)
      obtain ⟨y,hy⟩:=ZT (v:=v) (i:=j') (by omega)
      have hne:i'≠j':=fun e4=>by
        subst e4
        exact d4 (by omega) x hx (g4 (by omega) x hx)
      have e3:=ZbW hx hy (fun l=>ZaG k (a:Int) m l (w64 ((i':Int)+1)) (w64 ((j':Int)-1)))
      unfold sw at e3
      rw [e3,Zv (by omega) (by omega),Zv (by omega) (by omega),show (j':Int)-1=((j'-1:Nat):Int) by omega]
      obtain ⟨q,v',f1,f2,f3,f4,f5⟩:=Zjv (z:=z) hab hk m (i'+1) (j'-1) (swp v i' j' x y) (by omega) (by omega) (by omega) (by rw [ZW];exact hb) (by rw [ZW];exact hv) (by omega)
        (by rw [Z5 hx hy,if_neg (by omega),if_neg (by omega)];exact hz)
        (fun p w h1 h2 hw=>by
          rw [Z5 hx hy,if_neg (by omega)] at hw
          by_cases e4:p=i'
          · rw [if_pos e4] at hw;obtain rfl:=zj_ hw;exact d4 (by omega) _ hy
          · rw [if_neg e4] at hw;exact lo' p w (by omega) (by omega) hw)
        (fun p w h1 h2 hw=>by
          rw [Z5 hx hy] at hw
          by_cases e4:p=j'
          · rw [if_pos e4] at hw;obtain rfl:=zj_ hw;exact g4 (by omega) _ hx
          · rw [if_neg e4,if_neg (by omega)] at hw;exact hi' p w (by omega) h2 hw)
      exact ⟨q,v',f1,f2,f3,(Kept.swp hx hy (by omega) (by omega) (by omega) (by omega)).trans f4,f5⟩
theorem Zps {k a b pp:Nat} {v:List Zb} {z:Zb} (hk:b-a+1<k) (hap:a≤pp) (hpb:pp<b) (hb:b≤v.length) (hv:v.length≤1073741824) (hy:v[pp]?=some z) :
    ∃(q:Nat) (v':List Zb),F155 k v (a:Int) (b:Int) (pp:Int)=some ((q:Int),v')∧a<q∧q≤b∧Kept v v' a b∧ZjZ v' a b q z:=by
  obtain ⟨x,hx⟩:=ZT (v:=v) (i:=a) (by omega)
  have hz:(swp v a pp x z)[a]?=some z:=by
    rw [Z5 hx hy]
    by_cases e:a=pp
    · rw [if_pos e];subst e;rw [hx] at hy;exact hy
    · rw [if_neg e,if_pos rfl]
  have e3:=ZbW hx hy (fun l=>ZaG k (a:Int) k l (w64 ((a:Int)+1)) (w64 ((b:Int)-1)))
  unfold sw at e3
  unfold F155
  rw [e3,Zv (by omega) (by omega),Zv (by omega) (by omega),show (b:Int)-1=((b-1:Nat):Int) by omega]
  obtain ⟨q,v',f1,f2,f3,f4,f5⟩:=Zjv (k:=k) (z:=z) (a:=a) (b:=b) (by omega) (by omega) k (a+1) (b-1) (swp v a pp x z) (by omega) (by omega) (by omega) (by rw [ZW];exact hb) (by rw [ZW];exact hv) (by omega) hz
    (fun p w h1 h2 _=>by omega) (fun p w h1 h2 _=>by omega)
  exact ⟨q,v',f1,f2,f3,(Kept.swp hx hy (by omega) (by omega) hap hpb).trans f4,f5⟩
end Go.Proofs.YthilboheomikjaaGreatDoor
end
section
namespace Go.Proofs.YthilboheomikjaaGreatDoor
open Go.AL Go.Lib
set_option maxRecDepth 100000
def Bnd (v:List Zb) (a b:Nat):Prop:=∀p x y,0<a→v[a-1]?=some x→a≤p→p<b→v[p]?=some y→x.f_Lo≤y.f_Lo
theorem Zdl {v:List Zb} {p q:Nat} {x y:Zb} (h:Small v) (hx:v[p]?=some x) (hy:v[q]?=some y):Le x y↔x.f_Lo<y.f_Lo:=by
  have:=Zfx (h.at hx) (h.at hy)
  unfold Le;rw [this];omega
theorem Kept.mem {v v':List Zb} {a b:Nat} (h:Kept v v' a b) (hb:b≤v.length) {p:Nat} {y:Zb} (hp:a≤p) (hp2:p<b) (hy:v'[p]?=some y):∃q,a≤q∧q<b∧v[q]?=some y:=by
  by_cases hab:a≤b
  · have e1:v=v.take a ++ ((v.drop a).take (b-a) ++ v.drop b):=by
      have:v.drop b=(v.drop a).drop (b-a):=by rw [List.drop_drop];congr 1;omega
      rw [this,List.take_append_drop,List.take_append_drop]
    have e2:v'=v'.take a ++ ((v'.drop a).take (b-a) ++ v'.drop b):=by
      have:v'.drop b=(v'.drop a).drop (b-a):=by rw [List.drop_drop];congr 1;omega
      rw [this,List.take_append_drop,List.take_append_drop]
    have h1:v'.take a=v.take a:=by
      apply List.ext_getElem?;intro i
      rw [List.getElem?_take,List.getElem?_take]
      split
      · exact h.out i (by omega)
      · rfl
    have h2:v'.drop b=v.drop b:=by
      apply List.ext_getElem?;intro i
      rw [List.getElem?_drop,List.getElem?_drop]
      exact h.out (b+i) (by omega)
    have hp':=h.perm
    rw [e1,e2,h1,h2] at hp'
    have hp3:=(List.perm_append_right_iff _).1 ((List.perm_append_left_iff _).1 hp')
    have hy2:y∈(v'.drop a).take (b-a):=by
      apply List.mem_of_getElem? (i:=p-a)
      rw [List.getElem?_take,if_pos (by omega),List.getElem?_drop,show a+(p-a)=p by omega];exact hy
    obtain ⟨i,hi⟩:=List.getElem?_of_mem (hp3.mem_iff.1 hy2)
    rw [List.getElem?_take] at hi
    split at hi
    · rw [List.getElem?_drop] at hi
      exact ⟨a+i,by omega,by omega,hi⟩
    · cases hi
  · omega
theorem Bnd.kept {v v':List Zb} {a b c d:Nat} (h:Bnd v a b) (k:Kept v v' c d) (hc:a≤c) (hd:d≤b) (hb:b≤v.length):Bnd v' a b:=fun p x y h0 hx hp hp2 hy=>by
  rw [k.out (a-1) (by omega)] at hx
  obtain ⟨q,q1,q2,hq⟩:=(k.mono hc hd).mem hb hp hp2 hy
  exact h q x y h0 hx q1 q2 hq
theorem Zmx {k:Nat} {self16:List Zb→Int→Int→Option (Bool×List Zb)} {b n i:Nat}:∀(m j:Nat) (v:List Zb),i<j→j≤b→b≤v.length→v.length≤1073741824→b-j<m→
    ∃v',Za9 k self16 (b:Int) (n:Int) (i:Int) m v (j:Int)=Zb9 self16 (n:Int) v' (i:Int)∧Kept v v' i b
  | 0,j,v,_,_,_,_,hm=>by omega
  | m+1,j,v,hi,hj,hb,hv,hm=>by
    have e:Za9 k self16 (b:Int) (n:Int) (i:Int) (m+1) v (j:Int)=ZfO k self16 (Za9 k self16 (b:Int) (n:Int) (i:Int) m) (b:Int) (n:Int) (i:Int) v (j:Int):=rfl
    rw [e]
    unfold ZfO
    by_cases h:j<b
    · obtain ⟨x,hx⟩:=ZT (v:=v) (i:=j) (by omega)
      obtain ⟨y,hy⟩:=ZT (v:=v) (i:=j-1) (by omega)
      have ew:w64 ((j:Int)-1)=((j-1:Nat):Int):=by rw [Zv (by omega) (by omega)];omega
      have e3:=ZbW hx hy (fun l=>Za9 k self16 (b:Int) (n:Int) (i:Int) m l (w64 ((j:Int)+1)))
      unfold sw at e3
      rw [dt (by omega),ew]
      simp only [cond]
      rw [e3,if_pos ⟨by omega,by omega⟩,Zy,hx]
      simp only [zb_]
      rw [if_pos ⟨by omega,by omega⟩,Zy,hy]
      simp only [zb_,F104]
      by_cases hl:w64 (x.f_Lo-y.f_Lo)<0
      · rw [dt hl]
        simp only [Bool.not_true]
        rw [Zv (by omega) (by omega)]
        obtain ⟨v',e4,k4⟩:=Zmx (k:=k) (self16:=self16) (b:=b) (n:=n) (i:=i) m (j+1) (swp v j (j-1) x y) (by omega) (by omega) (by rw [ZW];exact hb) (by rw [ZW];exact hv) (by omega)
        exact ⟨v',e4,(Kept.swp hx hy (by omega) (by omega) (by omega) (by omega)).trans k4⟩
      · rw [df hl]
        exact ⟨v,rfl,Kept.refl _ _ _⟩
    · rw [df (by omega)]
      exact ⟨v,rfl,Kept.refl _ _ _⟩
theorem ZjJ {k:Nat} {self16:List Zb→Int→Int→Option (Bool×List Zb)} {a b n i:Nat} (hai:a<i) (hib:i≤b):∀(m j:Nat) (v:List Zb),j<i→b≤v.length→v.length≤1073741824→j<m→
    ∃v',Za8 k self16 (b:Int) (n:Int) (i:Int) m v (j:Int)=Za6 k self16 (b:Int) (n:Int) (i:Int) v'∧List.Perm v' v∧
      (Small v→Bnd v a b→a≤j→(∀p q x y,a≤p→p<q→q<i→q≠j→v[p]?=some x→v[q]?=some y→x.f_Lo≤y.f_Lo)→ZaO v v' a i∧ZP v' a i)
  | 0,j,v,_,_,_,hm=>by omega
  | m+1,j,v,hj,hb,hv,hm=>by
    have e:Za8 k self16 (b:Int) (n:Int) (i:Int) (m+1) v (j:Int)=ZfN k self16 (Za8 k self16 (b:Int) (n:Int) (i:Int) m) (b:Int) (n:Int) (i:Int) v (j:Int):=rfl
    rw [e]
    unfold ZfN
    by_cases h:1≤j
    · obtain ⟨x,hx⟩:=ZT (v:=v) (i:=j) (by omega)
      obtain ⟨y,hy⟩:=ZT (v:=v) (i:=j-1) (by omega)
      have ew:w64 ((j:Int)-1)=((j-1:Nat):Int):=by rw [Zv (by omega) (by omega)];omega
      have e3:=ZbW hx hy (fun l=>Za8 k self16 (b:Int) (n:Int) (i:Int) m l ((j-1:Nat):Int))
      unfold sw at e3
      rw [dt (by omega),ew]
      simp only [cond]
      rw [e3,if_pos ⟨by omega,by omega⟩,Zy,hx]
      simp only [zb_]
      rw [if_pos ⟨by omega,by omega⟩,Zy,hy]
      simp only [zb_,F104]
      by_cases hl:w64 (x.f_Lo-y.f_Lo)<0
      · rw [dt hl]
        simp only [Bool.not_true]
        obtain ⟨v',e4,p4,c4⟩:=ZjJ (k:=k) (self16:=self16) (a:=a) (b:=b) (n:=n) hai hib m (j-1) (swp v j (j-1) x y) (by omega) (by rw [ZW];exact hb) (by rw [ZW];exact hv) (by omega)
        refine ⟨v',e4,p4.trans (Zeh hx hy),fun hs hbd haj hso=>?_⟩
        have hxy:=(Zdl hs hx hy).1 hl
        have hja:a<j:=by
          apply Nat.lt_of_not_le
          intro hle
          have:j=a:=by omega
          subst this
          have:=hbd j y x (by omega) hy (Nat.le_refl _) (by omega) hx
          omega
        have hget:=Z5 hx hy
        have kk:Kept v (swp v j (j-1) x y) a i:=Kept.swp hx hy (by omega) (by omega) (by omega) (by omega)
        obtain ⟨o4,s4⟩:=c4 (hs.perm (Zeh hx hy)) (hbd.kept kk (Nat.le_refl _) hib hb) (by omega) (fun p q x1 y1 hap hpq hqi hqj h1 h2=>by
          rw [hget] at h1 h2
          rw [if_neg hqj] at h2
          by_cases e5:p=j-1
          · rw [if_pos e5] at h1
            obtain rfl:=zj_ h1
            by_cases e6:q=j
            · rw [if_pos e6] at h2
              obtain rfl:=zj_ h2
              omega
            · rw [if_neg e6] at h2
              have:=hso (j-1) q y y1 (by omega) (by omega) hqi (by omega) hy h2
              omega
          · rw [if_neg e5] at h1
            by_cases e6:p=j
            · rw [if_pos e6] at h1
              obtain rfl:=zj_ h1
              rw [if_neg (by omega)] at h2
              exact hso (j-1) q _ _ (by omega) (by omega) hqi (by omega) hy h2
            · rw [if_neg e6] at h1
              by_cases e7:q=j
              · rw [if_pos e7] at h2
                obtain rfl:=zj_ h2
                exact hso p (j-1) _ _ hap (by omega) (by omega) (by omega) h1 hy
              · rw [if_neg e7] at h2
                exact hso p q _ _ hap hpq hqi e7 h1 h2)
        exact ⟨fun p hp=>(o4 p hp).trans (kk.out p hp),s4⟩
      · rw [df hl]
        refine ⟨v,rfl,List.Perm.refl _,fun hs hbd haj hso=>⟨fun _ _=>rfl,fun p q x1 y1 hap hpq hqi h1 h2=>?_⟩⟩
        have hyx:y.f_Lo≤x.f_Lo:=by
          have:=Zdl hs hx hy
          unfold Le at this
          omega
        by_cases e5:q=j
        · subst e5
          rw [hx] at h2
          obtain rfl:=zj_ h2
          by_cases e6:p=q-1
          · subst e6
            rw [hy] at h1
            obtain rfl:=zj_ h1
            exact hyx
          · have:=hso p (q-1) _ _ hap (by omega) (by omega) (by omega) h1 hy
            omega
        · exact hso p q _ _ hap hpq hqi e5 h1 h2
    · rw [df (by omega)]
      refine ⟨v,rfl,List.Perm.refl _,fun hs hbd haj hso=>⟨fun _ _=>rfl,fun p q x1 y1 hap hpq hqi h1 h2=>hso p q _ _ hap hpq hqi (by omega) h1 h2⟩⟩
end Go.Proofs.YthilboheomikjaaGreatDoor
end
section
namespace Go.Proofs.YthilboheomikjaaGreatDoor
open Go.AL Go.Lib
set_option maxRecDepth 100000
theorem ZX {a b:Int} (h:a=b):(a == b)=true:=by simpa using h
theorem ZE {a b:Int} (h:a≠b):(a == b)=false:=by simpa using h
theorem Znp {k:Nat} {self16:List Zb→Int→Int→Option (Bool×List Zb)} {a b n:Nat} {v:List Zb} (hb:b≤v.length) (hv:v.length≤1073741824) :
    ∀(m i:Nat),a<i→i≤b→b-i<m→∃i',i≤i'∧i'≤b∧(Small v→ZP v a i→ZP v a i')∧
      Za7 k self16 (a:Int) (b:Int) v (n:Int) m (i:Int)=ZcM k self16 (fun _=>none) (a:Int) (b:Int) v (n:Int) (i':Int) false
  | 0,i,_,_,hm=>by omega
  | m+1,i,ha,hi,hm=>by
    have e:Za7 k self16 (a:Int) (b:Int) v (n:Int) (m+1) (i:Int)=ZfM k self16 (Za7 k self16 (a:Int) (b:Int) v (n:Int) m) (a:Int) (b:Int) v (n:Int) (i:Int):=rfl
    rw [e]
    unfold ZfM
    by_cases h:i<b
    · obtain ⟨x,hx⟩:=ZT (v:=v) (i:=i) (by omega)
      obtain ⟨y,hy⟩:=ZT (v:=v) (i:=i-1) (by omega)
      have ew:w64 ((i:Int)-1)=((i-1:Nat):Int):=by rw [Zv (by omega) (by omega)];omega
      rw [dt (by omega),ew]
      simp only [cond]
      rw [if_pos ⟨by omega,by omega⟩,Zy,hx]
      simp only [zb_]
      rw [if_pos ⟨by omega,by omega⟩,Zy,hy]
      simp only [zb_,F104]
      by_cases hl:w64 (x.f_Lo-y.f_Lo)<0
      · rw [dt hl]
        exact ⟨i,Nat.le_refl _,hi,fun _ h=>h,rfl⟩
      · rw [df hl]
        obtain ⟨i',h1,h2,h3,h4⟩:=Znp (k:=k) (self16:=self16) (a:=a) (b:=b) (n:=n) hb hv m (i+1) (by omega) (by omega) (by omega)
        refine ⟨i',by omega,h2,fun hs hso=>h3 hs fun p q x1 y1 hap hpq hqi hp hq=>?_,?_⟩
        · have hyx:y.f_Lo≤x.f_Lo:=by
            have:=Zdl hs hx hy
            unfold Le at this
            omega
          by_cases e5:q=i
          · subst e5
            rw [hx] at hq
            obtain rfl:=zj_ hq
            by_cases e6:p=q-1
            · subst e6
              rw [hy] at hp
              obtain rfl:=zj_ hp
              exact hyx
            · have:=hso p (q-1) _ _ hap (by omega) (by omega) hp hy
              omega
          · exact hso p q _ _ hap hpq (by omega) hp hq
        · have e3:ZcM k self16 (Za7 k self16 (a:Int) (b:Int) v (n:Int) m) (a:Int) (b:Int) v (n:Int) (i:Int) (!false)=Za7 k self16 (a:Int) (b:Int) v (n:Int) m (w64 ((i:Int)+1)):=rfl
          rw [e3,Zv (by omega) (by omega)]
          exact h4
    · rw [df (by omega)]
      exact ⟨i,Nat.le_refl _,hi,fun _ h=>h,rfl⟩
theorem Zo5 {k:Nat} {self16:List Zb→Int→Int→Option (Bool×List Zb)} {b n i:Nat} {v:List Zb} (hib:i<b) (hb:b≤v.length) (hv:v.length≤1073741824) (hk:v.length<k) (hn:n≤5) :
    ∃v',Za6 k self16 (b:Int) (n:Int) (i:Int) v=self16 v' (i:Int) ((n+1:Nat):Int)∧Kept v v' i b:=by
  unfold Za6
  have e0:w64 ((b:Int)-(i:Int))=((b-i:Nat):Int):=by rw [Zv (by omega) (by omega)];omega
  have en:∀l,Zb9 self16 (n:Int) l (i:Int)=self16 l (i:Int) ((n+1:Nat):Int):=fun l=>by
    unfold Zb9
    rw [Zv (by omega) (by omega)];rfl
  rw [e0]
  by_cases h:2≤b-i
  · rw [dt (by omega)]
    simp only [cond]
    obtain ⟨v',e1,k1⟩:=Zmx (k:=k) (self16:=self16) (b:=b) (n:=n) (i:=i) k (i+1) v (by omega) (by omega) hb hv (by omega)
    rw [Zv (by omega) (by omega)]
    exact ⟨v',(show Za9 k self16 (b:Int) (n:Int) (i:Int) k v ((i:Int)+1)=_ from e1).trans (en v'),k1⟩
  · rw [df (by omega)]
    exact ⟨v,en v,Kept.refl _ _ _⟩
theorem Zk0 {k a b:Nat} (hab:a<b):∀(m n i:Nat) (v:List Zb),n≤5→5-n<m→a<i→i≤b→b≤v.length→v.length≤1073741824→v.length<k→
    ∃fl v',Zak k (a:Int) (b:Int) m v (i:Int) (n:Int)=some (fl,v')∧List.Perm v' v∧(Small v→Bnd v a b→ZP v a i→ZaO v v' a b∧(fl=true→ZP v' a b))
  | 0,n,i,v,_,hm,_,_,_,_,_=>by omega
  | m+1,n,i,v,hn,hm,ha,hi,hb,hv,hk=>by
    have e:Zak k (a:Int) (b:Int) (m+1) v (i:Int) (n:Int)=ZfL k (Zak k (a:Int) (b:Int) m) (a:Int) (b:Int) v (i:Int) (n:Int):=rfl
    rw [e]
    unfold ZfL
    by_cases h5:n<5
    · rw [dt (by omega)]
      simp only [cond]
      obtain ⟨i',h1,h2,h3,h4⟩:=Znp (k:=k) (self16:=Zak k (a:Int) (b:Int) m) (a:=a) (b:=b) (n:=n) hb hv k i ha hi (by omega)
      rw [h4]
      unfold ZcM
      simp only [cond]
      by_cases hib:i'=b
      · rw [ZX (show (i':Int)=(b:Int) by omega)]
        subst hib
        exact ⟨true,v,rfl,List.Perm.refl _,fun hs _ hso=>⟨fun _ _=>rfl,fun _=>h3 hs hso⟩⟩
      · rw [ZE (show ¬(i':Int)=(b:Int) by omega)]
        simp only
        have e0:w64 ((b:Int)-(a:Int))=((b-a:Nat):Int):=by rw [Zv (by omega) (by omega)];omega
        rw [e0]
        by_cases h50:b-a<50
        · rw [dt (by omega)]
          exact ⟨false,v,rfl,List.Perm.refl _,fun hs _ hso=>⟨fun _ _=>rfl,fun h=>by cases h⟩⟩
        · rw [df (by omega)]
          simp only
          obtain ⟨x,hx⟩:=ZT (v:=v) (i:=i') (by omega)
          obtain ⟨y,hy⟩:=ZT (v:=v) (i:=i'-1) (by omega)
          have ew:w64 ((i':Int)-1)=((i'-1:Nat):Int):=by rw [Zv (by omega) (by omega)];omega
          have ea:w64 ((i':Int)-(a:Int))=((i'-a:Nat):Int):=by rw [Zv (by omega) (by omega)];omega
          have e3:=ZbW hx hy (fun l=>cond (decide ((w64 ((i':Int)-(a:Int)))≥2)) (Za8 k (Zak k (a:Int) (b:Int) m) (b:Int) (n:Int) (i':Int) k l (w64 ((i':Int)-1))) (Za6 k (Zak k (a:Int) (b:Int) m) (b:Int) (n:Int) (i':Int) l))
          unfold sw at e3
          rw [ew] at e3 ⊢
          simp only [cond] at e3
          rw [e3]
          have kk:Kept v (swp v i' (i'-1) x y) a b:=Kept.swp hx hy (by omega) (by omega) (by omega) (by omega)
          have fin:∀w:List Zb,List.Perm w v→(Small v→Bnd v a b→ZP v a i→ZaO v w a b∧ZP w a i')→
              ∃fl v',Za6 k (Zak k (a:Int) (b:Int) m) (b:Int) (n:Int) (i':Int) w=some (fl,v')∧List.Perm v' v∧(Small v→Bnd v a b→ZP v a i→ZaO v v' a b∧(fl=true→ZP v' a b)):=fun w pw hw=>by
            have hwl:=pw.length_eq
            obtain ⟨u,e5,k5⟩:=Zo5 (k:=k) (self16:=Zak k (a:Int) (b:Int) m) (b:=b) (n:=n) (i:=i') (v:=w) (by omega) (by omega) (by omega) (by omega) (by omega)
            have hul:=k5.len
            obtain ⟨fl,v',e6,p6,c6⟩:=Zk0 (k:=k) hab m (n+1) i' u (by omega) (by omega) (by omega) h2 (by omega) (by omega) (by omega)
            refine ⟨fl,v',e5.trans e6,p6.trans (k5.perm.trans pw),fun hs hbd hso=>?_⟩
            obtain ⟨o7,s7⟩:=hw hs hbd hso
            have k7:Kept v w a b:=⟨pw,o7⟩
            have k8:Kept v u a b:=k7.trans (k5.mono (by omega) (Nat.le_refl _))
            obtain ⟨o9,s9⟩:=c6 (hs.perm k8.perm) (hbd.kept k8 (Nat.le_refl _) (Nat.le_refl _) hb) (fun p q x1 y1 hap hpq hqi hp hq=>s7 p q x1 y1 hap hpq hqi (by rw [←k5.out p (by omega)];exact hp) (by rw [←k5.out q (by omega)];exact hq))
            exact ⟨fun p hp=>(o9 p hp).trans (k8.out p hp),s9⟩
          have srt:Small v→ZP v a i→∀p q x1 y1,a≤p→p<q→q<i'→q≠i'-1→(swp v i' (i'-1) x y)[p]?=some x1→(swp v i' (i'-1) x y)[q]?=some y1→x1.f_Lo≤y1.f_Lo:=fun hs hso p q x1 y1 hap hpq hqi hqj hp hq=>by
            rw [Z5 hx hy,if_neg (by omega),if_neg (by omega)] at hp hq
            exact h3 hs hso p q _ _ hap hpq hqi hp hq
          rw [ea]
          by_cases h2':2≤i'-a
          · rw [dt (by omega)]
            simp only
            obtain ⟨w,e5,p5,c5⟩:=ZjJ (k:=k) (self16:=Zak k (a:Int) (b:Int) m) (a:=a) (b:=b) (n:=n) (i:=i') (by omega) h2 k (i'-1) (swp v i' (i'-1) x y) (by omega) (by rw [ZW];exact hb) (by rw [ZW];exact hv) (by omega)
            rw [e5]
            refine fin w (p5.trans kk.perm) fun hs hbd hso=>?_
            obtain ⟨o6,s6⟩:=c5 (hs.perm kk.perm) (hbd.kept kk (Nat.le_refl _) (Nat.le_refl _) hb) (by omega) (srt hs hso)
            exact ⟨fun p hp=>(o6 p (by omega)).trans (kk.out p hp),s6⟩
          · rw [df (by omega)]
            refine fin _ kk.perm fun hs hbd hso=>⟨kk.out,fun p q x1 y1 hap hpq hqi hp hq=>by omega⟩
    · rw [df (by omega)]
      exact ⟨false,v,rfl,List.Perm.refl _,fun hs _ hso=>⟨fun _ _=>rfl,fun h=>by cases h⟩⟩
end Go.Proofs.YthilboheomikjaaGreatDoor
end
section
namespace Go.Proofs.YthilboheomikjaaGreatDoor
open Go.AL Go.Lib
set_option maxRecDepth 100000
def Heap (v:List Zb) (f n lo r:Nat):Prop:=∀i c x y,lo≤i→i≠r→(c=2*i+1∨c=2*i+2)→c<n→v[f+i]?=some x→v[f+c]?=some y→y.f_Lo≤x.f_Lo
def Over (v:List Zb) (f n lo r:Nat):Prop:=∀i c x y,lo≤i→(r=2*i+1∨r=2*i+2)→(c=2*r+1∨c=2*r+2)→c<n→v[f+i]?=some x→v[f+c]?=some y→y.f_Lo≤x.f_Lo
theorem Zkh {k f n lo:Nat}:∀(m r:Nat) (v:List Zb),lo≤r→r≤n→n-r<m→f+n≤v.length→v.length≤1073741824→
    ∃v',ZbP k (n:Int) (f:Int) m v (r:Int)=some v'∧Kept v v' f (f+n)∧(Small v→Heap v f n lo r→Over v f n lo r→Heap v' f n lo n)
  | 0,r,v,_,_,hm,_,_=>by omega
  | m+1,r,v,hlo,hrn,hm,hl,hv=>by
    have e:ZbP k (n:Int) (f:Int) (m+1) v (r:Int)=Zhz k (ZbP k (n:Int) (f:Int) m) (n:Int) (f:Int) v (r:Int):=rfl
    rw [e]
    unfold Zhz
    have e1:w64 (w64 (2*(r:Int))+1)=((2*r+1:Nat):Int):=by rw [Zv (x:=2*(r:Int)) (by omega) (by omega),Zv (by omega) (by omega)];omega
    have e2:w64 (((2*r+1:Nat):Int)+1)=((2*r+2:Nat):Int):=by rw [Zv (by omega) (by omega)];omega
    rw [e1,e2]
    by_cases hc:n≤2*r+1
    · rw [dt (by omega)]
      refine ⟨v,rfl,Kept.refl _ _ _,fun _ hh _ i c x y h1 h2 h3 h4 hx hy=>?_⟩
      by_cases hir:i=r
      · omega
      · exact hh i c x y h1 hir h3 h4 hx hy
    · rw [df (by omega)]
      simp only [cond]
      obtain ⟨x,hx⟩:=ZT (v:=v) (i:=f+r) (by omega)
      have go:∀c:Nat,(c=2*r+1∨c=2*r+2)→c<n→(Small v→∀d y z,(d=2*r+1∨d=2*r+2)→d<n→v[f+d]?=some y→v[f+c]?=some z→y.f_Lo≤z.f_Lo)→
          ∃v',ZeT k (ZbP k (n:Int) (f:Int) m) (f:Int) v (r:Int) (c:Int)=some v'∧Kept v v' f (f+n)∧(Small v→Heap v f n lo r→Over v f n lo r→Heap v' f n lo n):=fun c hcr hcn hmax=>by
        obtain ⟨y,hy⟩:=ZT (v:=v) (i:=f+c) (by omega)
        unfold ZeT
        have f1:w64 ((f:Int)+(r:Int))=((f+r:Nat):Int):=by rw [Zv (by omega) (by omega)];omega
        have f2:w64 ((f:Int)+(c:Int))=((f+c:Nat):Int):=by rw [Zv (by omega) (by omega)];omega
        have e3:=ZbW hx hy (fun l=>ZbP k (n:Int) (f:Int) m l (c:Int))
        unfold sw at e3
        rw [f1,f2,e3,if_pos ⟨by omega,by omega⟩,Zy,hx]
        simp only [zb_]
        rw [if_pos ⟨by omega,by omega⟩,Zy,hy]
        simp only [zb_,F104]
        by_cases hl2:w64 (x.f_Lo-y.f_Lo)<0
        · rw [dt hl2]
          simp only [Bool.not_true]
          have hget:=Z5 hx hy
          have kk:Kept v (swp v (f+r) (f+c) x y) f (f+n):=Kept.swp hx hy (by omega) (by omega) (by omega) (by omega)
          obtain ⟨v',e4,k4,c4⟩:=Zkh (k:=k) (f:=f) (n:=n) (lo:=lo) m c (swp v (f+r) (f+c) x y) (by omega) (by omega) (by omega) (by rw [ZW];exact hl) (by rw [ZW];exact hv)
          refine ⟨v',e4,kk.trans k4,fun hs hh ho=>c4 (hs.perm kk.perm) ?_ ?_⟩
          · have hxy:=(Zdl hs hx hy).1 hl2
            intro i d x1 y1 h1 h2 h3 h4 hp hq
            rw [hget] at hp hq
            rw [if_neg (by omega)] at hp
            by_cases ir:i=r
            · subst ir
              rw [if_pos rfl] at hp
              obtain rfl:=zj_ hp
              by_cases dc:d=c
              · subst dc
                rw [if_pos rfl] at hq
                obtain rfl:=zj_ hq
                omega
              · rw [if_neg (by omega),if_neg (by omega)] at hq
                exact hmax hs d _ _ h3 h4 hq hy
            · rw [if_neg (by omega)] at hp
              by_cases dr:d=r
              · subst dr
                rw [if_neg (by omega),if_pos rfl] at hq
                obtain rfl:=zj_ hq
                exact ho i c _ _ h1 h3 hcr hcn hp hy
              · by_cases dc:d=c
                · omega
                · rw [if_neg (by omega),if_neg (by omega)] at hq
                  exact hh i d _ _ h1 ir h3 h4 hp hq
          · intro i d x1 y1 h1 h2 h3 h4 hp hq
            have ir:i=r:=by omega
            subst ir
            rw [hget] at hp hq
            rw [if_neg (by omega),if_pos rfl] at hp
            obtain rfl:=zj_ hp
            rw [if_neg (by omega),if_neg (by omega)] at hq
            exact hh c d _ _ (by omega) (by omega) h3 h4 hy hq
        · rw [df hl2]
          refine ⟨v,rfl,Kept.refl _ _ _,fun hs hh _ i d x1 y1 h1 h2 h3 h4 hp hq=>?_⟩
          by_cases ir:i=r
          · subst ir
            rw [hx] at hp
            obtain rfl:=zj_ hp
            have h5:=hmax hs d y1 y h3 h4 hq hy
            have h6:=Zdl hs hx hy
            unfold Le at h6
            omega
          · exact hh i d _ _ h1 ir h3 h4 hp hq
      by_cases hc2:2*r+2<n
      · rw [dt (by omega)]
        simp only
        obtain ⟨y,hy⟩:=ZT (v:=v) (i:=f+(2*r+1)) (by omega)
        obtain ⟨z,hz⟩:=ZT (v:=v) (i:=f+(2*r+2)) (by omega)
        have g1:w64 ((f:Int)+((2*r+1:Nat):Int))=((f+(2*r+1):Nat):Int):=by rw [Zv (by omega) (by omega)];omega
        have g2:w64 (((f+(2*r+1):Nat):Int)+1)=((f+(2*r+2):Nat):Int):=by rw [Zv (by omega) (by omega)];omega
        rw [g1,g2,if_pos ⟨by omega,by omega⟩,Zy,hy]
        simp only [zb_]
        rw [if_pos ⟨by omega,by omega⟩,Zy,hz]
        simp only [zb_,F104]
        unfold ZeS
        rw [e1,e2]
        by_cases hl2:w64 (y.f_Lo-z.f_Lo)<0
        · rw [dt hl2]
          refine go (2*r+2) (.inr rfl) hc2 fun hs d y1 z1 hd hdn h1 h2=>?_
          have h6:=(Zdl hs hy hz).1 hl2
          rw [hz] at h2
          obtain rfl:=zj_ h2
          rcases hd with rfl | rfl
          · rw [hy] at h1;obtain rfl:=zj_ h1;omega
          · rw [hz] at h1;obtain rfl:=zj_ h1;omega
        · rw [df hl2]
          refine go (2*r+1) (.inl rfl) (by omega) fun hs d y1 z1 hd hdn h1 h2=>?_
          have h6:=Zdl hs hy hz
          unfold Le at h6
          rw [hy] at h2
          obtain rfl:=zj_ h2
          rcases hd with rfl | rfl
          · rw [hy] at h1;obtain rfl:=zj_ h1;omega
          · rw [hz] at h1;obtain rfl:=zj_ h1;omega
      · rw [df (by omega)]
        unfold ZeS
        simp only [cond]
        rw [e1]
        refine go (2*r+1) (.inl rfl) (by omega) fun hs d y1 z1 hd hdn h1 h2=>?_
        rcases hd with rfl | rfl
        · rw [h1] at h2;obtain rfl:=zj_ h2;omega
        · omega
end Go.Proofs.YthilboheomikjaaGreatDoor
end
section
namespace Go.Proofs.YthilboheomikjaaGreatDoor
open Go.AL Go.Lib
set_option maxRecDepth 100000
theorem Heap.top {v:List Zb} {f n r:Nat} (h:Heap v f n 0 r) (hr:n≤r) (hl:f+n≤v.length):∀(i:Nat) (x y:Zb),i<n→v[f]?=some x→v[f+i]?=some y→y.f_Lo≤x.f_Lo:=by
  intro i
  induction i using Nat.strongRecOn with
  | ind i ih=>
    intro x y hi hx hy
    by_cases h0:i=0
    · subst h0;rw [Nat.add_zero] at hy;rw [hx] at hy;obtain rfl:=zj_ hy;omega
    · obtain ⟨z,hz⟩:=ZT (v:=v) (i:=f+(i-1) / 2) (by omega)
      have h1:=ih ((i-1) / 2) (by omega) x z (by omega) hx hz
      have h2:=h ((i-1) / 2) i z y (by omega) (by omega) (by omega) hi hz hy
      omega
theorem ZlK {k a b:Nat} (hab:a<b) (hk:b-a+2<k) {R:List Zb→Prop} {F:List Zb→Option (List Zb)}:∀(i m:Nat) (v:List Zb),i≤b-a→i<m→b≤v.length→v.length≤1073741824→
    (∀l,F l=ZaN k (a:Int) k l (((b-a:Nat):Int)-1))→
    ∃v',ZbL k (a:Int) (b:Int) m v ((i:Int)-1)=F v'∧Kept v v' a b∧(Small v→Heap v a (b-a) i (b-a)→Heap v' a (b-a) 0 (b-a))
  | 0,0,v,_,hm,_,_,_=>by omega
  | 0,m+1,v,hi,hm,hb,hv,hF=>by
    have e:ZbL k (a:Int) (b:Int) (m+1) v (((0:Nat):Int)-1)=ZdC k (ZbL k (a:Int) (b:Int) m) (a:Int) (b:Int) v (((0:Nat):Int)-1):=rfl
    rw [e]
    unfold ZdC
    have e0:w64 ((b:Int)-(a:Int))=((b-a:Nat):Int):=by rw [Zv (by omega) (by omega)];omega
    rw [df (by omega),zf_,e0,Zv (x:=((b-a:Nat):Int)-1) (by omega) (by omega)]
    exact ⟨v,(hF v).symm,Kept.refl _ _ _,fun _ h=>h⟩
  | i+1,0,v,_,hm,_,_,_=>by omega
  | i+1,m+1,v,hi,hm,hb,hv,hF=>by
    have ei:(((i+1:Nat):Int)-1)=(i:Int):=by omega
    rw [ei]
    have e:ZbL k (a:Int) (b:Int) (m+1) v (i:Int)=ZdC k (ZbL k (a:Int) (b:Int) m) (a:Int) (b:Int) v (i:Int):=rfl
    rw [e]
    unfold ZdC
    have e0:w64 ((b:Int)-(a:Int))=((b-a:Nat):Int):=by rw [Zv (by omega) (by omega)];omega
    rw [dt (by omega),e0]
    simp only [cond]
    obtain ⟨w,e1,k1,c1⟩:=Zkh (k:=k) (f:=a) (n:=b-a) (lo:=i) k i v (Nat.le_refl _) (by omega) (by omega) (by omega) hv
    have e1':F176 k v (i:Int) ((b-a:Nat):Int) (a:Int)=some w:=e1
    rw [e1']
    simp only [zb_]
    have hwl:=k1.len
    rw [if_pos hwl,Zv (by omega) (by omega)]
    rw [show a+(b-a)=b by omega] at k1
    obtain ⟨v',e2,k2,c2⟩:=ZlK hab hk (R:=R) (F:=F) i m w (by omega) (by omega) (by omega) (by omega) hF
    refine ⟨v',e2,k1.trans k2,fun hs hh=>c2 (hs.perm k1.perm) (c1 hs (fun j c x y h1 h2 h3 h4 hx hy=>hh j c x y (by omega) (by omega) h3 h4 hx hy) (fun j c x y h1 h2 h3 h4 hx hy=>by omega))⟩
theorem ZoF {k a b:Nat} (hab:a<b) (hk:b-a+2<k):∀(i m:Nat) (v:List Zb),i≤b-a→i<m→b≤v.length→v.length≤1073741824→
    ∃v',ZaN k (a:Int) m v ((i:Int)-1)=some v'∧Kept v v' a b∧(Small v→Heap v a i 0 i→(∀p q x y,p<i→i≤q→q<b-a→v[a+p]?=some x→v[a+q]?=some y→x.f_Lo≤y.f_Lo)→ZP v (a+i) b→ZP v' a b)
  | 0,0,v,_,hm,_,_=>by omega
  | 0,m+1,v,hi,hm,hb,hv=>by
    have e:ZaN k (a:Int) (m+1) v (((0:Nat):Int)-1)=ZdD k (ZaN k (a:Int) m) (a:Int) v (((0:Nat):Int)-1):=rfl
    rw [e]
    unfold ZdD
    rw [df (by omega)]
    exact ⟨v,rfl,Kept.refl _ _ _,fun _ _ _ h=>h⟩
  | i+1,0,v,_,hm,_,_=>by omega
  | i+1,m+1,v,hi,hm,hb,hv=>by
    have ei:(((i+1:Nat):Int)-1)=(i:Int):=by omega
    rw [ei]
    have e:ZaN k (a:Int) (m+1) v (i:Int)=ZdD k (ZaN k (a:Int) m) (a:Int) v (i:Int):=rfl
    rw [e]
    unfold ZdD
    obtain ⟨x,hx⟩:=ZT (v:=v) (i:=a) (by omega)
    obtain ⟨y,hy⟩:=ZT (v:=v) (i:=a+i) (by omega)
    have f1:w64 ((a:Int)+(i:Int))=((a+i:Nat):Int):=by rw [Zv (by omega) (by omega)];omega
    have e3:=ZbW hx hy (fun l=>(F176 k l 0 (i:Int) (a:Int)).bind fun y154=>if y154.length=l.length then (ZaN k (a:Int) m y154 (w64 ((i:Int)-1))) else none)
    unfold sw at e3
    rw [dt (by omega),f1]
    simp only [cond]
    rw [e3]
    have kk:Kept v (swp v a (a+i) x y) a b:=Kept.swp hx hy (by omega) (by omega) (by omega) (by omega)
    obtain ⟨w,e1,k1,c1⟩:=Zkh (k:=k) (f:=a) (n:=i) (lo:=0) k 0 (swp v a (a+i) x y) (Nat.le_refl _) (by omega) (by omega) (by rw [ZW];omega) (by rw [ZW];exact hv)
    have e1':F176 k (swp v a (a+i) x y) 0 (i:Int) (a:Int)=some w:=e1
    rw [e1']
    simp only [zb_]
    have hwl:=k1.len
    rw [if_pos hwl,Zv (by omega) (by omega)]
    rw [ZW] at hwl
    obtain ⟨v',e2,k2,c2⟩:=ZoF hab hk i m w (by omega) (by omega) (by omega) (by omega)
    refine ⟨v',e2,(kk.trans (k1.mono (Nat.le_refl _) (by omega))).trans k2,fun hs hh hle hso=>?_⟩
    have hget:=Z5 hx hy
    have top:∀p z,p≤i→v[a+p]?=some z→z.f_Lo≤x.f_Lo:=fun p z hp hz=>hh.top (Nat.le_refl _) (by omega) p x z (by omega) hx hz
    have wend:w[a+i]?=some x:=by
      rw [k1.out (a+i) (by omega),hget,if_pos rfl]
    have wout:∀q,i<q→w[a+q]?=v[a+q]?:=fun q hq=>by
      rw [k1.out (a+q) (by omega),hget,if_neg (by omega),if_neg (by omega)]
    have win:∀p z,p<i→w[a+p]?=some z→∃q,q≤i∧v[a+q]?=some z:=fun p z hp hz=>by
      obtain ⟨q,q1,q2,hq⟩:=k1.mem (by rw [ZW];omega) (p:=a+p) (by omega) (by omega) hz
      rw [hget,if_neg (by omega)] at hq
      by_cases e5:q=a
      · rw [if_pos e5] at hq;obtain rfl:=zj_ hq;exact ⟨i,Nat.le_refl _,hy⟩
      · rw [if_neg e5] at hq;exact ⟨q-a,by omega,by rw [show a+(q-a)=q by omega];exact hq⟩
    refine c2 (hs.perm (k1.perm.trans kk.perm)) (c1 (hs.perm kk.perm) (fun j c x1 y1 h1 h2 h3 h4 hp hq=>?_) (fun j c x1 y1 h1 h2 h3 h4 hp hq=>by omega)) (fun p q x1 y1 hp hq hqb h1 h2=>?_) (fun p q x1 y1 hap hpq hqb h1 h2=>?_)
    · rw [hget,if_neg (by omega),if_neg (by omega)] at hp hq
      exact hh j c x1 y1 h1 (by omega) h3 (by omega) hp hq
    · obtain ⟨p',hp',hz⟩:=win p x1 hp h1
      by_cases e5:q=i
      · subst e5
        rw [wend] at h2
        obtain rfl:=zj_ h2
        exact top p' x1 hp' hz
      · rw [wout q (by omega)] at h2
        exact hle p' q x1 y1 (by omega) (by omega) hqb hz h2
    · by_cases e5:p=a+i
      · subst e5
        rw [wend] at h1
        obtain rfl:=zj_ h1
        have h2':v[a+(q-a)]?=some y1:=by rw [←wout (q-a) (by omega),show a+(q-a)=q by omega];exact h2
        exact hle 0 (q-a) x y1 (by omega) (by omega) (by omega) (by rw [Nat.add_zero];exact hx) h2'
      · have h1':v[p]?=some x1:=by have:=wout (p-a) (by omega);rw [show a+(p-a)=p by omega] at this;rw [←this];exact h1
        have h2':v[q]?=some y1:=by have:=wout (q-a) (by omega);rw [show a+(q-a)=q by omega] at this;rw [←this];exact h2
        exact hso p q x1 y1 (by omega) hpq hqb h1' h2'
theorem Zqp {k a b:Nat} {v:List Zb} (hab:a<b) (hk:b-a+2<k) (hb:b≤v.length) (hv:v.length≤1073741824) :
    ∃v',F150 k v (a:Int) (b:Int)=some v'∧Kept v v' a b∧(Small v→ZP v' a b):=by
  unfold F150
  rw [if_pos (by decide)]
  have e0:w64 ((b:Int)-(a:Int))=((b-a:Nat):Int):=by rw [Zv (by omega) (by omega)];omega
  have e1:w64 (Int.tdiv (w64 (((b-a:Nat):Int)-1)) 2)=(((b-a-1) / 2+1:Nat):Int)-1:=by
    rw [Zv (x:=_-1) (by omega) (by omega),show ((b-a:Nat):Int)-1=((b-a-1:Nat):Int) by omega,Int.tdiv_eq_ediv_of_nonneg (by omega),Zv (by omega) (by omega)]
    omega
  rw [e0,e1]
  obtain ⟨w,e2,k2,c2⟩:=ZlK hab hk (R:=fun _=>True) (F:=fun l=>ZaN k (a:Int) k l (((b-a:Nat):Int)-1)) ((b-a-1) / 2+1) k v (by omega) (by omega) hb hv (fun _=>rfl)
  rw [e2]
  have hwl:=k2.len
  obtain ⟨v',e3,k3,c3⟩:=ZoF hab hk (b-a) k w (Nat.le_refl _) (by omega) (by omega) (by omega)
  refine ⟨v',e3,k2.trans k3,fun hs=>c3 (hs.perm k2.perm) (c2 hs fun i c x y h1 h2 h3 h4 hx hy=>by omega) (fun p q x y h1 h2 h3=>by omega) (fun p q x y h1 h2 h3=>by omega)⟩
end Go.Proofs.YthilboheomikjaaGreatDoor
end
section
namespace Go.Proofs.YthilboheomikjaaGreatDoor
open Go.AL Go.Lib
set_option maxRecDepth 100000
theorem Zpw {k a b:Nat} {v:List Zb} (hab:a<b) (hb:b≤v.length) (hv:v.length≤1073741824) (hk:v.length<k) (hk2:5<k) :
    ∃fl v',F154 k v (a:Int) (b:Int)=some (fl,v')∧List.Perm v' v∧(Small v→Bnd v a b→ZaO v v' a b∧(fl=true→ZP v' a b)):=by
  unfold F154
  rw [Zv (by omega) (by omega),show (a:Int)+1=((a+1:Nat):Int) by omega]
  obtain ⟨fl,v',e,p,c⟩:=Zk0 (k:=k) hab k 0 (a+1) v (by omega) (by omega) (by omega) (by omega) hb hv hk
  exact ⟨fl,v',e,p,fun hs hbd=>c hs hbd fun p q x y h1 h2 h3=>by omega⟩
def Srt (v v':List Zb) (a b:Nat):Prop:=List.Perm v' v∧(Small v→Bnd v a b→ZaO v v' a b∧ZP v' a b)
def Pre (v v':List Zb) (a b:Nat):Prop:=List.Perm v' v∧(Small v→Bnd v a b→ZaO v v' a b)
theorem Kept.pre {v w:List Zb} {a b:Nat} (h:Kept v w a b):Pre v w a b:=⟨h.perm,fun _ _=>h.out⟩
theorem Pre.trans {u v w:List Zb} {a b:Nat} (hb:b≤u.length) (h:Pre u v a b) (g:Pre v w a b):Pre u w a b:=⟨g.1.trans h.1,fun hs hbd=>by
  have k:Kept u v a b:=⟨h.1,h.2 hs hbd⟩
  have o:=g.2 (hs.perm h.1) (hbd.kept k (Nat.le_refl _) (Nat.le_refl _) hb)
  exact fun p hp=>(o p hp).trans (k.out p hp)⟩
theorem Pre.srt {u v w:List Zb} {a b:Nat} (hb:b≤u.length) (h:Pre u v a b) (g:Srt v w a b):Srt u w a b:=⟨g.1.trans h.1,fun hs hbd=>by
  have k:Kept u v a b:=⟨h.1,h.2 hs hbd⟩
  obtain ⟨o,s⟩:=g.2 (hs.perm h.1) (hbd.kept k (Nat.le_refl _) (Nat.le_refl _) hb)
  exact ⟨fun p hp=>(o p hp).trans (k.out p hp),s⟩⟩
theorem Zg8 {t:List Zb} {a b q:Nat} {z:Zb} (hz:t[q]?=some z) (hq:q<b) (h1:∀p x,a≤p→p<q→t[p]?=some x→x.f_Lo≤z.f_Lo) (h2:∀p x,q<p→p<b→t[p]?=some x→z.f_Lo≤x.f_Lo)
    (s1:ZP t a q) (s2:ZP t (q+1) b):ZP t a b:=fun i j x y ha hij hj hx hy=>by
  by_cases jq:j<q
  · exact s1 i j x y ha hij jq hx hy
  · by_cases iq:q<i
    · exact s2 i j x y iq hij hj hx hy
    · have hxz:x.f_Lo≤z.f_Lo:=by
        by_cases e:i=q
        · subst e;rw [hz] at hx;obtain rfl:=zj_ hx;omega
        · exact h1 i x ha (by omega) hx
      have hzy:z.f_Lo≤y.f_Lo:=by
        by_cases e:j=q
        · subst e;rw [hz] at hy;obtain rfl:=zj_ hy;omega
        · exact h2 j y (by omega) hj hy
      omega
theorem Bnd.less {v:List Zb} {a b c:Nat} (h:Bnd v a b) (hc:c≤b):Bnd v a c:=fun p x y h0 hx hp hp2 hy=>h p x y h0 hx hp (by omega) hy
theorem ZkR {w:List Zb} {a b q:Nat} {z:Zb} (hs:Small w) (h:ZgF w a b q z):(∀p x,a≤p→p<q→w[p]?=some x→x.f_Lo≤z.f_Lo)∧(∀p x,q<p→p<b→w[p]?=some x→z.f_Lo≤x.f_Lo):=
  ⟨fun p x h1 h2 hx=>by have:=(Zdl hs hx h.here).1 (h.lo p x h1 h2 hx);omega,fun p x h1 h2 hx=>by
    have:=h.hi p x h1 h2 hx
    rw [Zdl hs hx h.here] at this
    omega⟩
theorem ZpB {w u t:List Zb} {a b q:Nat} {z:Zb} (haq:a≤q) (hq:q<b) (hb:b≤w.length) (hp:ZgF w a b q z) (h1:Srt w u a q) (h2:Srt u t (q+1) b):Srt w t a b:=by
  refine ⟨h2.1.trans h1.1,fun hs hbd=>?_⟩
  obtain ⟨o1,s1⟩:=h1.2 hs (hbd.less (by omega))
  have k1:Kept w u a q:=⟨h1.1,o1⟩
  obtain ⟨lo,hi⟩:=ZkR hs hp
  have hus:=hs.perm k1.perm
  have bu:Bnd u (q+1) b:=fun p x y _ hx hp2 hp3 hy=>by
    rw [Nat.add_sub_cancel,k1.out q (by omega),hp.here] at hx
    obtain rfl:=zj_ hx
    rw [k1.out p (by omega)] at hy
    exact hi p y (by omega) hp3 hy
  obtain ⟨o2,s2⟩:=h2.2 hus bu
  have k2:Kept u t (q+1) b:=⟨h2.1,o2⟩
  refine ⟨fun p hp=>(o2 p (by omega)).trans (o1 p (by omega)),Zg8 (z:=z) (q:=q) ?_ hq ?_ ?_ ?_ s2⟩
  · rw [o2 q (by omega),o1 q (by omega)];exact hp.here
  · intro p x hap hpq hx
    rw [o2 p (by omega)] at hx
    obtain ⟨r,r1,r2,hr⟩:=k1.mem (by omega) hap hpq hx
    exact lo r x r1 r2 hr
  · intro p x hqp hpb hx
    obtain ⟨r,r1,r2,hr⟩:=k2.mem (by rw [k1.len];exact hb) hqp hpb hx
    rw [o1 r (by omega)] at hr
    exact hi r x r1 r2 hr
  · intro i j x y ha hij hj hx hy
    rw [o2 i (by omega)] at hx
    rw [o2 j (by omega)] at hy
    exact s1 i j x y ha hij hj hx hy
theorem ZoL {w u t:List Zb} {a b q:Nat} {z:Zb} (haq:a≤q) (hq:q<b) (hb:b≤w.length) (hp:ZgF w a b q z) (h1:Srt w u (q+1) b) (h2:Srt u t a q):Srt w t a b:=by
  refine ⟨h2.1.trans h1.1,fun hs hbd=>?_⟩
  obtain ⟨lo,hi⟩:=ZkR hs hp
  have bw:Bnd w (q+1) b:=fun p x y _ hx hp2 hp3 hy=>by
    rw [Nat.add_sub_cancel,hp.here] at hx
    obtain rfl:=zj_ hx
    exact hi p y (by omega) hp3 hy
  obtain ⟨o1,s1⟩:=h1.2 hs bw
  have k1:Kept w u (q+1) b:=⟨h1.1,o1⟩
  have hus:=hs.perm k1.perm
  have bu:Bnd u a q:=fun p x y h0 hx hp2 hp3 hy=>by
    rw [o1 (a-1) (by omega)] at hx
    rw [o1 p (by omega)] at hy
    exact hbd p x y h0 hx hp2 (by omega) hy
  obtain ⟨o2,s2⟩:=h2.2 hus bu
  have k2:Kept u t a q:=⟨h2.1,o2⟩
  refine ⟨fun p hp=>(o2 p (by omega)).trans (o1 p (by omega)),Zg8 (z:=z) (q:=q) ?_ hq ?_ ?_ s2 ?_⟩
  · rw [o2 q (by omega),o1 q (by omega)];exact hp.here
  · intro p x hap hpq hx
    obtain ⟨r,r1,r2,hr⟩:=k2.mem (by rw [k1.len];omega) hap hpq hx
    rw [o1 r (by omega)] at hr
    exact lo r x r1 r2 hr
  · intro p x hqp hpb hx
    rw [o2 p (by omega)] at hx
    obtain ⟨r,r1,r2,hr⟩:=k1.mem hb hqp hpb hx
    exact hi r x r1 r2 hr
  · intro i j x y ha hij hj hx hy
    rw [o2 i (by omega)] at hx
    rw [o2 j (by omega)] at hy
    exact s1 i j x y ha hij hj hx hy
theorem ZoK {v w t:List Zb} {a b q:Nat} {z:Zb} (haq:a<q) (hqb:q≤b) (hb:b≤v.length) (h0:0<a) (hz:∀x,v[a-1]?=some x→Small v→z.f_Lo≤x.f_Lo) (hzv:z∈v) (hk:Kept v w a b) (hp:ZjZ w a b q z) (h:Srt w t q b):Srt v t a b:=by
  refine ⟨h.1.trans hk.perm,fun hs hbd=>?_⟩
  have hws:=hs.perm hk.perm
  have hzs:-4611686018427387904≤z.f_Lo∧z.f_Lo≤4611686018427387903:=hs z hzv
  have lo:∀p x,a≤p→p<q→w[p]?=some x→x.f_Lo≤z.f_Lo:=fun p x h1 h2 hx=>by
    have:=hp.lo p x h1 h2 hx
    unfold Le at this
    rw [Zfx hzs (hws.at hx)] at this
    omega
  have hi:∀p x,q≤p→p<b→w[p]?=some x→z.f_Lo<x.f_Lo:=fun p x h1 h2 hx=>by
    have:=hp.hi p x h1 h2 hx
    unfold Le at this
    rw [Zfx hzs (hws.at hx)] at this
    omega
  have bw:=hbd.kept hk (Nat.le_refl _) (Nat.le_refl _) hb
  obtain ⟨y0,hy0⟩:=ZT (v:=v) (i:=a-1) (by omega)
  have hwl:=hk.len
  have all:∀p x,a≤p→p<b→w[p]?=some x→z.f_Lo≤x.f_Lo:=fun p x h1 h2 hx=>by
    have h3:=bw p y0 x h0 (by rw [hk.out (a-1) (by omega)];exact hy0) h1 h2 hx
    have h4:=hz y0 hy0 hs
    omega
  have bq:Bnd w q b:=fun p x y _ hx hp2 hp3 hy=>by
    have h1:=lo (q-1) x (by omega) (by omega) hx
    have h2:=hi p y hp2 hp3 hy
    omega
  obtain ⟨o,s⟩:=h.2 hws bq
  have kt:Kept w t q b:=⟨h.1,o⟩
  refine ⟨fun p hp=>(o p (by omega)).trans (hk.out p hp),fun i j x y ha hij hj hx hy=>?_⟩
  by_cases iq:q≤i
  · exact s i j x y iq hij hj hx hy
  · rw [o i (by omega)] at hx
    have h1:=lo i x ha (by omega) hx
    by_cases jq:q≤j
    · obtain ⟨r,r1,r2,hr⟩:=kt.mem (by omega) jq hj hy
      have:=hi r y r1 r2 hr
      omega
    · rw [o j (by omega)] at hy
      have:=all j y (by omega) hj hy
      omega
def ZpG (R:List Zb→Int→Int→Int→Option (List Zb)) (k:Nat):Prop:=∀(v:List Zb) (a b:Nat) (l:Int),a≤b→b≤v.length→v.length≤1073741824→v.length+(b-a)+8≤k→∃v',R v (a:Int) (b:Int) l=some v'∧Srt v v' a b
theorem Zf8 {R:List Zb→Int→Int→Int→Option (List Zb)} {k:Nat} (hR:ZpG R k):∀(m:Nat) (v:List Zb) (a b:Nat) (lim:Int) (wb wp:Bool),a≤b→b≤v.length→v.length≤1073741824→v.length+(b-a)+7≤k→b-a<m→
    ∃v',Zaj R k m v (a:Int) (b:Int) lim wb wp=some v'∧Srt v v' a b
  | 0,v,a,b,lim,wb,wp,_,_,_,_,hm=>by omega
  | m+1,v,a,b,lim,wb,wp,hab,hb,hv,hk,hm=>by
    have e:Zaj R k (m+1) v (a:Int) (b:Int) lim wb wp=ZfJ R k (Zaj R k m) v (a:Int) (b:Int) lim wb wp:=rfl
    rw [e]
    unfold ZfJ
    rw [Zkk hab (by omega)]
    by_cases h12:b-a≤12
    · rw [dt (by omega)]
      obtain ⟨v',e1,p1,o1,s1⟩:=Zq5 (k:=k) (a:=a) (b:=b) (v:=v) (by omega) hab hb hv
      rw [zt_,e1,zb_,if_pos p1.length_eq]
      exact ⟨v',rfl,p1,fun hs _=>⟨o1,s1 hs⟩⟩
    rw [df (by omega),zf_]
    by_cases hl:lim=0
    · rw [ZX hl,zt_]
      obtain ⟨v',e1,k1,s1⟩:=Zqp (k:=k) (a:=a) (b:=b) (v:=v) (by omega) (by omega) hb hv
      rw [e1,zb_,if_pos k1.len]
      exact ⟨v',rfl,k1.perm,fun hs _=>⟨k1.out,s1 hs⟩⟩
    rw [ZE hl,zf_]
    have h17:∀(w:List Zb) (pv:Nat) (l2:Int),Pre v w a b→a≤pv→pv<b→∃v',ZdX R k (Zaj R k m) (a:Int) (b:Int) wb wp l2 (pv:Int) w=some v'∧Srt v v' a b:=fun w pv l2 pw ha hpb=>by
      have hwl:=pw.1.length_eq
      obtain ⟨z,hz⟩:=ZT (v:=w) (i:=pv) (by omega)
      have h18f:∃v',ZcI R k (Zaj R k m) (a:Int) (b:Int) wb wp l2 (pv:Int) w false=some v'∧Srt v v' a b:=by
        unfold ZcI
        obtain ⟨q,fl,u,z2,e1,q1,q2,k1,par⟩:=Zqx (k:=k) (a:=a) (b:=b) (pp:=pv) (v:=w) (by omega) ha hpb (by omega) (by omega)
        have hul:=k1.len
        rw [zf_,e1,zb_,if_pos hul,if_pos (by decide)]
        have ew:w64 ((q:Int)+1)=((q+1:Nat):Int):=by rw [Zv (by omega) (by omega)];omega
        simp only
        rw [ew]
        have pu:Pre v u a b:=pw.trans hb k1.pre
        cases decide (w64 ((q:Int)-(a:Int))<w64 ((b:Int)-(q:Int)))
        · obtain ⟨t,e2,t2⟩:=hR u (q+1) b l2 (by omega) (by omega) (by omega) (by omega)
          have htl:=t2.1.length_eq
          rw [zf_,e2,zb_,if_pos htl]
          obtain ⟨v',e3,t3⟩:=Zf8 hR m t a q l2 _ fl q1 (by omega) (by omega) (by omega) (by omega)
          exact ⟨v',e3,pu.srt hb (ZoL q1 q2 (by omega) par t2 t3)⟩
        · obtain ⟨t,e2,t2⟩:=hR u a q l2 (by omega) (by omega) (by omega) (by omega)
          have htl:=t2.1.length_eq
          rw [zt_,e2,zb_,if_pos htl]
          obtain ⟨v',e3,t3⟩:=Zf8 hR m t (q+1) b l2 _ fl (by omega) (by omega) (by omega) (by omega) (by omega)
          exact ⟨v',e3,pu.srt hb (ZpB q1 q2 (by omega) par t2 t3)⟩
      unfold ZdX
      by_cases h0:0<a
      · rw [dt (by omega),zt_]
        obtain ⟨x,hx⟩:=ZT (v:=w) (i:=a-1) (by omega)
        rw [Zij (by omega) (by omega),if_pos ⟨by omega,by omega⟩,Zy,hx,zb_,if_pos ⟨by omega,by omega⟩,Zy,hz,zb_]
        simp only [F104,zb_]
        by_cases hc:w64 (x.f_Lo-z.f_Lo)<0
        · rw [dt hc];exact h18f
        · rw [df hc]
          unfold ZcI
          obtain ⟨q,u,e1,q1,q2,k1,par⟩:=Zps (k:=k) (a:=a) (b:=b) (pp:=pv) (v:=w) (by omega) ha hpb (by omega) (by omega) hz
          have hul:=k1.len
          rw [Bool.not_false,zt_,e1,zb_,if_pos hul]
          obtain ⟨v',e3,t3⟩:=Zf8 hR m u q b l2 wb wp (by omega) (by omega) (by omega) (by omega) (by omega)
          refine ⟨v',e3,pw.srt hb (ZoK q1 q2 (by omega) h0 (fun y hy hs=>?_) (List.mem_of_getElem? hz) k1 par t3)⟩
          rw [hx] at hy
          obtain rfl:=zj_ hy
          rw [Zfx (hs.at hx) (hs.at hz)] at hc
          omega
      · rw [df (by omega)];exact h18f
    have h15:∀(w:List Zb) (pv:Nat) (l2 h:Int),Pre v w a b→a≤pv→pv<b→∃v',ZdW R k (Zaj R k m) (a:Int) (b:Int) wb wp l2 w (pv:Int) h=some v'∧Srt v v' a b:=fun w pv l2 h pw ha hpb=>by
      have hwl:=pw.1.length_eq
      have h16:∀c:Bool,∃v',ZcH R k (Zaj R k m) (a:Int) (b:Int) wb wp l2 w (pv:Int) c=some v'∧Srt v v' a b:=fun c=>by
        unfold ZcH
        cases c
        · exact h17 w pv l2 pw ha hpb
        · obtain ⟨fl,u,e1,p1,c1⟩:=Zpw (k:=k) (a:=a) (b:=b) (v:=w) (by omega) (by omega) (by omega) (by omega) (by omega)
          have hul:=p1.length_eq
          rw [zt_,e1,zb_,if_pos hul]
          cases fl
          · exact h17 u pv l2 (pw.trans hb ⟨p1,fun hs hbd=>(c1 hs hbd).1⟩) ha hpb
          · exact ⟨u,rfl,pw.srt hb ⟨p1,fun hs hbd=>⟨(c1 hs hbd).1,(c1 hs hbd).2 rfl⟩⟩⟩
      unfold ZdW
      cases wb
      · rw [zf_];exact h16 _
      · cases wp
        · rw [zt_,zf_];exact h16 _
        · rw [zt_,zt_];exact h16 _
    have h14:∀(w:List Zb) (l2:Int),Pre v w a b→∃v',ZdV R k (Zaj R k m) (a:Int) (b:Int) wb wp w l2=some v'∧Srt v v' a b:=fun w l2 pw=>by
      have hwl:=pw.1.length_eq
      unfold ZdV
      obtain ⟨p,h,e1,p1,p2⟩:=Zpu (k:=k) (a:=a) (b:=b) (v:=w) (by omega) (by omega) (by omega)
      rw [e1,zb_,if_pos rfl]
      simp only
      cases h == 2
      · exact h15 w p l2 h pw p1 p2
      · obtain ⟨u,e2,k2⟩:=Zrf (k:=k) (a:=a) (b:=b) (v:=w) (by omega) (by omega) (by omega) (by omega)
        rw [zt_,e2,zb_,if_pos k2.len,Zij (by omega) (by omega),Zkk p1 (by omega),show w64 (((b-1:Nat):Int)-((p-a:Nat):Int))=((b-1-(p-a):Nat):Int) by rw [Zv (by omega) (by omega)];omega]
        exact h15 u (b-1-(p-a)) l2 1 (pw.trans hb k2.pre) (by omega) (by omega)
    cases wb
    · obtain ⟨u,e1,k1⟩:=Zpa (k:=k) (a:=a) (b:=b) (v:=v) (by omega) (by omega) hb hv
      rw [Bool.not_false,zt_,e1,zb_,if_pos k1.len]
      exact h14 u _ k1.pre
    · exact h14 v lim ⟨List.Perm.refl _,fun _ _ _ _=>rfl⟩
theorem ZoD:∀k:Nat,ZpG (F121 k) k
  | 0=>fun v a b l _ _ _ hk=>by omega
  | k+1=>fun v a b l hab hb hv hk=>by
    show ∃v',Zaj (F121 k) k k v (a:Int) (b:Int) l true true=some v'∧Srt v v' a b
    exact Zf8 (ZoD k) k v a b l true true hab hb hv (by omega) (by omega)
theorem ZqC {k:Nat} {v:List Zb} (hv:v.length≤1073741824) (hk:2*v.length+8≤k):∃v',F103 k v=some v'∧List.Perm v' v∧(Small v→ZP v' 0 v'.length):=by
  unfold F103
  obtain ⟨y,hy⟩:∃y,F112 k (IntKind.wrap .u64 (v.length:Int))=some y:=by
    have hw:IntKind.wrap .u64 (v.length:Int)=v.length:=by simp [IntKind.wrap,IntKind.bits,IntKind.signed];omega
    unfold F112
    rw [hw,if_pos (by omega)]
    exact ⟨_,rfl⟩
  obtain ⟨v',e,p,c⟩:=ZoD k v 0 v.length y (by omega) (by omega) hv (by omega)
  have e':F121 k v 0 (v.length:Int) y=some v':=e
  rw [hy,zb_,e',zb_,if_pos p.length_eq]
  exact ⟨v',rfl,p,fun hs=>by rw [p.length_eq];exact (c hs fun p x y h0=>by omega).2⟩
end Go.Proofs.YthilboheomikjaaGreatDoor
end
section
namespace Go.Proofs.YthilboheomikjaaGreatDoor
open Go.AL
set_option maxRecDepth 100000
def Zfn (a:(List Zb)→Int→Option (List Zb)) (b:Int) (c:List Zb):Option (List Zb):=
  a c (w64 (b+1))
def Zgz (c:(List Zb)→Int→Option (List Zb)) (a:List Zb) (d:Int) (b:Zb) (e:Bool):Option (List Zb):=
  cond e (if (0:Int)≤(w64 ((a.length:Int)-1))∧(w64 ((a.length:Int)-1))<(a.length:Int) then (idxL a (w64 ((a.length:Int)-1))).bind fun f=>if (0:Int)≤(w64 ((a.length:Int)-1))∧(w64 ((a.length:Int)-1))<(a.length:Int) then (idxL a (w64 ((a.length:Int)-1))).bind fun g=>(Zfn c d (a.set (Int.toNat (w64 ((a.length:Int)-1))) ({ g with f_Hi:=(mx f.f_Hi b.f_Hi) }:Zb))) else none else none) (if a.length+([b]:List Zb).length≤1073741824 then (Zfn c d (a ++ ([b]:List Zb))) else none)
def Zdb (d:(List Zb)→Int→Option (List Zb)) (e:List Zb) (a:List Zb) (b:Int):Option (List Zb):=
  (cond (decide (b<(e.length:Int))) ((idxL e b).bind fun c=>((cond (decide ((a.length:Int) > 0)) (if (0:Int)≤(w64 ((a.length:Int)-1))∧(w64 ((a.length:Int)-1))<(a.length:Int) then (idxL a (w64 ((a.length:Int)-1))).bind fun f=>(Zgz d a b c (decide (c.f_Lo≤(w64 (f.f_Hi+1))))) else none) ((Zgz d a b c false))))) (((some a))))
def Zcw (a:List Zb):Nat→(List Zb)→Int→Option (List Zb)
  | 0,_,_=>none
  | d+1,b,c=>Zdb (Zcw a d) a b c
def F77 (k:Nat) (v0:List Zb):Option (List Zb):=
  (F102 k v0).bind fun a=>(F103 k a).bind fun b=>if b.length=a.length then (((Zcw b k ([]:List Zb) 0))) else none
theorem Zi2 (k:Nat) (v0:List Zb) (r:List Zb) (e:F77 k v0=some r):SM 77 [one (.sl (v0.map Za))] [] (one (.sl (r.map Za))) []:=by
 refine Zz [] Tryz.func77 rfl kr kr ?_
 show WA _ _ 53 _ _ _
 refine Ws [] [(0,one (.sl (v0.map Za)))] [] ?_
 obtain ⟨i,a6,e⟩:=Zh e
 refine Wos [(1,.call [] (ar 0 i.length) [.arr 2 (i.map Za)] [108])] [(0,ar 108 i.length)] [(108,.arr 2 (i.map Za))] [SM 102 [one (.sl (v0.map Za))] [] (ar 0 i.length) [.arr 2 (i.map Za)],([]:List Nat).Nodup] ⟨(ZpQ k _ _ a6),nd,trivial⟩ ?_
 obtain ⟨c,a7,e⟩:=Zh e
 obtain ⟨b4,e⟩:=Zo e
 refine Wos [(1,.call [108] (.tup []) [.arr 2 (c.map Za)] [])] [(0,ar 108 i.length)] [(108,.arr 2 (c.map Za))] [SM 103 [ar 0 i.length,.val false [.pv (.fn 104)]] [.arr 2 (i.map Za)] (.tup []) [.arr 2 (c.map Za)],([108]:List Nat).Nodup] ⟨(ZpR k _ _ a7 (n0:=i.length) zt),nd,trivial⟩ ?_
 refine Ws [(0,.obj 103)] [(0,ar 108 i.length),(3,ar 103 0)] [(103,.arr 2 (([]:List Zb).map Za)),(108,.arr 2 (c.map Za))] ?_
 refine WA.seq ?_
 refine WA.seq ?_
 refine Wm ((i.length:Nat):Int) (c.length:Int) (fun m_=>([(3,ar 103 0),(11,ar 108 i.length),(12,oi m_),(13,oi 0)],[(103,.arr 2 (([]:List Zb).map Za)),(108,.arr 2 (c.map Za))],[])) ((by first | (simp only [zl,Zi];done) | (simp only [zl,Zi];omega) | omega)) [] trivial ?_
 refine WA.freeze 108 11 (s:=2) (n:=i.length) (els:=(c.map Za)) rfl rfl zt ?_
 refine Wk [(3,ar 103 0),(11,one (.sl (c.map Za))),(12,oi (c.length:Int)),(13,oi 0)] [(103,.arr 2 (([]:List Zb).map Za))] ?_
 refine WA.block ?_
 refine WA.loop (fun m s_=>∃(a:List Zb) (d:Nat) (f:Int),J s_ [(3,ar 103 d),(11,one (.sl (c.map Za))),(12,oi (c.length:Int)),(13,oi f)] [(103,.arr 2 (a.map Za))]∧d=(a:List _).length∧Zcw c m a f=some r) k ⟨([]:List Zb),0,0,jk,zt,e⟩ ?_
 clear e
 rintro m4 s_ ⟨a,d,f,y,b2,e⟩
 refine Wj y ?_
 clear y
 cases m4 with
 | zero=>cases e
 | succ m4=>
  obtain ⟨v,z⟩:∃g,g=Zcw c m4:=⟨_,rfl⟩
  have e:Zdb v c a f=some r:=by first | (rw [z];exact e) | exact e
  refine Ws [] [(3,ar 103 d),(11,one (.sl (c.map Za))),(12,oi (c.length:Int)),(13,oi f),(14,ob (decide (f<(c.length:Int))))] [(103,.arr 2 (a.map Za))] ?_
  refine WA.seq ?_
  refine WA.cond (b:=(decide (f<(c.length:Int)))) rfl (fun t=>?_) (fun t=>?_)
  {
 have e:=Zk e t
 refine WA.skip ?_
 refine WA.join (fun s_=>∃(l:List Zb) (o:Nat),J s_ [(3,ar 103 o),(11,one (.sl (c.map Za))),(12,oi (c.length:Int)),(13,oi f)] [(103,.arr 2 (l.map Za))]∧o=(l:List _).length∧Zfn v f l=some r) ?_ ?_
 {
 rintro s_ ⟨l,o,y,b3,e⟩
 refine Wj y ?_
 clear y
 refine Wr [] [(3,ar 103 o),(11,one (.sl (c.map Za))),(12,oi (c.length:Int)),(13,oi (w64 (f+1)))] [(103,.arr 2 (l.map Za))] ?_
 exact ⟨m4,zl_ _,l,o,(w64 (f+1)),jk,zt,by rw [z] at e;exact e⟩ }
 {
 refine WA.block ?_
 obtain ⟨h,a8,e⟩:=Zh e
 refine Wos [(0,.cells (Za h)),(2,.obj 105)] [(3,ar 103 d),(5,pt 105),(11,one (.sl (c.map Za))),(12,oi (c.length:Int)),(13,oi f)] [(103,.arr 2 (a.map Za)),(105,bx (Za h))] [idxL (c.map Za) f=some (Za h)] ⟨(Zt _ a8),trivial⟩ ?_
 refine WA.seq ?_
 refine Wm ((d:Nat):Int) (a.length:Int) (fun m_=>([(3,ar 103 d),(5,pt 105),(6,oi m_),(11,one (.sl (c.map Za))),(12,oi (c.length:Int)),(13,oi f)],[(103,.arr 2 (a.map Za)),(105,bx (Za h))],[])) ((by first | (simp only [zl,Zi];done) | (simp only [zl,Zi];omega) | omega)) [] trivial ?_
 refine WA.join (fun s_=>∃(w:Bool),J s_ [(3,ar 103 d),(5,pt 105),(6,oi (a.length:Int)),(11,one (.sl (c.map Za))),(12,oi (c.length:Int)),(13,oi f),(32,ob w)] [(103,.arr 2 (a.map Za)),(105,bx (Za h))]∧Zgz v a f h w=some r) ?_ ?_
 {
 rintro s_ ⟨w,y,e⟩
 refine Wj y ?_
 clear y
 refine WA.cond (b:=w) rfl (fun u=>?_) (fun u=>?_)
 {
 have e:=Zk e u
 obtain ⟨a3,e⟩:=Zo e
 obtain ⟨p,b0,e⟩:=Zh e
 obtain ⟨a5,e⟩:=Zo e
 obtain ⟨q,b1,e⟩:=Zh e
 have z0:(w64 ((a.length:Int)-1))<((d:Nat):Int):=(by have h_:=a3.2;(try simp only [zl,Zi] at h_ ⊢);omega)
 refine Wdm (((a.map Za).set (Int.toNat (w64 ((a.length:Int)-1))) (Za ({ q with f_Hi:=(mx p.f_Hi h.f_Hi) }:Zb))):(List (List PV))) ((a.set (Int.toNat (w64 ((a.length:Int)-1))) ({ q with f_Hi:=(mx p.f_Hi h.f_Hi) }:Zb)).map Za) (fun m_=>([(3,ar 103 d),(11,one (.sl (c.map Za))),(12,oi (c.length:Int)),(13,oi f)],[(103,.arr 2 m_)],[d=(a.map Za).length,(0:Int)≤(w64 ((a.length:Int)-1)),(w64 ((a.length:Int)-1))<((d:Nat):Int),d=(a.map Za).length,0<d,d=(a.map Za).length,(a.map Za)[Int.toNat (w64 ((a.length:Int)-1))]?=some (Za p),d=(a.map Za).length,(0:Int)≤(w64 ((a.length:Int)-1)),(w64 ((a.length:Int)-1))<((d:Nat):Int),d=(a.map Za).length,0<d,d=(a.map Za).length,(a.map Za)[Int.toNat (w64 ((a.length:Int)-1))]?=some (Za q)])) (zm) [(8,.cells (Za p)),(14,.cells (Za q))] ⟨zt,a3.1,z0,zt,(by omega),zt,(Zs (Zt _ b0)),zt,a5.1,z0,zt,(by omega),zt,(Zs (Zt _ b1)),trivial⟩ ?_
 exact ⟨(a.set (Int.toNat (w64 ((a.length:Int)-1))) ({ q with f_Hi:=(mx p.f_Hi h.f_Hi) }:Zb)),d,jk,zt,e⟩ }
 {
 have e:=Zj e u
 obtain ⟨a4,e⟩:=Zo e
 refine Wm (((a.map Za) ++ (([h]:List Zb).map Za)):(List (List PV))) ((a ++ ([h]:List Zb)).map Za) (fun m_=>([(3,ar 103 (d+1)),(11,one (.sl (c.map Za))),(12,oi (c.length:Int)),(13,oi f)],[(103,.arr 2 m_)],[d=(a.map Za).length,(a.map Za).length+(([h]:List Zb).map Za).length≤1073741824,∀es,es∈(([h]:List Zb).map Za)→es.length=2])) (zm) [] ⟨zt,(by first | exact a4 | (simp only [List.length_map,Zi];exact a4)),(ZQ ([h]:List Zb)),trivial⟩ ?_
 exact ⟨(a ++ ([h]:List Zb)),(d+1),jk,zt,e⟩ } }
 {
 rcases zo_ (decide ((a.length:Int) > 0)) with j | j
 {
 have e:=Zk e j
 obtain ⟨a2,e⟩:=Zo e
 obtain ⟨x,a9,e⟩:=Zh e
 refine Wd [(2,.bool true),(10,.cells (Za x))] [(3,ar 103 d),(5,pt 105),(6,oi (a.length:Int)),(11,one (.sl (c.map Za))),(12,oi (c.length:Int)),(13,oi f),(32,ob (decide (h.f_Lo≤(w64 (x.f_Hi+1)))))] [(103,.arr 2 (a.map Za)),(105,bx (Za h))] [(decide ((a.length:Int) > 0))=true,d=(a.map Za).length,(0:Int)≤(w64 ((a.length:Int)-1)),(w64 ((a.length:Int)-1))<((d:Nat):Int),d=(a.map Za).length,0<d,d=(a.map Za).length,(a.map Za)[Int.toNat (w64 ((a.length:Int)-1))]?=some (Za x)] ⟨j,zt,a2.1,(by have h_:=a2.2;(try simp only [zl,Zi] at h_ ⊢);omega),zt,(by omega),zt,(Zs (Zt _ a9)),trivial⟩ ?_
 exact ⟨(decide (h.f_Lo≤(w64 (x.f_Hi+1)))),jk,e⟩ }
 {
 have e:=Zj e j
 refine Wd [(2,.bool false)] [(3,ar 103 d),(5,pt 105),(6,oi (a.length:Int)),(11,one (.sl (c.map Za))),(12,oi (c.length:Int)),(13,oi f),(32,ob false)] [(103,.arr 2 (a.map Za)),(105,bx (Za h))] [(decide ((a.length:Int) > 0))=false] ⟨j,trivial⟩ ?_
 exact ⟨false,jk,e⟩ } } } }
  {
 have e:=Zj e t
 refine WA.exit ?_
 refine Ws [] [(2,ar 103 d)] [(103,.arr 2 (a.map Za))] ?_
 refine WA.freeze 103 2 (s:=2) (n:=d) (els:=(a.map Za)) rfl rfl zt ?_
 refine Wk [(2,one (.sl (a.map Za)))] [] ?_
 refine WA.ret ?_
 obtain rfl:=zj_ e
 exact Zq (one (.sl (a.map Za))) [] kr kr kr kr nd rfl rfl }
def ZhD (a:(List Zb)→Int→Option (List Zb)) (b:Int) (c:List Zb):Option (List Zb):=
  a c (w64 (b+1))
def ZdO (self8:(List Zb)→Int→Option (List Zb)) (e:(List Zb)→Int→Option (List Zb)) (v1:List Zb) (v158:Int) (a:Zb) (c:List Zb) (d:Int):Option (List Zb):=
  (cond (decide (d<(v1.length:Int))) ((idxL v1 d).bind fun b=>(((cond (decide ((mx a.f_Lo b.f_Lo)≤(mn a.f_Hi b.f_Hi))) (if c.length+([(⟨(mx a.f_Lo b.f_Lo),(mn a.f_Hi b.f_Hi)⟩:Zb)]:List Zb).length≤1073741824 then (ZhD e d (c ++ ([(⟨(mx a.f_Lo b.f_Lo),(mn a.f_Hi b.f_Hi)⟩:Zb)]:List Zb))) else none) ((ZhD e d c)))))) ((self8 c (w64 (v158+1)))))
def ZcQ (self8:(List Zb)→Int→Option (List Zb)) (v1:List Zb) (v158:Int) (a:Zb):Nat→(List Zb)→Int→Option (List Zb)
  | 0,_,_=>none
  | d+1,b,c=>ZdO self8 (ZcQ self8 v1 v158 a d) v1 v158 a b c
def Zfm (k:Nat) (self8:(List Zb)→Int→Option (List Zb)) (v0:List Zb) (v1:List Zb) (a:List Zb) (v158:Int):Option (List Zb):=
  (cond (decide (v158<(v0.length:Int))) ((idxL v0 v158).bind fun b=>((ZcQ self8 v1 v158 b k a 0))) ((F77 k a).bind fun c=>(some c)))
def Zcv (k:Nat) (v0:List Zb) (v1:List Zb):Nat→(List Zb)→Int→Option (List Zb)
  | 0,_,_=>none
  | b+1,a,v158=>Zfm k (Zcv k v0 v1 b) v0 v1 a v158
def F76 (k:Nat) (v0:List Zb) (v1:List Zb):Option (List Zb):=
  (((Zcv k v0 v1 k ([]:List Zb) 0)))
theorem ZlB (k:Nat) (v0:List Zb) (v1:List Zb) (r:List Zb) (d:F76 k v0 v1=some r):SM 76 [one (.sl (v0.map Za)),one (.sl (v1.map Za))] [] (one (.sl (r.map Za))) []:=by
 refine Zz [] Tryz.func76 rfl kr kr ?_
 show WA _ _ 47 _ _ _
 refine Ws [] [(0,one (.sl (v0.map Za))),(1,one (.sl (v1.map Za)))] [] ?_
 refine Ws [(0,.obj 105)] [(0,one (.sl (v0.map Za))),(1,one (.sl (v1.map Za))),(5,ar 105 0)] [(105,.arr 2 (([]:List Zb).map Za))] ?_
 refine WA.seq ?_
 refine WA.seq ?_
 refine Wm ((v0.map Za).length:Int) (v0.length:Int) (fun m_=>([(1,one (.sl (v1.map Za))),(5,ar 105 0),(12,one (.sl (v0.map Za))),(13,oi m_),(14,oi 0)],[(105,.arr 2 (([]:List Zb).map Za))],[])) ((by first | (simp only [zl,Zi];done) | (simp only [zl,Zi];omega) | omega)) [] trivial ?_
 refine WA.block ?_
 refine WA.loop (fun m y=>∃(i:List Zb) (j:Nat) (v158:Int),J y [(1,one (.sl (v1.map Za))),(5,ar 105 j),(12,one (.sl (v0.map Za))),(13,oi (v0.length:Int)),(14,oi v158)] [(105,.arr 2 (i.map Za))]∧j=(i:List _).length∧Zcv k v0 v1 m i v158=some r) k ⟨([]:List Zb),0,0,jk,zt,d⟩ ?_
 clear d
 rintro m8 y ⟨i,j,v158,w,a5,d⟩
 refine Wj w ?_
 clear w
 cases m8 with
 | zero=>cases d
 | succ m8=>
  obtain ⟨self8,x⟩:∃g,g=Zcv k v0 v1 m8:=⟨_,rfl⟩
  have d:Zfm k self8 v0 v1 i v158=some r:=by first | (rw [x];exact d) | exact d
  refine Ws [] [(1,one (.sl (v1.map Za))),(5,ar 105 j),(12,one (.sl (v0.map Za))),(13,oi (v0.length:Int)),(14,oi v158),(15,ob (decide (v158<(v0.length:Int))))] [(105,.arr 2 (i.map Za))] ?_
  refine WA.seq ?_
  refine WA.cond (b:=(decide (v158<(v0.length:Int)))) rfl (fun q=>?_) (fun q=>?_)
  {
 have d:=Zk d q
 refine WA.skip ?_
 refine WA.seq ?_
 refine WA.block ?_
 obtain ⟨a,a2,d⟩:=Zh d
 refine Wos [(0,.cells (Za a)),(2,.obj 107)] [(1,one (.sl (v1.map Za))),(5,ar 105 j),(7,pt 107),(12,one (.sl (v0.map Za))),(13,oi (v0.length:Int)),(14,oi v158)] [(105,.arr 2 (i.map Za)),(107,bx (Za a))] [idxL (v0.map Za) v158=some (Za a)] ⟨(Zt _ a2),trivial⟩ ?_
 refine WA.seq ?_
 refine Wm ((v1.map Za).length:Int) (v1.length:Int) (fun m_=>([(1,one (.sl (v1.map Za))),(5,ar 105 j),(7,pt 107),(12,one (.sl (v0.map Za))),(13,oi (v0.length:Int)),(14,oi v158),(18,one (.sl (v1.map Za))),(19,oi m_),(20,oi 0)],[(105,.arr 2 (i.map Za)),(107,bx (Za a))],[])) ((by first | (simp only [zl,Zi];done) | (simp only [zl,Zi];omega) | omega)) [] trivial ?_
 refine WA.block ?_
 refine WA.loop (fun m y=>∃(e:List Zb) (h:Nat) (f:Int),J y [(1,one (.sl (v1.map Za))),(5,ar 105 h),(7,pt 107),(12,one (.sl (v0.map Za))),(13,oi (v0.length:Int)),(14,oi v158),(18,one (.sl (v1.map Za))),(19,oi (v1.length:Int)),(20,oi f)] [(105,.arr 2 (e.map Za)),(107,bx (Za a))]∧h=(e:List _).length∧ZcQ self8 v1 v158 a m e f=some r) k ⟨i,j,0,jk,zt,d⟩ ?_
 clear d
 rintro m11 y ⟨e,h,f,w,a6,d⟩
 refine Wj w ?_
 clear w
 cases m11 with
 | zero=>cases d
 | succ m11=>
  obtain ⟨z,p⟩:∃g,g=ZcQ self8 v1 v158 a m11:=⟨_,rfl⟩
  have d:ZdO self8 z v1 v158 a e f=some r:=by first | (rw [p];exact d) | exact d
  refine Ws [] [(1,one (.sl (v1.map Za))),(5,ar 105 h),(7,pt 107),(12,one (.sl (v0.map Za))),(13,oi (v0.length:Int)),(14,oi v158),(18,one (.sl (v1.map Za))),(19,oi (v1.length:Int)),(20,oi f),(21,ob (decide (f<(v1.length:Int))))] [(105,.arr 2 (e.map Za)),(107,bx (Za a))] ?_
  refine WA.seq ?_
  refine WA.cond (b:=(decide (f<(v1.length:Int)))) rfl (fun t=>?_) (fun t=>?_)
  {
 have d:=Zk d t
 refine WA.skip ?_
 refine WA.join (fun y=>∃(l:List Zb) (o:Nat),J y [(1,one (.sl (v1.map Za))),(5,ar 105 o),(7,pt 107),(12,one (.sl (v0.map Za))),(13,oi (v0.length:Int)),(14,oi v158),(18,one (.sl (v1.map Za))),(19,oi (v1.length:Int)),(20,oi f)] [(105,.arr 2 (l.map Za)),(107,bx (Za a))]∧o=(l:List _).length∧ZhD z f l=some r) ?_ ?_
 {
 rintro y ⟨l,o,w,a7,d⟩
 refine Wj w ?_
 clear w
 refine Wr [] [(1,one (.sl (v1.map Za))),(5,ar 105 o),(7,pt 107),(12,one (.sl (v0.map Za))),(13,oi (v0.length:Int)),(14,oi v158),(18,one (.sl (v1.map Za))),(19,oi (v1.length:Int)),(20,oi (w64 (f+1)))] [(105,.arr 2 (l.map Za)),(107,bx (Za a))] ?_
 exact ⟨m11,zl_ _,l,o,(w64 (f+1)),jk,zt,by rw [p] at d;exact d⟩ }
 {
 refine WA.block ?_
 obtain ⟨c,a3,d⟩:=Zh d
 refine Wos [(0,.cells (Za c)),(2,.obj 109)] [(1,one (.sl (v1.map Za))),(5,ar 105 h),(7,pt 107),(9,pt 109),(12,one (.sl (v0.map Za))),(13,oi (v0.length:Int)),(14,oi v158),(18,one (.sl (v1.map Za))),(19,oi (v1.length:Int)),(20,oi f)] [(105,.arr 2 (e.map Za)),(107,bx (Za a)),(109,bx (Za c))] [idxL (v1.map Za) f=some (Za c)] ⟨(Zt _ a3),trivial⟩ ?_
 refine WA.seq ?_
 refine Wd [] [(1,one (.sl (v1.map Za))),(5,ar 105 h),(7,pt 107),(10,oi (mx a.f_Lo c.f_Lo)),(11,oi (mn a.f_Hi c.f_Hi)),(12,one (.sl (v0.map Za))),(13,oi (v0.length:Int)),(14,oi v158),(18,one (.sl (v1.map Za))),(19,oi (v1.length:Int)),(20,oi f)] [(105,.arr 2 (e.map Za)),(107,bx (Za a))] [] trivial ?_
 refine Ws [] [(1,one (.sl (v1.map Za))),(5,ar 105 h),(7,pt 107),(10,oi (mx a.f_Lo c.f_Lo)),(11,oi (mn a.f_Hi c.f_Hi)),(12,one (.sl (v0.map Za))),(13,oi (v0.length:Int)),(14,oi v158),(18,one (.sl (v1.map Za))),(19,oi (v1.length:Int)),(20,oi f),(36,ob (decide ((mx a.f_Lo c.f_Lo)≤(mn a.f_Hi c.f_Hi))))] [(105,.arr 2 (e.map Za)),(107,bx (Za a))] ?_
 refine WA.cond (b:=(decide ((mx a.f_Lo c.f_Lo)≤(mn a.f_Hi c.f_Hi)))) rfl (fun u=>?_) (fun u=>?_)
 {
 have d:=Zk d u
 obtain ⟨a0,d⟩:=Zo d
 refine Wm (((e.map Za) ++ (([(⟨(mx a.f_Lo c.f_Lo),(mn a.f_Hi c.f_Hi)⟩:Zb)]:List Zb).map Za)):(List (List PV))) ((e ++ ([(⟨(mx a.f_Lo c.f_Lo),(mn a.f_Hi c.f_Hi)⟩:Zb)]:List Zb)).map Za) (fun m_=>([(1,one (.sl (v1.map Za))),(5,ar 105 (h+1)),(7,pt 107),(12,one (.sl (v0.map Za))),(13,oi (v0.length:Int)),(14,oi v158),(18,one (.sl (v1.map Za))),(19,oi (v1.length:Int)),(20,oi f)],[(105,.arr 2 m_),(107,bx (Za a))],[h=(e.map Za).length,(e.map Za).length+(([(⟨(mx a.f_Lo c.f_Lo),(mn a.f_Hi c.f_Hi)⟩:Zb)]:List Zb).map Za).length≤1073741824,∀es,es∈(([(⟨(mx a.f_Lo c.f_Lo),(mn a.f_Hi c.f_Hi)⟩:Zb)]:List Zb).map Za)→es.length=2])) (zm) [] ⟨zt,(by first | exact a0 | (simp only [List.length_map,Zi];exact a0)),(ZQ ([(⟨(mx a.f_Lo c.f_Lo),(mn a.f_Hi c.f_Hi)⟩:Zb)]:List Zb)),trivial⟩ ?_
 exact ⟨(e ++ ([(⟨(mx a.f_Lo c.f_Lo),(mn a.f_Hi c.f_Hi)⟩:Zb)]:List Zb)),(h+1),jk,zt,d⟩ }
 {
 have d:=Zj d u
 refine WA.skip ?_
 exact ⟨e,h,jk,zt,d⟩ } } }
  {
 have d:=Zj d t
 refine WA.exit ?_
 refine Wr [] [(1,one (.sl (v1.map Za))),(5,ar 105 h),(12,one (.sl (v0.map Za))),(13,oi (v0.length:Int)),(14,oi (w64 (v158+1)))] [(105,.arr 2 (e.map Za))] ?_
 exact ⟨m8,zl_ _,e,h,(w64 (v158+1)),jk,zt,by rw [x] at d;exact d⟩ } }
  {
 have d:=Zj d q
 refine WA.exit ?_
 refine WA.seq ?_
 refine WA.freeze 105 5 (s:=2) (n:=j) (els:=(i.map Za)) rfl rfl zt ?_
 refine Wk [(5,one (.sl (i.map Za)))] [] ?_
 obtain ⟨v,a4,d⟩:=Zh d
 refine Wo [(1,.callR [] (one (.sl (v.map Za))))] [(4,one (.sl (v.map Za)))] [] [SM 77 [one (.sl (i.map Za))] [] (one (.sl (v.map Za))) [],([]:List Nat).Nodup] ⟨(Zi2 k _ _ a4),nd,trivial⟩ ?_
 refine WA.ret ?_
 obtain rfl:=zj_ d
 exact Zq (one (.sl (v.map Za))) [] kr kr kr kr nd rfl rfl }
def Zhc (a:(List Zb)→Int→Int→Option (List Zb)) (b:Int) (d:Zb) (c:List Zb):Option (List Zb):=
  (a c (w64 (d.f_Hi+1)) (w64 (b+1)))
def ZeI (k:Nat) (a:List Zb):Option (List Zb):=
  (F59 k).bind fun b=>(F76 k a b).bind fun c=>(some c)
def Zdo (k:Nat) (e:(List Zb)→Int→Int→Option (List Zb)) (f:List Zb) (a:List Zb) (b:Int) (d:Int):Option (List Zb):=
  (cond (decide (d<(f.length:Int))) ((idxL f d).bind fun c=>((cond (decide (c.f_Lo > b)) (if a.length+([(⟨b,(w64 (c.f_Lo-1))⟩:Zb)]:List Zb).length≤1073741824 then (Zhc e d c (a ++ ([(⟨b,(w64 (c.f_Lo-1))⟩:Zb)]:List Zb))) else none) ((Zhc e d c a))))) (((cond (decide (b≤1114111)) (if a.length+([(⟨b,1114111⟩:Zb)]:List Zb).length≤1073741824 then (ZeI k (a ++ ([(⟨b,1114111⟩:Zb)]:List Zb))) else none) ((ZeI k a))))))
def Zdp (k:Nat) (a:List Zb):Nat→(List Zb)→Int→Int→Option (List Zb)
  | 0,_,_,_=>none
  | e+1,b,c,d=>Zdo k (Zdp k a e) a b c d
def F109 (k:Nat) (v0:List Zb):Option (List Zb):=
  (((F77 k v0).bind fun a=>(Zdp k a k ([]:List Zb) 0 0)))
theorem ZpS (k:Nat) (v0:List Zb) (r:List Zb) (e:F109 k v0=some r):SM 109 [one (.sl (v0.map Za))] [] (one (.sl (r.map Za))) []:=by
 refine Zz [] Tryz.func109 rfl kr kr ?_
 show WA _ _ 40 _ _ _
 refine Ws [] [(0,one (.sl (v0.map Za)))] [] ?_
 refine Ws [(0,.obj 103)] [(0,one (.sl (v0.map Za))),(3,ar 103 0)] [(103,.arr 2 (([]:List Zb).map Za))] ?_
 refine Ws [] [(0,one (.sl (v0.map Za))),(3,ar 103 0),(4,oi 0)] [(103,.arr 2 (([]:List Zb).map Za))] ?_
 refine WA.seq ?_
 refine WA.seq ?_
 obtain ⟨a,a4,e⟩:=Zh e
 refine Wm ((a.map Za).length:Int) (a.length:Int) (fun m_=>([(3,ar 103 0),(4,oi 0),(8,one (.sl (a.map Za))),(9,oi m_),(10,oi 0)],[(103,.arr 2 (([]:List Zb).map Za))],[SM 77 [one (.sl (v0.map Za))] [] (one (.sl (a.map Za))) [],([]:List Nat).Nodup])) ((by first | (simp only [zl,Zi];done) | (simp only [zl,Zi];omega) | omega)) [(1,.callR [] (one (.sl (a.map Za))))] ⟨(Zi2 k _ _ a4),nd,trivial⟩ ?_
 refine WA.block ?_
 refine WA.loop (fun m y=>∃(d:List Zb) (i:Nat) (c:Int) (h:Int),J y [(3,ar 103 i),(4,oi c),(8,one (.sl (a.map Za))),(9,oi (a.length:Int)),(10,oi h)] [(103,.arr 2 (d.map Za))]∧i=(d:List _).length∧Zdp k a m d c h=some r) k ⟨([]:List Zb),0,0,0,jk,zt,e⟩ ?_
 clear e
 rintro m2 y ⟨d,i,c,h,w,a8,e⟩
 refine Wj w ?_
 clear w
 cases m2 with
 | zero=>cases e
 | succ m2=>
  obtain ⟨a2,x⟩:∃g,g=Zdp k a m2:=⟨_,rfl⟩
  have e:Zdo k a2 a d c h=some r:=by first | (rw [x];exact e) | exact e
  refine Ws [] [(3,ar 103 i),(4,oi c),(8,one (.sl (a.map Za))),(9,oi (a.length:Int)),(10,oi h),(11,ob (decide (h<(a.length:Int))))] [(103,.arr 2 (d.map Za))] ?_
  refine WA.seq ?_
  refine WA.cond (b:=(decide (h<(a.length:Int)))) rfl (fun p=>?_) (fun p=>?_)
  {
 have e:=Zk e p
 refine WA.skip ?_
 refine WA.seq ?_
 refine WA.block ?_
 obtain ⟨f,a5,e⟩:=Zh e
 refine Wos [(0,.cells (Za f)),(2,.obj 106)] [(3,ar 103 i),(4,oi c),(6,pt 106),(8,one (.sl (a.map Za))),(9,oi (a.length:Int)),(10,oi h)] [(103,.arr 2 (d.map Za)),(106,bx (Za f))] [idxL (a.map Za) h=some (Za f)] ⟨(Zt _ a5),trivial⟩ ?_
 refine WA.join (fun y=>∃(j:List Zb) (o:Nat),J y [(3,ar 103 o),(6,pt 106),(8,one (.sl (a.map Za))),(9,oi (a.length:Int)),(10,oi h)] [(103,.arr 2 (j.map Za)),(106,bx (Za f))]∧o=(j:List _).length∧Zhc a2 h f j=some r) ?_ ?_
 {
 rintro y ⟨j,o,w,a9,e⟩
 refine Wj w ?_
 clear w
 refine Wr [] [(3,ar 103 o),(4,oi (w64 (f.f_Hi+1))),(8,one (.sl (a.map Za))),(9,oi (a.length:Int)),(10,oi h)] [(103,.arr 2 (j.map Za))] ?_
 refine Wr [] [(3,ar 103 o),(4,oi (w64 (f.f_Hi+1))),(8,one (.sl (a.map Za))),(9,oi (a.length:Int)),(10,oi (w64 (h+1)))] [(103,.arr 2 (j.map Za))] ?_
 exact ⟨m2,zl_ _,j,o,(w64 (f.f_Hi+1)),(w64 (h+1)),jk,zt,by rw [x] at e;exact e⟩ }
 {
 refine Ws [] [(3,ar 103 i),(4,oi c),(6,pt 106),(8,one (.sl (a.map Za))),(9,oi (a.length:Int)),(10,oi h),(17,ob (decide (f.f_Lo > c)))] [(103,.arr 2 (d.map Za)),(106,bx (Za f))] ?_
 refine WA.cond (b:=(decide (f.f_Lo > c))) rfl (fun q=>?_) (fun q=>?_)
 {
 have e:=Zk e q
 obtain ⟨a0,e⟩:=Zo e
 refine Wm (((d.map Za) ++ (([(⟨c,(w64 (f.f_Lo-1))⟩:Zb)]:List Zb).map Za)):(List (List PV))) ((d ++ ([(⟨c,(w64 (f.f_Lo-1))⟩:Zb)]:List Zb)).map Za) (fun m_=>([(3,ar 103 (i+1)),(6,pt 106),(8,one (.sl (a.map Za))),(9,oi (a.length:Int)),(10,oi h)],[(103,.arr 2 m_),(106,bx (Za f))],[i=(d.map Za).length,(d.map Za).length+(([(⟨c,(w64 (f.f_Lo-1))⟩:Zb)]:List Zb).map Za).length≤1073741824,∀es,es∈(([(⟨c,(w64 (f.f_Lo-1))⟩:Zb)]:List Zb).map Za)→es.length=2])) (zm) [] ⟨zt,(by first | exact a0 | (simp only [List.length_map,Zi];exact a0)),(ZQ ([(⟨c,(w64 (f.f_Lo-1))⟩:Zb)]:List Zb)),trivial⟩ ?_
 exact ⟨(d ++ ([(⟨c,(w64 (f.f_Lo-1))⟩:Zb)]:List Zb)),(i+1),jk,zt,e⟩ }
 {
 have e:=Zj e q
 refine WA.skip ?_
 exact ⟨d,i,jk,zt,e⟩ } } }
  {
 have e:=Zj e p
 refine WA.exit ?_
 refine WA.join (fun y=>∃(l:List Zb) (u:Nat),J y [(3,ar 103 u)] [(103,.arr 2 (l.map Za))]∧u=(l:List _).length∧ZeI k l=some r) ?_ ?_
 {
 rintro y ⟨l,u,w,b0,e⟩
 refine Wj w ?_
 clear w
 refine WA.seq ?_
 refine WA.freeze 103 3 (s:=2) (n:=u) (els:=(l.map Za)) rfl rfl zt ?_
 refine Wk [(3,one (.sl (l.map Za)))] [] ?_
 obtain ⟨z,a6,e⟩:=Zh e
 obtain ⟨v,a7,e⟩:=Zh e
 refine Wo [(1,.callR [] (one (.sl (z.map Za)))),(2,.callR [] (one (.sl (v.map Za))))] [(2,one (.sl (v.map Za)))] [] [SM 59 [] [] (one (.sl (z.map Za))) [],([]:List Nat).Nodup,SM 76 [one (.sl (l.map Za)),one (.sl (z.map Za))] [] (one (.sl (v.map Za))) [],([]:List Nat).Nodup] ⟨(Zgx k _ a6),nd,(ZlB k _ _ _ a7),nd,trivial⟩ ?_
 refine WA.ret ?_
 obtain rfl:=zj_ e
 exact Zq (one (.sl (v.map Za))) [] kr kr kr kr nd rfl rfl }
 {
 refine Ws [] [(3,ar 103 i),(4,oi c),(31,ob (decide (c≤1114111)))] [(103,.arr 2 (d.map Za))] ?_
 refine WA.cond (b:=(decide (c≤1114111))) rfl (fun t=>?_) (fun t=>?_)
 {
 have e:=Zk e t
 obtain ⟨a1,e⟩:=Zo e
 refine Wm (((d.map Za) ++ (([(⟨c,1114111⟩:Zb)]:List Zb).map Za)):(List (List PV))) ((d ++ ([(⟨c,1114111⟩:Zb)]:List Zb)).map Za) (fun m_=>([(3,ar 103 (i+1))],[(103,.arr 2 m_)],[i=(d.map Za).length,(d.map Za).length+(([(⟨c,1114111⟩:Zb)]:List Zb).map Za).length≤1073741824,∀es,es∈(([(⟨c,1114111⟩:Zb)]:List Zb).map Za)→es.length=2])) (zm) [] ⟨zt,(by first | exact a1 | (simp only [List.length_map,Zi];exact a1)),(ZQ ([(⟨c,1114111⟩:Zb)]:List Zb)),trivial⟩ ?_
 exact ⟨(d ++ ([(⟨c,1114111⟩:Zb)]:List Zb)),(i+1),jk,zt,e⟩ }
 {
 have e:=Zj e t
 refine WA.skip ?_
 exact ⟨d,i,jk,zt,e⟩ } } }
def Zgt (a:Bool):Option Bool:=
  some a
def Zgu (a:Bool):Option Bool:=
  some a
def Zgv (a:Bool):Option Bool:=
  some a
def Zcs (a:Bool):Option Bool:=
  some a
def ZbA (k:Nat) (v0:Zd) (a:Bool):Option Bool:=
  ((cond (v0.f_Kind == 1) (cond a (cond ((v0.f_L.length:Int) == 0) ((F77 k v0.f_Set).bind fun b=>(F59 k).bind fun c=>(F76 k b c).bind fun d=>(F75 k d v0.f_Set).bind fun e=>(Zgt e)) ((Zgt false))) ((Zgt false))) ((cond (v0.f_Kind == 2) (cond a (cond ((v0.f_L.length:Int) != 1) ((Zgu ((v0.f_Set.length:Int) == 0))) ((Zgu false))) ((Zgu false))) ((cond (v0.f_Kind == 3) (cond a (cond (decide ((v0.f_L.length:Int) > 1)) ((Zgv ((v0.f_Set.length:Int) == 0))) ((Zgv false))) ((Zgv false))) ((cond (v0.f_Kind == 4) (cond ((v0.f_L.length:Int) == 1) (cond ((v0.f_Set.length:Int) == 0) (cond (decide (v0.f_Min≥0)) (cond (decide (v0.f_Min≤20)) (cond (decide (v0.f_Max≤20)) (cond (v0.f_Max == (-1)) ((Zcs true)) ((Zcs (decide (v0.f_Max≥v0.f_Min))))) ((Zcs false))) ((Zcs false))) ((Zcs false))) ((Zcs false))) ((Zcs false))) (((some false)))))))))))
def Zfa (R52:Zd→Int→Option Bool) (k:Nat) (b:Int→Option Bool) (v0:Zd) (v1:Int) (a:Int):Option Bool:=
  (cond (decide (a<(v0.f_L.length:Int))) ((idxL v0.f_L a).bind fun c=>(R52 c (w64 (v1-1))).bind fun d=>(cond (!d) ((some false)) ((b (w64 (a+1)))))) ((cond (v0.f_Min == 0) ((ZbA k v0 (v0.f_Max == 0))) ((ZbA k v0 false)))))
def Zfb (R52:Zd→Int→Option Bool) (k:Nat) (v0:Zd) (v1:Int):Nat→Int→Option Bool
  | 0,_=>none
  | b+1,a=>Zfa R52 k (Zfb R52 k v0 v1 b) v0 v1 a
def Zld (R52:Zd→Int→Option Bool) (k:Nat) (v0:Zd) (v1:Int):Option Bool:=
  ((cond (v1 == 0) ((some false)) (((Zfb R52 k v0 v1 k 0)))))
theorem Zo0 (R52:Zd→Int→Option Bool) (IH52:∀(v0:Zd) (v1:Int) (r:Bool),R52 v0 v1=some r→SM 52 [tv (Zc v0),oi v1] [] (ob r) []) (k:Nat) (v0:Zd) (v1:Int) (r:Bool) (a:Zld R52 k v0 v1=some r):SM 52 [tv (Zc v0),oi v1] [] (ob r) []:=by
 refine Zz [] Tryz.func52 rfl kr kr ?_
 show WA _ _ 121 _ _ _
 refine Ws [(0,.obj 102)] [(1,oi v1),(2,pt 102)] [(102,bx (Zc v0))] ?_
 refine WA.seq ?_
 refine Ws [] [(1,oi v1),(2,pt 102),(9,ob (v1 == 0))] [(102,bx (Zc v0))] ?_
 refine WA.cond (b:=(v1 == 0)) rfl (fun y=>?_) (fun y=>?_)
 {
 have a:=Zk a y
 refine Ws [] [(4,ob false)] [] ?_
 refine WA.ret ?_
 obtain rfl:=zj_ a
 exact Zq (ob false) [] kr kr kr kr nd rfl rfl }
 {
 have a:=Zj a y
 refine WA.skip ?_
 refine WA.seq ?_
 refine WA.seq ?_
 refine Wm ((Zm v0.f_L).length:Int) (v0.f_L.length:Int) (fun d=>([(1,oi v1),(2,pt 102),(11,one (.sl (Zm v0.f_L))),(12,oi d),(13,oi 0)],[(102,bx (Zc v0))],[])) ((by first | (simp only [zl,Zi];done) | (simp only [zl,Zi];omega) | omega)) [] trivial ?_
 refine WA.block ?_
 refine WA.loop (fun m n=>∃(f:Int),J n [(1,oi v1),(2,pt 102),(11,one (.sl (Zm v0.f_L))),(12,oi (v0.f_L.length:Int)),(13,oi f)] [(102,bx (Zc v0))]∧Zfb R52 k v0 v1 m f=some r) k ⟨0,jk,a⟩ ?_
 clear a
 rintro m0 n ⟨f,l,a⟩
 refine Wj l ?_
 clear l
 cases m0 with
 | zero=>cases a
 | succ m0=>
  obtain ⟨c2,b2⟩:∃g,g=Zfb R52 k v0 v1 m0:=⟨_,rfl⟩
  have a:Zfa R52 k c2 v0 v1 f=some r:=by first | (rw [b2];exact a) | exact a
  refine Ws [] [(1,oi v1),(2,pt 102),(11,one (.sl (Zm v0.f_L))),(12,oi (v0.f_L.length:Int)),(13,oi f),(14,ob (decide (f<(v0.f_L.length:Int))))] [(102,bx (Zc v0))] ?_
  refine WA.seq ?_
  refine WA.cond (b:=(decide (f<(v0.f_L.length:Int)))) rfl (fun z=>?_) (fun z=>?_)
  {
 have a:=Zk a z
 refine WA.skip ?_
 refine WA.seq ?_
 refine WA.block ?_
 obtain ⟨a9,b6,a⟩:=Zh a
 refine Wos [(0,.cells (Zc a9)),(2,.obj 106)] [(1,oi v1),(2,pt 102),(6,pt 106),(11,one (.sl (Zm v0.f_L))),(12,oi (v0.f_L.length:Int)),(13,oi f)] [(102,bx (Zc v0)),(106,bx (Zc a9))] [idxL (Zm v0.f_L) f=some (Zc a9)] ⟨(ZR b6),trivial⟩ ?_
 obtain ⟨b0,b7,a⟩:=Zh a
 refine Wos [(3,.callR [] (ob b0))] [(1,oi v1),(2,pt 102),(11,one (.sl (Zm v0.f_L))),(12,oi (v0.f_L.length:Int)),(13,oi f),(21,ob (!b0))] [(102,bx (Zc v0))] [SM 52 [tv (Zc a9),oi (w64 (v1-1))] [] (ob b0) [],([]:List Nat).Nodup] ⟨(IH52 _ _ _ b7),nd,trivial⟩ ?_
 refine WA.cond (b:=(!b0)) rfl (fun a0=>?_) (fun a0=>?_)
 {
 have a:=Zk a a0
 refine Ws [] [(4,ob false)] [] ?_
 refine WA.ret ?_
 obtain rfl:=zj_ a
 exact Zq (ob false) [] kr kr kr kr nd rfl rfl }
 {
 have a:=Zj a a0
 refine WA.skip ?_
 refine Wr [] [(1,oi v1),(2,pt 102),(11,one (.sl (Zm v0.f_L))),(12,oi (v0.f_L.length:Int)),(13,oi (w64 (f+1)))] [(102,bx (Zc v0))] ?_
 exact ⟨m0,zl_ _,(w64 (f+1)),jk,by rw [b2] at a;exact a⟩ } }
  {
 have a:=Zj a z
 refine WA.exit ?_
 refine WA.join (fun n=>∃(c:Bool),J n [(2,pt 102),(7,ob c)] [(102,bx (Zc v0))]∧ZbA k v0 c=some r) ?_ ?_
 {
 rintro n ⟨c,l,a⟩
 refine Wj l ?_
 clear l
 refine WA.seq ?_
 refine Ws [] [(2,pt 102),(7,ob c),(32,oi v0.f_Kind)] [(102,bx (Zc v0))] ?_
 refine WA.block ?_
 refine Ws [] [(2,pt 102),(7,ob c),(32,oi v0.f_Kind),(33,ob (v0.f_Kind == 1))] [(102,bx (Zc v0))] ?_
 refine WA.cond (b:=(v0.f_Kind == 1)) rfl (fun a1=>?_) (fun a1=>?_)
 {
 have a:=Zk a a1
 refine WA.join (fun n=>∃(a5:Bool),J n [(4,ob a5)] []∧Zgt a5=some r) ?_ ?_
 {
 rintro n ⟨a5,l,a⟩
 refine Wj l ?_
 clear l
 refine WA.ret ?_
 obtain rfl:=zj_ a
 exact Zq (ob a5) [] kr kr kr kr nd rfl rfl }
 {
 rcases zo_ c with o | o
 {
 have a:=Zk a o
 rcases zo_ ((v0.f_L.length:Int) == 0) with u | u
 {
 have a:=Zk a u
 obtain ⟨b3,b8,a⟩:=Zh a
 obtain ⟨b4,b9,a⟩:=Zh a
 obtain ⟨b5,c0,a⟩:=Zh a
 obtain ⟨b1,c1,a⟩:=Zh a
 refine Wdm ((Zm v0.f_L).length:Int) (v0.f_L.length:Int) (fun d=>([(4,ob b1)],[],[c=true,(d == 0)=true,SM 77 [one (.sl (v0.f_Set.map Za))] [] (one (.sl (b3.map Za))) [],([]:List Nat).Nodup,SM 59 [] [] (one (.sl (b4.map Za))) [],([]:List Nat).Nodup,SM 76 [one (.sl (b3.map Za)),one (.sl (b4.map Za))] [] (one (.sl (b5.map Za))) [],([]:List Nat).Nodup,SM 75 [one (.sl (b5.map Za)),one (.sl (v0.f_Set.map Za))] [] (ob b1) [],([]:List Nat).Nodup])) ((by first | (simp only [zl,Zi];done) | (simp only [zl,Zi];omega) | omega)) [(1,.bool true),(7,.bool true),(10,.callR [] (one (.sl (b3.map Za)))),(11,.callR [] (one (.sl (b4.map Za)))),(12,.callR [] (one (.sl (b5.map Za)))),(15,.callR [] (ob b1))] ⟨o,u,(Zi2 k _ _ b8),nd,(Zgx k _ b9),nd,(ZlB k _ _ _ c0),nd,(ZqT k _ _ _ c1),nd,trivial⟩ ?_
 exact ⟨b1,jk,a⟩ }
 {
 have a:=Zj a u
 refine Wdm ((Zm v0.f_L).length:Int) (v0.f_L.length:Int) (fun d=>([(4,ob false)],[],[c=true,(d == 0)=false])) ((by first | (simp only [zl,Zi];done) | (simp only [zl,Zi];omega) | omega)) [(1,.bool true),(7,.bool false),(10,.callR [] (.tup [])),(11,.callR [] (.tup [])),(12,.callR [] (.tup [])),(15,.callR [] (.tup []))] ⟨o,u,trivial⟩ ?_
 exact ⟨false,jk,a⟩ } }
 {
 have a:=Zj a o
 refine Wd [(1,.bool false),(10,.callR [] (.tup [])),(11,.callR [] (.tup [])),(12,.callR [] (.tup [])),(15,.callR [] (.tup []))] [(4,ob false)] [] [c=false] ⟨o,trivial⟩ ?_
 exact ⟨false,jk,a⟩ } } }
 {
 have a:=Zj a a1
 refine Ws [] [(2,pt 102),(7,ob c),(32,oi v0.f_Kind),(52,ob (v0.f_Kind == 2))] [(102,bx (Zc v0))] ?_
 refine WA.cond (b:=(v0.f_Kind == 2)) rfl (fun a2=>?_) (fun a2=>?_)
 {
 have a:=Zk a a2
 refine WA.join (fun n=>∃(a6:Bool),J n [(4,ob a6)] []∧Zgu a6=some r) ?_ ?_
 {
 rintro n ⟨a6,l,a⟩
 refine Wj l ?_
 clear l
 refine WA.ret ?_
 obtain rfl:=zj_ a
 exact Zq (ob a6) [] kr kr kr kr nd rfl rfl }
 {
 rcases zo_ c with p | p
 {
 have a:=Zk a p
 rcases zo_ ((v0.f_L.length:Int) != 1) with v | v
 {
 have a:=Zk a v
 refine Wm ((((v0.f_Set.map Za).length:Int),((Zm v0.f_L).length:Int)):Int×Int) ((v0.f_Set.length:Int),(v0.f_L.length:Int)) (fun d=>([(4,ob (d.1 == 0))],[],[c=true,(d.2 != 1)=true])) (ZH (by first | (simp only [zl,Zi];done) | (simp only [zl,Zi];omega) | omega) (by first | (simp only [zl,Zi];done) | (simp only [zl,Zi];omega) | omega)) [(1,.bool true),(7,.bool true)] ⟨p,v,trivial⟩ ?_
 exact ⟨((v0.f_Set.length:Int) == 0),jk,a⟩ }
 {
 have a:=Zj a v
 refine Wm ((Zm v0.f_L).length:Int) (v0.f_L.length:Int) (fun d=>([(4,ob false)],[],[c=true,(d != 1)=false])) ((by first | (simp only [zl,Zi];done) | (simp only [zl,Zi];omega) | omega)) [(1,.bool true),(7,.bool false)] ⟨p,v,trivial⟩ ?_
 exact ⟨false,jk,a⟩ } }
 {
 have a:=Zj a p
 refine Wo [(1,.bool false)] [(4,ob false)] [] [c=false] ⟨p,trivial⟩ ?_
 exact ⟨false,jk,a⟩ } } }
 {
 have a:=Zj a a2
 refine Ws [] [(2,pt 102),(7,ob c),(32,oi v0.f_Kind),(67,ob (v0.f_Kind == 3))] [(102,bx (Zc v0))] ?_
 refine WA.cond (b:=(v0.f_Kind == 3)) rfl (fun a3=>?_) (fun a3=>?_)
 {
 have a:=Zk a a3
 refine WA.join (fun n=>∃(a7:Bool),J n [(4,ob a7)] []∧Zgv a7=some r) ?_ ?_
 {
 rintro n ⟨a7,l,a⟩
 refine Wj l ?_
 clear l
 refine WA.ret ?_
 obtain rfl:=zj_ a
 exact Zq (ob a7) [] kr kr kr kr nd rfl rfl }
 {
 rcases zo_ c with q | q
 {
 have a:=Zk a q
 rcases zo_ (decide ((v0.f_L.length:Int) > 1)) with w | w
 {
 have a:=Zk a w
 refine Wm ((((v0.f_Set.map Za).length:Int),((Zm v0.f_L).length:Int)):Int×Int) ((v0.f_Set.length:Int),(v0.f_L.length:Int)) (fun d=>([(4,ob (d.1 == 0))],[],[c=true,(decide (d.2 > 1))=true])) (ZH (by first | (simp only [zl,Zi];done) | (simp only [zl,Zi];omega) | omega) (by first | (simp only [zl,Zi];done) | (simp only [zl,Zi];omega) | omega)) [(1,.bool true),(7,.bool true)] ⟨q,w,trivial⟩ ?_
 exact ⟨((v0.f_Set.length:Int) == 0),jk,a⟩ }
 {
 have a:=Zj a w
 refine Wm ((Zm v0.f_L).length:Int) (v0.f_L.length:Int) (fun d=>([(4,ob false)],[],[c=true,(decide (d > 1))=false])) ((by first | (simp only [zl,Zi];done) | (simp only [zl,Zi];omega) | omega)) [(1,.bool true),(7,.bool false)] ⟨q,w,trivial⟩ ?_
 exact ⟨false,jk,a⟩ } }
 {
 have a:=Zj a q
 refine Wo [(1,.bool false)] [(4,ob false)] [] [c=false] ⟨q,trivial⟩ ?_
 exact ⟨false,jk,a⟩ } } }
 {
 have a:=Zj a a3
 refine Ws [] [(2,pt 102),(82,ob (v0.f_Kind == 4))] [(102,bx (Zc v0))] ?_
 refine WA.cond (b:=(v0.f_Kind == 4)) rfl (fun a4=>?_) (fun a4=>?_)
 {
 have a:=Zk a a4
 refine WA.join (fun n=>∃(a8:Bool),J n [(4,ob a8)] []∧Zcs a8=some r) ?_ ?_
 {
 rintro n ⟨a8,l,a⟩
 refine Wj l ?_
 clear l
 refine WA.ret ?_
 obtain rfl:=zj_ a
 exact Zq (ob a8) [] kr kr kr kr nd rfl rfl }
 {
 rcases zo_ ((v0.f_L.length:Int) == 1) with e | e
 {
 have a:=Zk a e
 rcases zo_ ((v0.f_Set.length:Int) == 0) with h | h
 {
 have a:=Zk a h
 rcases zo_ (decide (v0.f_Min≥0)) with i | i
 {
 have a:=Zk a i
 rcases zo_ (decide (v0.f_Min≤20)) with j | j
 {
 have a:=Zk a j
 rcases zo_ (decide (v0.f_Max≤20)) with s | s
 {
 have a:=Zk a s
 rcases zo_ (v0.f_Max == (-1)) with x | x
 {
 have a:=Zk a x
 refine Wm ((((Zm v0.f_L).length:Int),((v0.f_Set.map Za).length:Int)):Int×Int) ((v0.f_L.length:Int),(v0.f_Set.length:Int)) (fun d=>([(4,ob true)],[],[(d.1 == 1)=true,(d.2 == 0)=true,(decide (v0.f_Min≥0))=true,(decide (v0.f_Min≤20))=true,(decide (v0.f_Max≤20))=true,(v0.f_Max == (-1))=true])) (ZH (by first | (simp only [zl,Zi];done) | (simp only [zl,Zi];omega) | omega) (by first | (simp only [zl,Zi];done) | (simp only [zl,Zi];omega) | omega)) [(4,.bool true),(10,.bool true),(15,.bool true),(20,.bool true),(25,.bool true),(29,.bool true)] ⟨e,h,i,j,s,x,trivial⟩ ?_
 exact ⟨true,jk,a⟩ }
 {
 have a:=Zj a x
 refine Wm ((((Zm v0.f_L).length:Int),((v0.f_Set.map Za).length:Int)):Int×Int) ((v0.f_L.length:Int),(v0.f_Set.length:Int)) (fun d=>([(4,ob (decide (v0.f_Max≥v0.f_Min)))],[],[(d.1 == 1)=true,(d.2 == 0)=true,(decide (v0.f_Min≥0))=true,(decide (v0.f_Min≤20))=true,(decide (v0.f_Max≤20))=true,(v0.f_Max == (-1))=false])) (ZH (by first | (simp only [zl,Zi];done) | (simp only [zl,Zi];omega) | omega) (by first | (simp only [zl,Zi];done) | (simp only [zl,Zi];omega) | omega)) [(4,.bool true),(10,.bool true),(15,.bool true),(20,.bool true),(25,.bool true),(29,.bool false)] ⟨e,h,i,j,s,x,trivial⟩ ?_
 exact ⟨(decide (v0.f_Max≥v0.f_Min)),jk,a⟩ } }
 {
 have a:=Zj a s
 refine Wm ((((Zm v0.f_L).length:Int),((v0.f_Set.map Za).length:Int)):Int×Int) ((v0.f_L.length:Int),(v0.f_Set.length:Int)) (fun d=>([(4,ob false)],[],[(d.1 == 1)=true,(d.2 == 0)=true,(decide (v0.f_Min≥0))=true,(decide (v0.f_Min≤20))=true,(decide (v0.f_Max≤20))=false])) (ZH (by first | (simp only [zl,Zi];done) | (simp only [zl,Zi];omega) | omega) (by first | (simp only [zl,Zi];done) | (simp only [zl,Zi];omega) | omega)) [(4,.bool true),(10,.bool true),(15,.bool true),(20,.bool true),(25,.bool false)] ⟨e,h,i,j,s,trivial⟩ ?_
 exact ⟨false,jk,a⟩ } }
 {
 have a:=Zj a j
 refine Wm ((((Zm v0.f_L).length:Int),((v0.f_Set.map Za).length:Int)):Int×Int) ((v0.f_L.length:Int),(v0.f_Set.length:Int)) (fun d=>([(4,ob false)],[],[(d.1 == 1)=true,(d.2 == 0)=true,(decide (v0.f_Min≥0))=true,(decide (v0.f_Min≤20))=false])) (ZH (by first | (simp only [zl,Zi];done) | (simp only [zl,Zi];omega) | omega) (by first | (simp only [zl,Zi];done) | (simp only [zl,Zi];omega) | omega)) [(4,.bool true),(10,.bool true),(15,.bool true),(20,.bool false)] ⟨e,h,i,j,trivial⟩ ?_
 exact ⟨false,jk,a⟩ } }
 {
 have a:=Zj a i
 refine Wm ((((Zm v0.f_L).length:Int),((v0.f_Set.map Za).length:Int)):Int×Int) ((v0.f_L.length:Int),(v0.f_Set.length:Int)) (fun d=>([(4,ob false)],[],[(d.1 == 1)=true,(d.2 == 0)=true,(decide (v0.f_Min≥0))=false])) (ZH (by first | (simp only [zl,Zi];done) | (simp only [zl,Zi];omega) | omega) (by first | (simp only [zl,Zi];done) | (simp only [zl,Zi];omega) | omega)) [(4,.bool true),(10,.bool true),(15,.bool false)] ⟨e,h,i,trivial⟩ ?_
 exact ⟨false,jk,a⟩ } }
 {
 have a:=Zj a h
 refine Wm ((((Zm v0.f_L).length:Int),((v0.f_Set.map Za).length:Int)):Int×Int) ((v0.f_L.length:Int),(v0.f_Set.length:Int)) (fun d=>([(4,ob false)],[],[(d.1 == 1)=true,(d.2 == 0)=false])) (ZH (by first | (simp only [zl,Zi];done) | (simp only [zl,Zi];omega) | omega) (by first | (simp only [zl,Zi];done) | (simp only [zl,Zi];omega) | omega)) [(4,.bool true),(10,.bool false)] ⟨e,h,trivial⟩ ?_
 exact ⟨false,jk,a⟩ } }
 {
 have a:=Zj a e
 refine Wm ((Zm v0.f_L).length:Int) (v0.f_L.length:Int) (fun d=>([(4,ob false)],[],[(d == 1)=false])) ((by first | (simp only [zl,Zi];done) | (simp only [zl,Zi];omega) | omega)) [(4,.bool false)] ⟨e,trivial⟩ ?_
 exact ⟨false,jk,a⟩ } } }
 {
 have a:=Zj a a4
 refine WA.skip ?_
 refine Ws [] [(4,ob false)] [] ?_
 refine WA.ret ?_
 obtain rfl:=zj_ a
 exact Zq (ob false) [] kr kr kr kr nd rfl rfl } } } } }
 {
 rcases zo_ (v0.f_Min == 0) with t | t
 {
 have a:=Zk a t
 refine Wo [(3,.bool true)] [(2,pt 102),(7,ob (v0.f_Max == 0))] [(102,bx (Zc v0))] [(v0.f_Min == 0)=true] ⟨t,trivial⟩ ?_
 exact ⟨(v0.f_Max == 0),jk,a⟩ }
 {
 have a:=Zj a t
 refine Wo [(3,.bool false)] [(2,pt 102),(7,ob false)] [(102,bx (Zc v0))] [(v0.f_Min == 0)=false] ⟨t,trivial⟩ ?_
 exact ⟨false,jk,a⟩ } } } }
def F52:Nat→Zd→Int→Option Bool
  | 0,_,_=>none
  | k+1,v0,v1=>Zld (F52 k) k v0 v1
theorem Zlw:∀(k:Nat),∀(v0:Zd) (v1:Int) (r:Bool),F52 k v0 v1=some r→SM 52 [tv (Zc v0),oi v1] [] (ob r) []
  | 0=>fun _ _ _ a=>by cases a
  | k+1=>fun v0 v1 r a=>Zo0 (F52 k) (Zlw k) k v0 v1 r a
def ZiH (a:Bool):Option Bool:=
  some a
def F30 (k:Nat) (v0:Zd):Option Bool:=
  (F52 k v0 16).bind fun a=>cond a ((F32 k v0).bind fun b=>(ZiH (decide (b≤200)))) ((ZiH false))
theorem Zn1 (k:Nat) (v0:Zd) (r:Bool) (c:F30 k v0=some r):SM 30 [tv (Zc v0)] [] (ob r) []:=by
 refine Zz [] Tryz.func30 rfl kr kr ?_
 show WA _ _ 10 _ _ _
 refine Ws [(0,.obj 101)] [(1,pt 101)] [(101,bx (Zc v0))] ?_
 refine WA.join (fun i=>∃(d:Bool),J i [(2,ob d)] []∧ZiH d=some r) ?_ ?_
 {
 rintro i ⟨d,h,c⟩
 refine Wj h ?_
 clear h
 refine WA.ret ?_
 obtain rfl:=zj_ c
 exact Zq (ob d) [] kr kr kr kr nd rfl rfl }
 {
 obtain ⟨a,f,c⟩:=Zh c
 rcases zo_ a with b | b
 {
 have c:=Zk c b
 obtain ⟨e,g,c⟩:=Zh c
 refine Wo [(1,.callR [] (ob a)),(2,.bool true),(4,.callR [] (oi e))] [(2,ob (decide (e≤200)))] [] [SM 52 [tv (Zc v0),oi 16] [] (ob a) [],([]:List Nat).Nodup,a=true,SM 32 [tv (Zc v0)] [] (oi e) [],([]:List Nat).Nodup] ⟨(Zlw k _ _ _ f),nd,b,(ZiJ k _ _ g),nd,trivial⟩ ?_
 exact ⟨(decide (e≤200)),jk,c⟩ }
 {
 have c:=Zj c b
 refine Wo [(1,.callR [] (ob a)),(2,.bool false)] [(2,ob false)] [] [SM 52 [tv (Zc v0),oi 16] [] (ob a) [],([]:List Nat).Nodup,a=false] ⟨(Zlw k _ _ _ f),nd,b,trivial⟩ ?_
 exact ⟨false,jk,c⟩ } }
end Go.Proofs.YthilboheomikjaaGreatDoor
end
section
namespace Go.Proofs.YthilboheomikjaaGreatDoor
open Go.AL
structure Zu where
  f_set:List Zb
  f_some:Bool
  f_next:List Int
  f_x:Bool
def ZK (x:Zu):List PV:=[.sl (x.f_set.map Za),.bool x.f_some,.sl (x.f_next.map (eInt .i64))]
def Zp (x:Zu):List PV:=[.sl (x.f_set.map Za),.bool x.f_some,cond x.f_x (.slc (x.f_next.map (eInt .i64))) (.sl (x.f_next.map (eInt .i64)))]
theorem Zk5 (l:List Zu):∀es,es∈l.map Zp→es.length=3:=fun es h=>by obtain ⟨y,_,rfl⟩:=List.mem_map.1 h;rfl
structure Zr where
  f_nodes:List Zu
  f_first:Int
def Zw (x:Zr):List PV:=[.sl (x.f_nodes.map ZK),.int .i64 x.f_first]
end Go.Proofs.YthilboheomikjaaGreatDoor
end
