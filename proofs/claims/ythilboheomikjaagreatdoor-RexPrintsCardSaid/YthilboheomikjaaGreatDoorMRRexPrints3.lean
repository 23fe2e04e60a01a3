/- GS, G8, A24, A25, A27, GR, G20, Q2, S1, S2 -/
import Derived.Test.YthilboheomikjaaGreatDoorMRRexPrints2
import Derived.Scope
import Derived.Control
import Derived.Lib.ValidLaws
set_option linter.unusedVariables false
set_option linter.unusedSimpArgs false
section
namespace Go.Proofs.YthilboheomikjaaGreatDoor
open Go.AL
variable {μ:Int}
set_option maxRecDepth 100000
def F160 (k:Nat) (v0:Int):Option Int:=
  (F112 k (IntKind.wrap .u64 v0)).bind fun a=>if (0:Int)≤a then (some (IntKind.wrap .u64 (1*2 ^ (min (Int.toNat a) 64)))) else none
theorem ZqM (k:Nat) (v0:Int) (r:Int) (b:F160 k v0=some r):SM μ 160 [oi v0] [] (one (.int .u64 r)) []:=by
 refine Zz [] Tryz.func160 rfl kr kr ?_
 show WA _ _ 7 _ _ _
 refine Ws [] [(0,oi v0)] [] ?_
 obtain ⟨a,d,b⟩:=Zh b
 obtain ⟨c,b⟩:=Zn b
 refine Wos [(2,.callR [] (oi a))] [(2,one (.int .u64 (IntKind.wrap .u64 (1*2 ^ (min (Int.toNat a) 64)))))] [] [SM μ 112 [one (.int .u64 (IntKind.wrap .u64 v0))] [] (oi a) [],([]:List Nat).Nodup,(0:Int)≤a] ⟨(ZmM k _ _ d),nd,c,trivial⟩ ?_
 refine WA.ret ?_
 obtain rfl:=zj_ b
 exact Zo (one (.int .u64 (IntKind.wrap .u64 (1*2 ^ (min (Int.toNat a) 64))))) [] kr kr kr kr nd rfl rfl
def F161 (k:Nat) (v0:Int):Option (Int×Int):=
  (if (0:Int)≤13 then (if (0:Int)≤7 then (if (0:Int)≤17 then ((some ((ZB .xor .u64 (ZB .xor .u64 (ZB .xor .u64 v0 (IntKind.wrap .u64 (v0*2 ^ (min (Int.toNat 13) 64)))) (Int.fdiv (ZB .xor .u64 v0 (IntKind.wrap .u64 (v0*2 ^ (min (Int.toNat 13) 64)))) (2 ^ (min (Int.toNat 7) 64)))) (IntKind.wrap .u64 ((ZB .xor .u64 (ZB .xor .u64 v0 (IntKind.wrap .u64 (v0*2 ^ (min (Int.toNat 13) 64)))) (Int.fdiv (ZB .xor .u64 v0 (IntKind.wrap .u64 (v0*2 ^ (min (Int.toNat 13) 64)))) (2 ^ (min (Int.toNat 7) 64))))*2 ^ (min (Int.toNat 17) 64)))),(ZB .xor .u64 (ZB .xor .u64 (ZB .xor .u64 v0 (IntKind.wrap .u64 (v0*2 ^ (min (Int.toNat 13) 64)))) (Int.fdiv (ZB .xor .u64 v0 (IntKind.wrap .u64 (v0*2 ^ (min (Int.toNat 13) 64)))) (2 ^ (min (Int.toNat 7) 64)))) (IntKind.wrap .u64 ((ZB .xor .u64 (ZB .xor .u64 v0 (IntKind.wrap .u64 (v0*2 ^ (min (Int.toNat 13) 64)))) (Int.fdiv (ZB .xor .u64 v0 (IntKind.wrap .u64 (v0*2 ^ (min (Int.toNat 13) 64)))) (2 ^ (min (Int.toNat 7) 64))))*2 ^ (min (Int.toNat 17) 64))))))) else none) else none) else none)
theorem ZqN (k:Nat) (v0:Int) (r:Int×Int) (a:F161 k v0=some r):SM μ 161 [pt 0] [bx [.int .u64 v0]] (one (.int .u64 r.1)) [bx [.int .u64 r.2]]:=by
 refine Zz [0] Tryz.func161 rfl kr kr ?_
 show WA _ _ 33 _ _ _
 refine Ws [] [(0,pt 0)] [(0,bx [.int .u64 v0])] ?_
 refine WA.seq ?_
 obtain ⟨b,a⟩:=Zn a
 refine Wd [] [(0,pt 0)] [(0,bx [.int .u64 (ZB .xor .u64 v0 (IntKind.wrap .u64 (v0*2 ^ (min (Int.toNat 13) 64))))])] [(0:Int)≤13] ⟨b,trivial⟩ ?_
 refine WA.seq ?_
 obtain ⟨c,a⟩:=Zn a
 refine Wd [] [(0,pt 0)] [(0,bx [.int .u64 (ZB .xor .u64 (ZB .xor .u64 v0 (IntKind.wrap .u64 (v0*2 ^ (min (Int.toNat 13) 64)))) (Int.fdiv (ZB .xor .u64 v0 (IntKind.wrap .u64 (v0*2 ^ (min (Int.toNat 13) 64)))) (2 ^ (min (Int.toNat 7) 64))))])] [(0:Int)≤7] ⟨c,trivial⟩ ?_
 refine WA.seq ?_
 obtain ⟨d,a⟩:=Zn a
 refine Wd [] [(0,pt 0)] [(0,bx [.int .u64 (ZB .xor .u64 (ZB .xor .u64 (ZB .xor .u64 v0 (IntKind.wrap .u64 (v0*2 ^ (min (Int.toNat 13) 64)))) (Int.fdiv (ZB .xor .u64 v0 (IntKind.wrap .u64 (v0*2 ^ (min (Int.toNat 13) 64)))) (2 ^ (min (Int.toNat 7) 64)))) (IntKind.wrap .u64 ((ZB .xor .u64 (ZB .xor .u64 v0 (IntKind.wrap .u64 (v0*2 ^ (min (Int.toNat 13) 64)))) (Int.fdiv (ZB .xor .u64 v0 (IntKind.wrap .u64 (v0*2 ^ (min (Int.toNat 13) 64)))) (2 ^ (min (Int.toNat 7) 64))))*2 ^ (min (Int.toNat 17) 64))))])] [(0:Int)≤17] ⟨d,trivial⟩ ?_
 refine Ws [] [(2,one (.int .u64 (ZB .xor .u64 (ZB .xor .u64 (ZB .xor .u64 v0 (IntKind.wrap .u64 (v0*2 ^ (min (Int.toNat 13) 64)))) (Int.fdiv (ZB .xor .u64 v0 (IntKind.wrap .u64 (v0*2 ^ (min (Int.toNat 13) 64)))) (2 ^ (min (Int.toNat 7) 64)))) (IntKind.wrap .u64 ((ZB .xor .u64 (ZB .xor .u64 v0 (IntKind.wrap .u64 (v0*2 ^ (min (Int.toNat 13) 64)))) (Int.fdiv (ZB .xor .u64 v0 (IntKind.wrap .u64 (v0*2 ^ (min (Int.toNat 13) 64)))) (2 ^ (min (Int.toNat 7) 64))))*2 ^ (min (Int.toNat 17) 64))))))] [(0,bx [.int .u64 (ZB .xor .u64 (ZB .xor .u64 (ZB .xor .u64 v0 (IntKind.wrap .u64 (v0*2 ^ (min (Int.toNat 13) 64)))) (Int.fdiv (ZB .xor .u64 v0 (IntKind.wrap .u64 (v0*2 ^ (min (Int.toNat 13) 64)))) (2 ^ (min (Int.toNat 7) 64)))) (IntKind.wrap .u64 ((ZB .xor .u64 (ZB .xor .u64 v0 (IntKind.wrap .u64 (v0*2 ^ (min (Int.toNat 13) 64)))) (Int.fdiv (ZB .xor .u64 v0 (IntKind.wrap .u64 (v0*2 ^ (min (Int.toNat 13) 64)))) (2 ^ (min (Int.toNat 7) 64))))*2 ^ (min (Int.toNat 17) 64))))])] ?_
 refine WA.ret ?_
 obtain rfl:=zj_ a
 exact Zo (one (.int .u64 (ZB .xor .u64 (ZB .xor .u64 (ZB .xor .u64 v0 (IntKind.wrap .u64 (v0*2 ^ (min (Int.toNat 13) 64)))) (Int.fdiv (ZB .xor .u64 v0 (IntKind.wrap .u64 (v0*2 ^ (min (Int.toNat 13) 64)))) (2 ^ (min (Int.toNat 7) 64)))) (IntKind.wrap .u64 ((ZB .xor .u64 (ZB .xor .u64 v0 (IntKind.wrap .u64 (v0*2 ^ (min (Int.toNat 13) 64)))) (Int.fdiv (ZB .xor .u64 v0 (IntKind.wrap .u64 (v0*2 ^ (min (Int.toNat 13) 64)))) (2 ^ (min (Int.toNat 7) 64))))*2 ^ (min (Int.toNat 17) 64)))))) [bx [.int .u64 (ZB .xor .u64 (ZB .xor .u64 (ZB .xor .u64 v0 (IntKind.wrap .u64 (v0*2 ^ (min (Int.toNat 13) 64)))) (Int.fdiv (ZB .xor .u64 v0 (IntKind.wrap .u64 (v0*2 ^ (min (Int.toNat 13) 64)))) (2 ^ (min (Int.toNat 7) 64)))) (IntKind.wrap .u64 ((ZB .xor .u64 (ZB .xor .u64 v0 (IntKind.wrap .u64 (v0*2 ^ (min (Int.toNat 13) 64)))) (Int.fdiv (ZB .xor .u64 v0 (IntKind.wrap .u64 (v0*2 ^ (min (Int.toNat 13) 64)))) (2 ^ (min (Int.toNat 7) 64))))*2 ^ (min (Int.toNat 17) 64))))]] kr kr kr kr nd rfl rfl
def F191 (k:Nat) (v0:List Zb) (v1:Int) (a:Int) (e:Int):Option (Int×Int×(List Zb)×Int):=
  (if (0:Int)≤a∧a<(v0.length:Int) then (idxL v0 a).bind fun b=>if (0:Int)≤v1∧v1<(v0.length:Int) then (idxL v0 v1).bind fun c=>(F104 k b c).bind fun d=>(cond (decide (d<0)) (((some (a,v1,v0,(w64 (e+1)))))) (((some (v1,a,v0,e))))) else none else none)
theorem ZjY (k:Nat) (v0:List Zb) (v1:Int) (c:Int) (e:Int) (r:Int×Int×(List Zb)×Int) (a:F191 k v0 v1 c e=some r) {n0:Nat} (hn_n0:n0=v0.length):SM μ 191 [ar 0 n0,oi v1,oi c,pt 1,.val false [.pv (.fn 104)]] [.arr 2 (v0.map Za),bx [.int .i64 e]] (.tup [(false,[.pv (.int .i64 r.1)]),(false,[.pv (.int .i64 r.2.1)])]) [.arr 2 (r.2.2.1.map Za),bx [.int .i64 r.2.2.2]]:=by
 refine Zz [0,1] Tryz.func191 rfl kr kr ?_
 show WA _ _ 32 _ _ _
 refine Ws [] [(0,ar 0 n0),(1,oi v1),(2,oi c),(3,pt 1),(4,.val false [.pv (.fn 104)])] [(0,.arr 2 (v0.map Za)),(1,bx [.int .i64 e])] ?_
 refine WA.seq ?_
 refine WA.seq ?_
 obtain ⟨i,a⟩:=Zn a
 obtain ⟨g,l,a⟩:=Zh a
 obtain ⟨j,a⟩:=Zn a
 obtain ⟨h,m,a⟩:=Zh a
 obtain ⟨f,n,a⟩:=Zh a
 refine Wd [(4,.cells (Za g)),(8,.cells (Za h)),(9,.callR [] (oi f))] [(1,oi v1),(2,oi c),(3,pt 1),(22,ob (decide (f<0)))] [(0,.arr 2 (v0.map Za)),(1,bx [.int .i64 e])] [n0=(v0.map Za).length,(0:Int)≤c,c<((n0:Nat):Int),n0=(v0.map Za).length,(v0.map Za)[Int.toNat c]?=some (Za g),n0=(v0.map Za).length,(0:Int)≤v1,v1<((n0:Nat):Int),n0=(v0.map Za).length,(v0.map Za)[Int.toNat v1]?=some (Za h),SM μ 104 [tv (Za g),tv (Za h)] [] (oi f) [],([]:List Nat).Nodup] ⟨zt,i.1,(by have h_:=i.2;(try simp only [zl,Zi] at h_ ⊢);omega),zt,(Zr (Zs _ l)),zt,j.1,(by have h_:=j.2;(try simp only [zl,Zi] at h_ ⊢);omega),zt,(Zr (Zs _ m)),(Zat k _ _ _ n),nd,trivial⟩ ?_
 refine WA.cond (b:=(decide (f<0))) rfl (fun d=>?_) (fun d=>?_)
 {
 have a:=Zk a d
 refine Ws [] [(1,oi v1),(2,oi c)] [(0,.arr 2 (v0.map Za)),(1,bx [.int .i64 (w64 (e+1))])] ?_
 refine Ws [] [(10,oi c),(11,oi v1)] [(0,.arr 2 (v0.map Za)),(1,bx [.int .i64 (w64 (e+1))])] ?_
 refine WA.ret ?_
 obtain rfl:=zj_ a
 exact Zo (.tup [(false,[.pv (.int .i64 c)]),(false,[.pv (.int .i64 v1)])]) [.arr 2 (v0.map Za),bx [.int .i64 (w64 (e+1))]] kr kr kr kr nd rfl rfl }
 {
 have a:=Zj a d
 refine WA.skip ?_
 refine Ws [] [(10,oi v1),(11,oi c)] [(0,.arr 2 (v0.map Za)),(1,bx [.int .i64 e])] ?_
 refine WA.ret ?_
 obtain rfl:=zj_ a
 exact Zo (.tup [(false,[.pv (.int .i64 v1)]),(false,[.pv (.int .i64 c)])]) [.arr 2 (v0.map Za),bx [.int .i64 e]] kr kr kr kr nd rfl rfl }
def F178 (k:Nat) (v0:List Zb) (v1:Int) (d:Int) (e:Int) (f:Int):Option (Int×(List Zb)×Int):=
  (F191 k v0 v1 d f).bind fun a=>if a.2.2.1.length=v0.length then (F191 k a.2.2.1 a.2.1 e a.2.2.2).bind fun b=>if b.2.2.1.length=a.2.2.1.length then (F191 k b.2.2.1 a.1 b.1 b.2.2.2).bind fun c=>if c.2.2.1.length=b.2.2.1.length then ((some (c.2.1,c.2.2.1,c.2.2.2))) else none else none else none
theorem Zm1 (k:Nat) (v0:List Zb) (v1:Int) (i:Int) (e:Int) (j:Int) (r:Int×(List Zb)×Int) (d:F178 k v0 v1 i e j=some r) {n0:Nat} (hn_n0:n0=v0.length):SM μ 178 [ar 0 n0,oi v1,oi i,oi e,pt 1,.val false [.pv (.fn 104)]] [.arr 2 (v0.map Za),bx [.int .i64 j]] (oi r.1) [.arr 2 (r.2.1.map Za),bx [.int .i64 r.2.2]]:=by
 refine Zz [0,1] Tryz.func178 rfl kr kr ?_
 show WA _ _ 41 _ _ _
 refine Ws [] [(0,ar 0 n0),(1,oi v1),(2,oi i),(3,oi e),(4,pt 1),(5,.val false [.pv (.fn 104)])] [(0,.arr 2 (v0.map Za)),(1,bx [.int .i64 j])] ?_
 obtain ⟨a,f,d⟩:=Zh d
 obtain ⟨l,d⟩:=Zn d
 refine Wos [(5,.call [0,1] (.tup [(false,[.pv (.int .i64 a.1)]),(false,[.pv (.int .i64 a.2.1)])]) [.arr 2 (a.2.2.1.map Za),bx [.int .i64 a.2.2.2]] [])] [(0,ar 0 n0),(1,oi a.1),(2,oi a.2.1),(3,oi e),(4,pt 1),(5,.val false [.pv (.fn 104)])] [(0,.arr 2 (a.2.2.1.map Za)),(1,bx [.int .i64 a.2.2.2])] [SM μ 191 [ar 0 n0,oi v1,oi i,pt 1,.val false [.pv (.fn 104)]] [.arr 2 (v0.map Za),bx [.int .i64 j]] (.tup [(false,[.pv (.int .i64 a.1)]),(false,[.pv (.int .i64 a.2.1)])]) [.arr 2 (a.2.2.1.map Za),bx [.int .i64 a.2.2.2]],([0,1]:List Nat).Nodup] ⟨(ZjY k _ _ _ _ _ f (n0:=n0) zt),nd,trivial⟩ ?_
 obtain ⟨c,g,d⟩:=Zh d
 obtain ⟨m,d⟩:=Zn d
 refine Wos [(5,.call [0,1] (.tup [(false,[.pv (.int .i64 c.1)]),(false,[.pv (.int .i64 c.2.1)])]) [.arr 2 (c.2.2.1.map Za),bx [.int .i64 c.2.2.2]] [])] [(0,ar 0 n0),(1,oi a.1),(2,oi c.1),(4,pt 1),(5,.val false [.pv (.fn 104)])] [(0,.arr 2 (c.2.2.1.map Za)),(1,bx [.int .i64 c.2.2.2])] [SM μ 191 [ar 0 n0,oi a.2.1,oi e,pt 1,.val false [.pv (.fn 104)]] [.arr 2 (a.2.2.1.map Za),bx [.int .i64 a.2.2.2]] (.tup [(false,[.pv (.int .i64 c.1)]),(false,[.pv (.int .i64 c.2.1)])]) [.arr 2 (c.2.2.1.map Za),bx [.int .i64 c.2.2.2]],([0,1]:List Nat).Nodup] ⟨(ZjY k _ _ _ _ _ g (n0:=n0) zt),nd,trivial⟩ ?_
 obtain ⟨b,h,d⟩:=Zh d
 obtain ⟨n,d⟩:=Zn d
 refine Wos [(5,.call [0,1] (.tup [(false,[.pv (.int .i64 b.1)]),(false,[.pv (.int .i64 b.2.1)])]) [.arr 2 (b.2.2.1.map Za),bx [.int .i64 b.2.2.2]] [])] [(2,oi b.2.1)] [(0,.arr 2 (b.2.2.1.map Za)),(1,bx [.int .i64 b.2.2.2])] [SM μ 191 [ar 0 n0,oi a.1,oi c.1,pt 1,.val false [.pv (.fn 104)]] [.arr 2 (c.2.2.1.map Za),bx [.int .i64 c.2.2.2]] (.tup [(false,[.pv (.int .i64 b.1)]),(false,[.pv (.int .i64 b.2.1)])]) [.arr 2 (b.2.2.1.map Za),bx [.int .i64 b.2.2.2]],([0,1]:List Nat).Nodup] ⟨(ZjY k _ _ _ _ _ h (n0:=n0) zt),nd,trivial⟩ ?_
 refine Ws [] [(12,oi b.2.1)] [(0,.arr 2 (b.2.2.1.map Za)),(1,bx [.int .i64 b.2.2.2])] ?_
 refine WA.ret ?_
 obtain rfl:=zj_ d
 exact Zo (oi b.2.1) [.arr 2 (b.2.2.1.map Za),bx [.int .i64 b.2.2.2]] kr kr kr kr nd rfl rfl
def F177 (k:Nat) (v0:List Zb) (v1:Int) (b:Int):Option (Int×(List Zb)×Int):=
  (F178 k v0 (w64 (v1-1)) v1 (w64 (v1+1)) b).bind fun a=>if a.2.1.length=v0.length then (some (a.1,a.2.1,a.2.2)) else none
theorem ZjX (k:Nat) (v0:List Zb) (v1:Int) (d:Int) (r:Int×(List Zb)×Int) (b:F177 k v0 v1 d=some r) {n0:Nat} (hn_n0:n0=v0.length):SM μ 177 [ar 0 n0,oi v1,pt 1,.val false [.pv (.fn 104)]] [.arr 2 (v0.map Za),bx [.int .i64 d]] (oi r.1) [.arr 2 (r.2.1.map Za),bx [.int .i64 r.2.2]]:=by
 refine Zz [0,1] Tryz.func177 rfl kr kr ?_
 show WA _ _ 18 _ _ _
 refine Ws [] [(0,ar 0 n0),(1,oi v1),(2,pt 1),(3,.val false [.pv (.fn 104)])] [(0,.arr 2 (v0.map Za)),(1,bx [.int .i64 d])] ?_
 obtain ⟨a,c,b⟩:=Zh b
 obtain ⟨e,b⟩:=Zn b
 refine Wos [(8,.call [0,1] (oi a.1) [.arr 2 (a.2.1.map Za),bx [.int .i64 a.2.2]] [])] [(8,oi a.1)] [(0,.arr 2 (a.2.1.map Za)),(1,bx [.int .i64 a.2.2])] [SM μ 178 [ar 0 n0,oi (w64 (v1-1)),oi v1,oi (w64 (v1+1)),pt 1,.val false [.pv (.fn 104)]] [.arr 2 (v0.map Za),bx [.int .i64 d]] (oi a.1) [.arr 2 (a.2.1.map Za),bx [.int .i64 a.2.2]],([0,1]:List Nat).Nodup] ⟨(Zm1 k _ _ _ _ _ _ c (n0:=n0) zt),nd,trivial⟩ ?_
 refine WA.ret ?_
 obtain rfl:=zj_ b
 exact Zo (oi a.1) [.arr 2 (a.2.1.map Za),bx [.int .i64 a.2.2]] kr kr kr kr nd rfl rfl
def Zex (k:Nat) (f:(List Zb)→Int→Option (List Zb)) (d:Int) (a:List Zb) (b:Int) (c:Int):Option (List Zb):=
  if (0:Int)≤(w64 (d+b))∧(w64 (d+b))<(a.length:Int) then (idxL a (w64 (d+b))).bind fun g=>if (0:Int)≤(w64 (d+c))∧(w64 (d+c))<(a.length:Int) then (idxL a (w64 (d+c))).bind fun h=>(F104 k g h).bind fun i=>(cond (!(decide (i<0))) (some a) ((if (0:Int)≤(w64 (d+c))∧(w64 (d+c))<(a.length:Int) then (idxL a (w64 (d+c))).bind fun e=>if (0:Int)≤(w64 (d+b))∧(w64 (d+b))<(a.length:Int) then (idxL a (w64 (d+b))).bind fun j=>if (0:Int)≤(w64 (d+b))∧(w64 (d+b))<(a.length:Int) then (idxL a (w64 (d+b))).bind fun l=>if (0:Int)≤(w64 (d+c))∧(w64 (d+c))<((a.set (Int.toNat (w64 (d+b))) e).length:Int) then (idxL (a.set (Int.toNat (w64 (d+b))) e) (w64 (d+c))).bind fun m=>(f ((a.set (Int.toNat (w64 (d+b))) e).set (Int.toNat (w64 (d+c))) j) c) else none else none else none else none))) else none else none
def Zew (k:Nat) (b:(List Zb)→Int→Option (List Zb)) (e:Int) (c:List Zb) (a:Int) (d:Bool):Option (List Zb):=
  cond d ((Zex k b e c a (w64 ((w64 ((w64 (2*a))+1))+1)))) ((Zex k b e c a (w64 ((w64 (2*a))+1))))
def Zhf (k:Nat) (d:(List Zb)→Int→Option (List Zb)) (h:Int) (c:Int) (b:List Zb) (a:Int):Option (List Zb):=
  ((cond (decide ((w64 ((w64 (2*a))+1))≥h)) (some b) ((cond (decide ((w64 ((w64 ((w64 (2*a))+1))+1))<h)) (if (0:Int)≤(w64 (c+(w64 ((w64 (2*a))+1))))∧(w64 (c+(w64 ((w64 (2*a))+1))))<(b.length:Int) then (idxL b (w64 (c+(w64 ((w64 (2*a))+1))))).bind fun e=>if (0:Int)≤(w64 ((w64 (c+(w64 ((w64 (2*a))+1))))+1))∧(w64 ((w64 (c+(w64 ((w64 (2*a))+1))))+1))<(b.length:Int) then (idxL b (w64 ((w64 (c+(w64 ((w64 (2*a))+1))))+1))).bind fun f=>(F104 k e f).bind fun g=>(Zew k d c b a (decide (g<0))) else none else none) ((Zew k d c b a false))))))
def ZbF (k:Nat) (c:Int) (d:Int):Nat→(List Zb)→Int→Option (List Zb)
  | 0,_,_=>none
  | e+1,a,b=>Zhf k (ZbF k c d e) c d a b
def F176 (k:Nat) (v0:List Zb) (v1:Int) (a:Int) (b:Int):Option (List Zb):=
  (ZbF k a b k v0 v1)
theorem Zm0 (k:Nat) (v0:List Zb) (v1:Int) (i:Int) (f:Int) (r:List Zb) (e:F176 k v0 v1 i f=some r) {n0:Nat} (hn_n0:n0=v0.length):SM μ 176 [ar 0 n0,oi v1,oi i,oi f,.val false [.pv (.fn 104)]] [.arr 2 (v0.map Za)] (.tup []) [.arr 2 (r.map Za)]:=by
 refine Zz [0] Tryz.func176 rfl kr kr ?_
 show WA _ _ 82 _ _ _
 refine Ws [] [(0,ar 0 n0),(2,oi i),(3,oi f),(4,.val false [.pv (.fn 104)]),(10,oi v1)] [(0,.arr 2 (v0.map Za))] ?_
 refine WA.block ?_
 refine WA.loop (fun m y=>∃(c:List Zb) (d:Nat) (a:Int),J y [(0,ar 0 d),(2,oi i),(3,oi f),(4,.val false [.pv (.fn 104)]),(10,oi a)] [(0,.arr 2 (c.map Za))]∧d=(c:List _).length∧ZbF k i f m c a=some r) k ⟨v0,n0,v1,jk,zt,e⟩ ?_
 clear e
 rintro m4 y ⟨c,d,a,w,c4,e⟩
 refine Wj w ?_
 clear w
 cases m4 with
 | zero=>cases e
 | succ m4=>
  obtain ⟨s,x⟩:∃g,g=ZbF k i f m4:=⟨_,rfl⟩
  have e:Zhf k s i f c a=some r:=by first | (rw [x];exact e) | exact e
  refine WA.block ?_
  refine Ws [] [(0,ar 0 d),(2,oi i),(3,oi f),(4,.val false [.pv (.fn 104)]),(10,oi a),(11,oi (w64 ((w64 (2*a))+1)))] [(0,.arr 2 (c.map Za))] ?_
  refine WA.seq ?_
  refine Ws [] [(0,ar 0 d),(2,oi i),(3,oi f),(4,.val false [.pv (.fn 104)]),(10,oi a),(11,oi (w64 ((w64 (2*a))+1))),(18,ob (decide ((w64 ((w64 (2*a))+1))≥i)))] [(0,.arr 2 (c.map Za))] ?_
  refine WA.cond (b:=(decide ((w64 ((w64 (2*a))+1))≥i))) rfl (fun o=>?_) (fun o=>?_)
  {
 have e:=Zk e o
 refine WA.exit ?_
 obtain rfl:=zj_ e
 exact Zcy (.tup []) [.arr 2 (c.map Za)] kr kr kr kr nd rfl rfl }
  {
 have e:=Zj e o
 refine WA.skip ?_
 refine WA.join (fun y=>∃(h:Int),J y [(0,ar 0 d),(2,oi i),(3,oi f),(4,.val false [.pv (.fn 104)]),(10,oi a),(11,oi h)] [(0,.arr 2 (c.map Za))]∧Zex k s f c a h=some r) ?_ ?_
 {
 rintro y ⟨h,w,e⟩
 refine Wj w ?_
 clear w
 refine WA.seq ?_
 refine WA.seq ?_
 obtain ⟨a5,e⟩:=Zn e
 obtain ⟨a1,b6,e⟩:=Zh e
 obtain ⟨a6,e⟩:=Zn e
 obtain ⟨a2,b7,e⟩:=Zh e
 obtain ⟨v,b8,e⟩:=Zh e
 refine Wd [(6,.cells (Za a1)),(12,.cells (Za a2)),(13,.callR [] (oi v))] [(0,ar 0 d),(2,oi i),(3,oi f),(4,.val false [.pv (.fn 104)]),(10,oi a),(11,oi h),(58,ob (!(decide (v<0))))] [(0,.arr 2 (c.map Za))] [d=(c.map Za).length,(0:Int)≤(w64 (f+a)),(w64 (f+a))<((d:Nat):Int),d=(c.map Za).length,(c.map Za)[Int.toNat (w64 (f+a))]?=some (Za a1),d=(c.map Za).length,(0:Int)≤(w64 (f+h)),(w64 (f+h))<((d:Nat):Int),d=(c.map Za).length,(c.map Za)[Int.toNat (w64 (f+h))]?=some (Za a2),SM μ 104 [tv (Za a1),tv (Za a2)] [] (oi v) [],([]:List Nat).Nodup] ⟨zt,a5.1,(by have h_:=a5.2;(try simp only [zl,Zi] at h_ ⊢);omega),zt,(Zr (Zs _ b6)),zt,a6.1,(by have h_:=a6.2;(try simp only [zl,Zi] at h_ ⊢);omega),zt,(Zr (Zs _ b7)),(Zat k _ _ _ b8),nd,trivial⟩ ?_
 refine WA.cond (b:=(!(decide (v<0)))) rfl (fun q=>?_) (fun q=>?_)
 {
 have e:=Zk e q
 refine WA.ret ?_
 obtain rfl:=zj_ e
 exact Zo (.tup []) [.arr 2 (c.map Za)] kr kr kr kr nd rfl rfl }
 {
 have e:=Zj e q
 refine WA.skip ?_
 refine WA.seq ?_
 obtain ⟨a7,e⟩:=Zn e
 obtain ⟨j,b9,e⟩:=Zh e
 obtain ⟨a8,e⟩:=Zn e
 obtain ⟨n,c0,e⟩:=Zh e
 obtain ⟨b1,e⟩:=Zn e
 obtain ⟨a9,c1,e⟩:=Zh e
 obtain ⟨b2,e⟩:=Zn e
 obtain ⟨b0,c2,e⟩:=Zh e
 have z0:(w64 (f+h))<((d:Nat):Int):=(by have h_:=a7.2;(try simp only [zl,Zi] at h_ ⊢);omega)
 have z2:(w64 (f+a))<((d:Nat):Int):=(by have h_:=a8.2;(try simp only [zl,Zi] at h_ ⊢);omega)
 refine Wdm (((((c.map Za).set (Int.toNat (w64 (f+a))) (Za j)).set (Int.toNat (w64 (f+h))) (Za n)),((c.map Za).set (Int.toNat (w64 (f+a))) (Za j))):(List (List PV))×(List (List PV))) ((((c.set (Int.toNat (w64 (f+a))) j).set (Int.toNat (w64 (f+h))) n).map Za),((c.set (Int.toNat (w64 (f+a))) j).map Za)) (fun m_=>([(0,ar 0 d),(2,oi i),(3,oi f),(4,.val false [.pv (.fn 104)]),(11,oi h)],[(0,.arr 2 m_.1)],[d=(c.map Za).length,(0:Int)≤(w64 (f+h)),(w64 (f+h))<((d:Nat):Int),d=(c.map Za).length,(c.map Za)[Int.toNat (w64 (f+h))]?=some (Za j),d=(c.map Za).length,(0:Int)≤(w64 (f+a)),(w64 (f+a))<((d:Nat):Int),d=(c.map Za).length,(c.map Za)[Int.toNat (w64 (f+a))]?=some (Za n),d=(c.map Za).length,(0:Int)≤(w64 (f+a)),(w64 (f+a))<((d:Nat):Int),d=(c.map Za).length,(c.map Za)[Int.toNat (w64 (f+a))]?=some (Za a9),d=m_.2.length,(0:Int)≤(w64 (f+h)),(w64 (f+h))<((d:Nat):Int),d=m_.2.length,m_.2[Int.toNat (w64 (f+h))]?=some (Za b0)])) (ZJ zm zm) [(13,.cells (Za j)),(19,.cells (Za n)),(21,.cells (Za a9)),(23,.cells (Za b0))] ⟨zt,a7.1,z0,zt,(Zr (Zs _ b9)),zt,a8.1,z2,zt,(Zr (Zs _ c0)),zt,b1.1,z2,zt,(Zr (Zs _ c1)),zt,b2.1,z0,zt,(Zr (Zs _ c2)),trivial⟩ ?_
 refine Wr [] [(0,ar 0 d),(2,oi i),(3,oi f),(4,.val false [.pv (.fn 104)]),(10,oi h)] [(0,.arr 2 (((c.set (Int.toNat (w64 (f+a))) j).set (Int.toNat (w64 (f+h))) n).map Za))] ?_
 exact ⟨m4,zl_ _,((c.set (Int.toNat (w64 (f+a))) j).set (Int.toNat (w64 (f+h))) n),d,h,jk,zt,by rw [x] at e;exact e⟩ } }
 {
 refine WA.join (fun y=>∃(t:Bool),J y [(0,ar 0 d),(2,oi i),(3,oi f),(4,.val false [.pv (.fn 104)]),(10,oi a),(11,oi (w64 ((w64 (2*a))+1))),(40,ob t)] [(0,.arr 2 (c.map Za))]∧Zew k s f c a t=some r) ?_ ?_
 {
 rintro y ⟨t,w,e⟩
 refine Wj w ?_
 clear w
 refine WA.cond (b:=t) rfl (fun p=>?_) (fun p=>?_)
 {
 have e:=Zk e p
 refine Wr [] [(0,ar 0 d),(2,oi i),(3,oi f),(4,.val false [.pv (.fn 104)]),(10,oi a),(11,oi (w64 ((w64 ((w64 (2*a))+1))+1)))] [(0,.arr 2 (c.map Za))] ?_
 exact ⟨(w64 ((w64 ((w64 (2*a))+1))+1)),jk,e⟩ }
 {
 have e:=Zj e p
 refine WA.skip ?_
 exact ⟨(w64 ((w64 (2*a))+1)),jk,e⟩ } }
 {
 rcases zo_ (decide ((w64 ((w64 ((w64 (2*a))+1))+1))<i)) with l | l
 {
 have e:=Zk e l
 obtain ⟨a3,e⟩:=Zn e
 obtain ⟨z,b3,e⟩:=Zh e
 obtain ⟨a4,e⟩:=Zn e
 obtain ⟨a0,b4,e⟩:=Zh e
 obtain ⟨u,b5,e⟩:=Zh e
 refine Wd [(4,.bool true),(11,.cells (Za z)),(18,.cells (Za a0)),(19,.callR [] (oi u))] [(0,ar 0 d),(2,oi i),(3,oi f),(4,.val false [.pv (.fn 104)]),(10,oi a),(11,oi (w64 ((w64 (2*a))+1))),(40,ob (decide (u<0)))] [(0,.arr 2 (c.map Za))] [(decide ((w64 ((w64 ((w64 (2*a))+1))+1))<i))=true,d=(c.map Za).length,(0:Int)≤(w64 (f+(w64 ((w64 (2*a))+1)))),(w64 (f+(w64 ((w64 (2*a))+1))))<((d:Nat):Int),d=(c.map Za).length,(c.map Za)[Int.toNat (w64 (f+(w64 ((w64 (2*a))+1))))]?=some (Za z),d=(c.map Za).length,(0:Int)≤(w64 ((w64 (f+(w64 ((w64 (2*a))+1))))+1)),(w64 ((w64 (f+(w64 ((w64 (2*a))+1))))+1))<((d:Nat):Int),d=(c.map Za).length,(c.map Za)[Int.toNat (w64 ((w64 (f+(w64 ((w64 (2*a))+1))))+1))]?=some (Za a0),SM μ 104 [tv (Za z),tv (Za a0)] [] (oi u) [],([]:List Nat).Nodup] ⟨l,zt,a3.1,(by have h_:=a3.2;(try simp only [zl,Zi] at h_ ⊢);omega),zt,(Zr (Zs _ b3)),zt,a4.1,(by have h_:=a4.2;(try simp only [zl,Zi] at h_ ⊢);omega),zt,(Zr (Zs _ b4)),(Zat k _ _ _ b5),nd,trivial⟩ ?_
 exact ⟨(decide (u<0)),jk,e⟩ }
 {
 have e:=Zj e l
 refine Wd [(4,.bool false),(19,.callR [] (.tup []))] [(0,ar 0 d),(2,oi i),(3,oi f),(4,.val false [.pv (.fn 104)]),(10,oi a),(11,oi (w64 ((w64 (2*a))+1))),(40,ob false)] [(0,.arr 2 (c.map Za))] [(decide ((w64 ((w64 ((w64 (2*a))+1))+1))<i))=false] ⟨l,trivial⟩ ?_
 exact ⟨false,jk,e⟩ } } } }
def ZbV (self24:(List Zb)→Int→Int→Option (Int×Bool×(List Zb))) (f:Int→Option (Int×Bool×(List Zb))) (v1:Int) (b:List Zb) (c:Int) (a:Int) (g:Bool):Option (Int×Bool×(List Zb)):=
  cond g ((f (w64 (a-1)))) (((cond (decide (c > a)) ((if (0:Int)≤v1∧v1<(b.length:Int) then (idxL b v1).bind fun e=>if (0:Int)≤a∧a<(b.length:Int) then (idxL b a).bind fun i=>if (0:Int)≤a∧a<(b.length:Int) then (idxL b a).bind fun l=>if (0:Int)≤v1∧v1<((b.set (Int.toNat a) e).length:Int) then (idxL (b.set (Int.toNat a) e) v1).bind fun m=>((some (a,false,((b.set (Int.toNat a) e).set (Int.toNat v1) i)))) else none else none else none else none)) ((if (0:Int)≤a∧a<(b.length:Int) then (idxL b a).bind fun d=>if (0:Int)≤c∧c<(b.length:Int) then (idxL b c).bind fun h=>if (0:Int)≤c∧c<(b.length:Int) then (idxL b c).bind fun j=>if (0:Int)≤a∧a<((b.set (Int.toNat c) d).length:Int) then (idxL (b.set (Int.toNat c) d) a).bind fun k=>((self24 ((b.set (Int.toNat c) d).set (Int.toNat a) h) (w64 (c+1)) (w64 (a-1)))) else none else none else none else none)))))
def Zfq (k:Nat) (self24:(List Zb)→Int→Int→Option (Int×Bool×(List Zb))) (c:Int→Option (Int×Bool×(List Zb))) (v1:Int) (a:List Zb) (d:Int) (b:Int):Option (Int×Bool×(List Zb)):=
  cond (decide (d≤b)) (if (0:Int)≤b∧b<(a.length:Int) then (idxL a b).bind fun e=>if (0:Int)≤v1∧v1<(a.length:Int) then (idxL a v1).bind fun f=>(F104 k e f).bind fun g=>(ZbV self24 c v1 a d b (!(decide (g<0)))) else none else none) ((ZbV self24 c v1 a d b false))
def Zbr (k:Nat) (self24:(List Zb)→Int→Int→Option (Int×Bool×(List Zb))) (v1:Int) (a:List Zb) (b:Int):Nat→Int→Option (Int×Bool×(List Zb))
  | 0,_=>none
  | d+1,c=>Zfq k self24 (Zbr k self24 v1 a b d) v1 a b c
def Zfr (k:Nat) (self24:(List Zb)→Int→Int→Option (Int×Bool×(List Zb))) (a:Int→Option (Int×Bool×(List Zb))) (v1:Int) (c:List Zb) (d:Int) (b:Int) (e:Bool):Option (Int×Bool×(List Zb)):=
  cond e ((a (w64 (b+1)))) ((Zbr k self24 v1 c b k d))
def Zfp (k:Nat) (self24:(List Zb)→Int→Int→Option (Int×Bool×(List Zb))) (c:Int→Option (Int×Bool×(List Zb))) (v1:Int) (a:List Zb) (d:Int) (b:Int):Option (Int×Bool×(List Zb)):=
  cond (decide (b≤d)) (if (0:Int)≤b∧b<(a.length:Int) then (idxL a b).bind fun e=>if (0:Int)≤v1∧v1<(a.length:Int) then (idxL a v1).bind fun f=>(F104 k e f).bind fun g=>(Zfr k self24 c v1 a d b (decide (g<0))) else none else none) ((Zfr k self24 c v1 a d b false))
def Zbq (k:Nat) (self24:(List Zb)→Int→Int→Option (Int×Bool×(List Zb))) (v1:Int) (a:List Zb) (b:Int):Nat→Int→Option (Int×Bool×(List Zb))
  | 0,_=>none
  | d+1,c=>Zfp k self24 (Zbq k self24 v1 a b d) v1 a b c
def Zk9 (k:Nat) (self24:(List Zb)→Int→Int→Option (Int×Bool×(List Zb))) (v1:Int) (a:List Zb) (b:Int) (c:Int):Option (Int×Bool×(List Zb)):=
  Zbq k self24 v1 a c k b
def ZaI (k:Nat) (v1:Int):Nat→(List Zb)→Int→Int→Option (Int×Bool×(List Zb))
  | 0,_,_,_=>none
  | d+1,a,b,c=>Zk9 k (ZaI k v1 d) v1 a b c
def Zdh (k:Nat) (h:Int→Option (Int×Bool×(List Zb))) (v0:List Zb) (v1:Int) (e:Int) (b:Zb) (c:Zb) (d:Int) (a:Int) (i:Bool):Option (Int×Bool×(List Zb)):=
  cond i ((h (w64 (a-1)))) (((cond (decide (d > a)) (if (0:Int)≤v1∧v1<(((v0.set (Int.toNat v1) b).set (Int.toNat e) c).length:Int) then (idxL ((v0.set (Int.toNat v1) b).set (Int.toNat e) c) v1).bind fun f=>if (0:Int)≤a∧a<(((v0.set (Int.toNat v1) b).set (Int.toNat e) c).length:Int) then (idxL ((v0.set (Int.toNat v1) b).set (Int.toNat e) c) a).bind fun j=>if (0:Int)≤a∧a<(((v0.set (Int.toNat v1) b).set (Int.toNat e) c).length:Int) then (idxL ((v0.set (Int.toNat v1) b).set (Int.toNat e) c) a).bind fun m=>if (0:Int)≤v1∧v1<((((v0.set (Int.toNat v1) b).set (Int.toNat e) c).set (Int.toNat a) f).length:Int) then (idxL (((v0.set (Int.toNat v1) b).set (Int.toNat e) c).set (Int.toNat a) f) v1).bind fun n=>((some (a,true,((((v0.set (Int.toNat v1) b).set (Int.toNat e) c).set (Int.toNat a) f).set (Int.toNat v1) j)))) else none else none else none else none) ((if (0:Int)≤a∧a<(((v0.set (Int.toNat v1) b).set (Int.toNat e) c).length:Int) then (idxL ((v0.set (Int.toNat v1) b).set (Int.toNat e) c) a).bind fun g=>if (0:Int)≤d∧d<(((v0.set (Int.toNat v1) b).set (Int.toNat e) c).length:Int) then (idxL ((v0.set (Int.toNat v1) b).set (Int.toNat e) c) d).bind fun l=>if (0:Int)≤d∧d<(((v0.set (Int.toNat v1) b).set (Int.toNat e) c).length:Int) then (idxL ((v0.set (Int.toNat v1) b).set (Int.toNat e) c) d).bind fun o=>if (0:Int)≤a∧a<((((v0.set (Int.toNat v1) b).set (Int.toNat e) c).set (Int.toNat d) g).length:Int) then (idxL (((v0.set (Int.toNat v1) b).set (Int.toNat e) c).set (Int.toNat d) g) a).bind fun p=>(((ZaI k v1 k ((((v0.set (Int.toNat v1) b).set (Int.toNat e) c).set (Int.toNat d) g).set (Int.toNat a) l) (w64 (d+1)) (w64 (a-1))))) else none else none else none else none)))))
def Zg8 (k:Nat) (e:Int→Option (Int×Bool×(List Zb))) (v0:List Zb) (v1:Int) (f:Int) (b:Zb) (c:Zb) (d:Int) (a:Int):Option (Int×Bool×(List Zb)):=
  cond (decide (d≤a)) (if (0:Int)≤a∧a<(((v0.set (Int.toNat v1) b).set (Int.toNat f) c).length:Int) then (idxL ((v0.set (Int.toNat v1) b).set (Int.toNat f) c) a).bind fun g=>if (0:Int)≤v1∧v1<(((v0.set (Int.toNat v1) b).set (Int.toNat f) c).length:Int) then (idxL ((v0.set (Int.toNat v1) b).set (Int.toNat f) c) v1).bind fun h=>(F104 k g h).bind fun i=>(Zdh k e v0 v1 f b c d a (!(decide (i<0)))) else none else none) ((Zdh k e v0 v1 f b c d a false))
def Zbh (k:Nat) (v0:List Zb) (v1:Int) (e:Int) (b:Zb) (c:Zb) (a:Int):Nat→Int→Option (Int×Bool×(List Zb))
  | 0,_=>none
  | f+1,d=>Zg8 k (Zbh k v0 v1 e b c a f) v0 v1 e b c a d
def Zdg (k:Nat) (b:Int→Option (Int×Bool×(List Zb))) (v0:List Zb) (v1:Int) (f:Int) (g:Int) (d:Zb) (e:Zb) (a:Int) (c:Bool):Option (Int×Bool×(List Zb)):=
  cond c ((b (w64 (a+1)))) ((Zbh k v0 v1 g d e a k (w64 (f-1))))
def Zg7 (k:Nat) (d:Int→Option (Int×Bool×(List Zb))) (v0:List Zb) (v1:Int) (f:Int) (e:Int) (b:Zb) (c:Zb) (a:Int):Option (Int×Bool×(List Zb)):=
  cond (decide (a≤(w64 (f-1)))) (if (0:Int)≤a∧a<(((v0.set (Int.toNat v1) b).set (Int.toNat e) c).length:Int) then (idxL ((v0.set (Int.toNat v1) b).set (Int.toNat e) c) a).bind fun g=>if (0:Int)≤v1∧v1<(((v0.set (Int.toNat v1) b).set (Int.toNat e) c).length:Int) then (idxL ((v0.set (Int.toNat v1) b).set (Int.toNat e) c) v1).bind fun h=>(F104 k g h).bind fun i=>(Zdg k d v0 v1 f e b c a (decide (i<0))) else none else none) ((Zdg k d v0 v1 f e b c a false))
def Zb1 (k:Nat) (v0:List Zb) (v1:Int) (d:Int) (e:Int) (a:Zb) (b:Zb):Nat→Int→Option (Int×Bool×(List Zb))
  | 0,_=>none
  | f+1,c=>Zg7 k (Zb1 k v0 v1 d e a b f) v0 v1 d e a b c
def F156 (k:Nat) (v0:List Zb) (v1:Int) (d:Int) (a:Int):Option (Int×Bool×(List Zb)):=
  (if (0:Int)≤a∧a<(v0.length:Int) then (idxL v0 a).bind fun b=>if (0:Int)≤v1∧v1<(v0.length:Int) then (idxL v0 v1).bind fun c=>if (0:Int)≤v1∧v1<(v0.length:Int) then (idxL v0 v1).bind fun e=>if (0:Int)≤a∧a<((v0.set (Int.toNat v1) b).length:Int) then (idxL (v0.set (Int.toNat v1) b) a).bind fun f=>((Zb1 k v0 v1 d a b c k (w64 (v1+1)))) else none else none else none else none)
theorem ZqL (k:Nat) (v0:List Zb) (v1:Int) (v:Int) (n:Int) (r:Int×Bool×(List Zb)) (a:F156 k v0 v1 v n=some r) {n0:Nat} (hn_n0:n0=v0.length):SM μ 156 [ar 0 n0,oi v1,oi v,oi n,.val false [.pv (.fn 104)]] [.arr 2 (v0.map Za)] (.tup [(false,[.pv (.int .i64 r.1)]),(false,[.pv (.bool r.2.1)])]) [.arr 2 (r.2.2.map Za)]:=by
 refine Zz [0] Tryz.func156 rfl kr kr ?_
 show WA _ _ 178 _ _ _
 refine Ws [] [(0,ar 0 n0),(1,oi v1),(2,oi v),(3,oi n),(4,.val false [.pv (.fn 104)])] [(0,.arr 2 (v0.map Za))] ?_
 refine WA.seq ?_
 obtain ⟨d6,a⟩:=Zn a
 obtain ⟨c,h6,a⟩:=Zh a
 obtain ⟨d7,a⟩:=Zn a
 obtain ⟨e,h7,a⟩:=Zh a
 obtain ⟨g6,a⟩:=Zn a
 obtain ⟨f6,h8,a⟩:=Zh a
 obtain ⟨g7,a⟩:=Zn a
 obtain ⟨f7,h9,a⟩:=Zh a
 have z0:n<((n0:Nat):Int):=(by have h_:=d6.2;(try simp only [zl,Zi] at h_ ⊢);omega)
 have z2:v1<((n0:Nat):Int):=(by have h_:=d7.2;(try simp only [zl,Zi] at h_ ⊢);omega)
 refine Wdm (((((v0.map Za).set (Int.toNat v1) (Za c)).set (Int.toNat n) (Za e)),((v0.map Za).set (Int.toNat v1) (Za c))):(List (List PV))×(List (List PV))) ((((v0.set (Int.toNat v1) c).set (Int.toNat n) e).map Za),((v0.set (Int.toNat v1) c).map Za)) (fun s=>([(0,ar 0 n0),(1,oi v1),(2,oi v),(4,.val false [.pv (.fn 104)])],[(0,.arr 2 s.1)],[n0=(v0.map Za).length,(0:Int)≤n,n<((n0:Nat):Int),n0=(v0.map Za).length,(v0.map Za)[Int.toNat n]?=some (Za c),n0=(v0.map Za).length,(0:Int)≤v1,v1<((n0:Nat):Int),n0=(v0.map Za).length,(v0.map Za)[Int.toNat v1]?=some (Za e),n0=(v0.map Za).length,(0:Int)≤v1,v1<((n0:Nat):Int),n0=(v0.map Za).length,(v0.map Za)[Int.toNat v1]?=some (Za f6),n0=s.2.length,(0:Int)≤n,n<((n0:Nat):Int),n0=s.2.length,s.2[Int.toNat n]?=some (Za f7)])) (ZJ zm zm) [(7,.cells (Za c)),(11,.cells (Za e)),(13,.cells (Za f6)),(15,.cells (Za f7))] ⟨zt,d6.1,z0,zt,(Zr (Zs _ h6)),zt,d7.1,z2,zt,(Zr (Zs _ h7)),zt,g6.1,z2,zt,(Zr (Zs _ h8)),zt,g7.1,z0,zt,(Zr (Zs _ h9)),trivial⟩ ?_
 refine Ws [] [(0,ar 0 n0),(1,oi v1),(4,.val false [.pv (.fn 104)]),(12,oi (w64 (v1+1))),(13,oi (w64 (v-1)))] [(0,.arr 2 (((v0.set (Int.toNat v1) c).set (Int.toNat n) e).map Za))] ?_
 refine WA.seq ?_
 refine WA.block ?_
 refine WA.loop (fun m q=>∃(j:Int),J q [(0,ar 0 n0),(1,oi v1),(4,.val false [.pv (.fn 104)]),(12,oi j),(13,oi (w64 (v-1)))] [(0,.arr 2 (((v0.set (Int.toNat v1) c).set (Int.toNat n) e).map Za))]∧Zb1 k v0 v1 v n c e m j=some r) k ⟨(w64 (v1+1)),jk,a⟩ ?_
 clear a
 rintro m2 q ⟨j,p,a⟩
 refine Wj p ?_
 clear p
 cases m2 with
 | zero=>cases a
 | succ m2=>
  obtain ⟨f4,c4⟩:∃g,g=Zb1 k v0 v1 v n c e m2:=⟨_,rfl⟩
  have a:Zg7 k f4 v0 v1 v n c e j=some r:=by first | (rw [c4];exact a) | exact a
  refine WA.seq ?_
  refine WA.join (fun q=>∃(b6:Bool),J q [(0,ar 0 n0),(1,oi v1),(4,.val false [.pv (.fn 104)]),(12,oi j),(13,oi (w64 (v-1))),(47,ob b6)] [(0,.arr 2 (((v0.set (Int.toNat v1) c).set (Int.toNat n) e).map Za))]∧Zdg k f4 v0 v1 v n c e j b6=some r) ?_ ?_
  {
 rintro q ⟨b6,p,a⟩
 refine Wj p ?_
 clear p
 refine WA.cond (b:=b6) rfl (fun b0=>?_) (fun b0=>?_)
 {
 have a:=Zk a b0
 refine WA.skip ?_
 refine WA.block ?_
 refine Wr [] [(0,ar 0 n0),(1,oi v1),(4,.val false [.pv (.fn 104)]),(12,oi (w64 (j+1))),(13,oi (w64 (v-1)))] [(0,.arr 2 (((v0.set (Int.toNat v1) c).set (Int.toNat n) e).map Za))] ?_
 exact ⟨m2,zl_ _,(w64 (j+1)),jk,by rw [c4] at a;exact a⟩ }
 {
 have a:=Zj a b0
 refine WA.exit ?_
 refine WA.seq ?_
 refine WA.block ?_
 refine WA.loop (fun m q=>∃(h:Int),J q [(0,ar 0 n0),(1,oi v1),(4,.val false [.pv (.fn 104)]),(12,oi j),(13,oi h)] [(0,.arr 2 (((v0.set (Int.toNat v1) c).set (Int.toNat n) e).map Za))]∧Zbh k v0 v1 n c e j m h=some r) k ⟨(w64 (v-1)),jk,a⟩ ?_
 clear a
 rintro m6 q ⟨h,p,a⟩
 refine Wj p ?_
 clear p
 cases m6 with
 | zero=>cases a
 | succ m6=>
  obtain ⟨f5,c5⟩:∃g,g=Zbh k v0 v1 n c e j m6:=⟨_,rfl⟩
  have a:Zg8 k f5 v0 v1 n c e j h=some r:=by first | (rw [c5];exact a) | exact a
  refine WA.seq ?_
  refine WA.join (fun q=>∃(b7:Bool),J q [(0,ar 0 n0),(1,oi v1),(4,.val false [.pv (.fn 104)]),(12,oi j),(13,oi h),(66,ob b7)] [(0,.arr 2 (((v0.set (Int.toNat v1) c).set (Int.toNat n) e).map Za))]∧Zdh k f5 v0 v1 n c e j h b7=some r) ?_ ?_
  {
 rintro q ⟨b7,p,a⟩
 refine Wj p ?_
 clear p
 refine WA.cond (b:=b7) rfl (fun b1=>?_) (fun b1=>?_)
 {
 have a:=Zk a b1
 refine WA.skip ?_
 refine WA.block ?_
 refine Wr [] [(0,ar 0 n0),(1,oi v1),(4,.val false [.pv (.fn 104)]),(12,oi j),(13,oi (w64 (h-1)))] [(0,.arr 2 (((v0.set (Int.toNat v1) c).set (Int.toNat n) e).map Za))] ?_
 exact ⟨m6,zl_ _,(w64 (h-1)),jk,by rw [c5] at a;exact a⟩ }
 {
 have a:=Zj a b1
 refine WA.exit ?_
 refine WA.seq ?_
 refine Ws [] [(0,ar 0 n0),(1,oi v1),(4,.val false [.pv (.fn 104)]),(12,oi j),(13,oi h),(71,ob (decide (j > h)))] [(0,.arr 2 (((v0.set (Int.toNat v1) c).set (Int.toNat n) e).map Za))] ?_
 refine WA.cond (b:=(decide (j > h))) rfl (fun b2=>?_) (fun b2=>?_)
 {
 have a:=Zk a b2
 refine WA.seq ?_
 obtain ⟨e2,a⟩:=Zn a
 obtain ⟨w,i6,a⟩:=Zh a
 obtain ⟨e3,a⟩:=Zn a
 obtain ⟨a4,i7,a⟩:=Zh a
 obtain ⟨g8,a⟩:=Zn a
 obtain ⟨f8,i8,a⟩:=Zh a
 obtain ⟨g9,a⟩:=Zn a
 obtain ⟨f9,i9,a⟩:=Zh a
 have z0:v1<((n0:Nat):Int):=(by have h_:=e2.2;(try simp only [zl,Zi] at h_ ⊢);omega)
 have z2:h<((n0:Nat):Int):=(by have h_:=e3.2;(try simp only [zl,Zi] at h_ ⊢);omega)
 refine Wdm (((((((v0.set (Int.toNat v1) c).set (Int.toNat n) e).map Za).set (Int.toNat h) (Za w)).set (Int.toNat v1) (Za a4)),((((v0.set (Int.toNat v1) c).set (Int.toNat n) e).map Za).set (Int.toNat h) (Za w))):(List (List PV))×(List (List PV))) ((((((v0.set (Int.toNat v1) c).set (Int.toNat n) e).set (Int.toNat h) w).set (Int.toNat v1) a4).map Za),((((v0.set (Int.toNat v1) c).set (Int.toNat n) e).set (Int.toNat h) w).map Za)) (fun s=>([(13,oi h)],[(0,.arr 2 s.1)],[n0=(((v0.set (Int.toNat v1) c).set (Int.toNat n) e).map Za).length,(0:Int)≤v1,v1<((n0:Nat):Int),n0=(((v0.set (Int.toNat v1) c).set (Int.toNat n) e).map Za).length,(((v0.set (Int.toNat v1) c).set (Int.toNat n) e).map Za)[Int.toNat v1]?=some (Za w),n0=(((v0.set (Int.toNat v1) c).set (Int.toNat n) e).map Za).length,(0:Int)≤h,h<((n0:Nat):Int),n0=(((v0.set (Int.toNat v1) c).set (Int.toNat n) e).map Za).length,(((v0.set (Int.toNat v1) c).set (Int.toNat n) e).map Za)[Int.toNat h]?=some (Za a4),n0=(((v0.set (Int.toNat v1) c).set (Int.toNat n) e).map Za).length,(0:Int)≤h,h<((n0:Nat):Int),n0=(((v0.set (Int.toNat v1) c).set (Int.toNat n) e).map Za).length,(((v0.set (Int.toNat v1) c).set (Int.toNat n) e).map Za)[Int.toNat h]?=some (Za f8),n0=s.2.length,(0:Int)≤v1,v1<((n0:Nat):Int),n0=s.2.length,s.2[Int.toNat v1]?=some (Za f9)])) (ZJ zm zm) [(7,.cells (Za w)),(11,.cells (Za a4)),(13,.cells (Za f8)),(15,.cells (Za f9))] ⟨zt,e2.1,z0,zt,(Zr (Zs _ i6)),zt,e3.1,z2,zt,(Zr (Zs _ i7)),zt,g8.1,z2,zt,(Zr (Zs _ i8)),zt,g9.1,z0,zt,(Zr (Zs _ i9)),trivial⟩ ?_
 refine Ws [] [(10,oi h),(11,ob true)] [(0,.arr 2 (((((v0.set (Int.toNat v1) c).set (Int.toNat n) e).set (Int.toNat h) w).set (Int.toNat v1) a4).map Za))] ?_
 refine WA.ret ?_
 obtain rfl:=zj_ a
 exact Zo (.tup [(false,[.pv (.int .i64 h)]),(false,[.pv (.bool true)])]) [.arr 2 (((((v0.set (Int.toNat v1) c).set (Int.toNat n) e).set (Int.toNat h) w).set (Int.toNat v1) a4).map Za)] kr kr kr kr nd rfl rfl }
 {
 have a:=Zj a b2
 refine WA.skip ?_
 refine WA.seq ?_
 obtain ⟨e4,a⟩:=Zn a
 obtain ⟨t,j0,a⟩:=Zh a
 obtain ⟨e5,a⟩:=Zn a
 obtain ⟨y,j1,a⟩:=Zh a
 obtain ⟨h0,a⟩:=Zn a
 obtain ⟨g0,j2,a⟩:=Zh a
 obtain ⟨h1,a⟩:=Zn a
 obtain ⟨g1,j3,a⟩:=Zh a
 have z0:h<((n0:Nat):Int):=(by have h_:=e4.2;(try simp only [zl,Zi] at h_ ⊢);omega)
 have z2:j<((n0:Nat):Int):=(by have h_:=e5.2;(try simp only [zl,Zi] at h_ ⊢);omega)
 refine Wdm (((((((v0.set (Int.toNat v1) c).set (Int.toNat n) e).map Za).set (Int.toNat j) (Za t)).set (Int.toNat h) (Za y)),((((v0.set (Int.toNat v1) c).set (Int.toNat n) e).map Za).set (Int.toNat j) (Za t))):(List (List PV))×(List (List PV))) ((((((v0.set (Int.toNat v1) c).set (Int.toNat n) e).set (Int.toNat j) t).set (Int.toNat h) y).map Za),((((v0.set (Int.toNat v1) c).set (Int.toNat n) e).set (Int.toNat j) t).map Za)) (fun s=>([(0,ar 0 n0),(1,oi v1),(4,.val false [.pv (.fn 104)]),(12,oi j),(13,oi h)],[(0,.arr 2 s.1)],[n0=(((v0.set (Int.toNat v1) c).set (Int.toNat n) e).map Za).length,(0:Int)≤h,h<((n0:Nat):Int),n0=(((v0.set (Int.toNat v1) c).set (Int.toNat n) e).map Za).length,(((v0.set (Int.toNat v1) c).set (Int.toNat n) e).map Za)[Int.toNat h]?=some (Za t),n0=(((v0.set (Int.toNat v1) c).set (Int.toNat n) e).map Za).length,(0:Int)≤j,j<((n0:Nat):Int),n0=(((v0.set (Int.toNat v1) c).set (Int.toNat n) e).map Za).length,(((v0.set (Int.toNat v1) c).set (Int.toNat n) e).map Za)[Int.toNat j]?=some (Za y),n0=(((v0.set (Int.toNat v1) c).set (Int.toNat n) e).map Za).length,(0:Int)≤j,j<((n0:Nat):Int),n0=(((v0.set (Int.toNat v1) c).set (Int.toNat n) e).map Za).length,(((v0.set (Int.toNat v1) c).set (Int.toNat n) e).map Za)[Int.toNat j]?=some (Za g0),n0=s.2.length,(0:Int)≤h,h<((n0:Nat):Int),n0=s.2.length,s.2[Int.toNat h]?=some (Za g1)])) (ZJ zm zm) [(7,.cells (Za t)),(11,.cells (Za y)),(13,.cells (Za g0)),(15,.cells (Za g1))] ⟨zt,e4.1,z0,zt,(Zr (Zs _ j0)),zt,e5.1,z2,zt,(Zr (Zs _ j1)),zt,h0.1,z2,zt,(Zr (Zs _ j2)),zt,h1.1,z0,zt,(Zr (Zs _ j3)),trivial⟩ ?_
 refine Ws [] [(0,ar 0 n0),(1,oi v1),(4,.val false [.pv (.fn 104)]),(12,oi (w64 (j+1))),(13,oi h)] [(0,.arr 2 (((((v0.set (Int.toNat v1) c).set (Int.toNat n) e).set (Int.toNat j) t).set (Int.toNat h) y).map Za))] ?_
 refine Ws [] [(0,ar 0 n0),(1,oi v1),(4,.val false [.pv (.fn 104)]),(12,oi (w64 (j+1))),(13,oi (w64 (h-1)))] [(0,.arr 2 (((((v0.set (Int.toNat v1) c).set (Int.toNat n) e).set (Int.toNat j) t).set (Int.toNat h) y).map Za))] ?_
 refine WA.seq ?_
 refine WA.block ?_
 refine WA.loop (fun m q=>∃(d:List Zb) (f:Nat) (a6:Int) (o:Int),J q [(0,ar 0 f),(1,oi v1),(4,.val false [.pv (.fn 104)]),(12,oi a6),(13,oi o)] [(0,.arr 2 (d.map Za))]∧f=(d:List _).length∧ZaI k v1 m d a6 o=some r) k ⟨((((v0.set (Int.toNat v1) c).set (Int.toNat n) e).set (Int.toNat j) t).set (Int.toNat h) y),n0,(w64 (j+1)),(w64 (h-1)),jk,zt,a⟩ ?_
 clear a
 rintro m24 q ⟨d,f,a6,o,p,k8,a⟩
 refine Wj p ?_
 clear p
 cases m24 with
 | zero=>cases a
 | succ m24=>
  obtain ⟨self24,a7⟩:∃g,g=ZaI k v1 m24:=⟨_,rfl⟩
  have a:Zk9 k self24 v1 d a6 o=some r:=by first | (rw [a7];exact a) | exact a
  refine WA.block ?_
  refine WA.seq ?_
  refine WA.block ?_
  refine WA.loop (fun m q=>∃(l:Int),J q [(0,ar 0 f),(1,oi v1),(4,.val false [.pv (.fn 104)]),(12,oi l),(13,oi o)] [(0,.arr 2 (d.map Za))]∧Zbq k self24 v1 d o m l=some r) k ⟨a6,jk,a⟩ ?_
  clear a
  rintro m27 q ⟨l,p,a⟩
  refine Wj p ?_
  clear p
  cases m27 with
  | zero=>cases a
  | succ m27=>
   obtain ⟨c6,a8⟩:∃g,g=Zbq k self24 v1 d o m27:=⟨_,rfl⟩
   have a:Zfp k self24 c6 v1 d o l=some r:=by first | (rw [a8];exact a) | exact a
   refine WA.seq ?_
   refine WA.join (fun q=>∃(b8:Bool),J q [(0,ar 0 f),(1,oi v1),(4,.val false [.pv (.fn 104)]),(12,oi l),(13,oi o),(120,ob b8)] [(0,.arr 2 (d.map Za))]∧Zfr k self24 c6 v1 d o l b8=some r) ?_ ?_
   {
 rintro q ⟨b8,p,a⟩
 refine Wj p ?_
 clear p
 refine WA.cond (b:=b8) rfl (fun b3=>?_) (fun b3=>?_)
 {
 have a:=Zk a b3
 refine WA.skip ?_
 refine WA.block ?_
 refine Wr [] [(0,ar 0 f),(1,oi v1),(4,.val false [.pv (.fn 104)]),(12,oi (w64 (l+1))),(13,oi o)] [(0,.arr 2 (d.map Za))] ?_
 exact ⟨m27,zl_ _,(w64 (l+1)),jk,by rw [a8] at a;exact a⟩ }
 {
 have a:=Zj a b3
 refine WA.exit ?_
 refine WA.seq ?_
 refine WA.block ?_
 refine WA.loop (fun m q=>∃(i:Int),J q [(0,ar 0 f),(1,oi v1),(4,.val false [.pv (.fn 104)]),(12,oi l),(13,oi i)] [(0,.arr 2 (d.map Za))]∧Zbr k self24 v1 d l m i=some r) k ⟨o,jk,a⟩ ?_
 clear a
 rintro m31 q ⟨i,p,a⟩
 refine Wj p ?_
 clear p
 cases m31 with
 | zero=>cases a
 | succ m31=>
  obtain ⟨c7,a9⟩:∃g,g=Zbr k self24 v1 d l m31:=⟨_,rfl⟩
  have a:Zfq k self24 c7 v1 d l i=some r:=by first | (rw [a9];exact a) | exact a
  refine WA.seq ?_
  refine WA.join (fun q=>∃(b9:Bool),J q [(0,ar 0 f),(1,oi v1),(4,.val false [.pv (.fn 104)]),(12,oi l),(13,oi i),(139,ob b9)] [(0,.arr 2 (d.map Za))]∧ZbV self24 c7 v1 d l i b9=some r) ?_ ?_
  {
 rintro q ⟨b9,p,a⟩
 refine Wj p ?_
 clear p
 refine WA.cond (b:=b9) rfl (fun b4=>?_) (fun b4=>?_)
 {
 have a:=Zk a b4
 refine WA.skip ?_
 refine WA.block ?_
 refine Wr [] [(0,ar 0 f),(1,oi v1),(4,.val false [.pv (.fn 104)]),(12,oi l),(13,oi (w64 (i-1)))] [(0,.arr 2 (d.map Za))] ?_
 exact ⟨m31,zl_ _,(w64 (i-1)),jk,by rw [a9] at a;exact a⟩ }
 {
 have a:=Zj a b4
 refine WA.exit ?_
 refine WA.seq ?_
 refine Ws [] [(0,ar 0 f),(1,oi v1),(4,.val false [.pv (.fn 104)]),(12,oi l),(13,oi i),(144,ob (decide (l > i)))] [(0,.arr 2 (d.map Za))] ?_
 refine WA.cond (b:=(decide (l > i))) rfl (fun b5=>?_) (fun b5=>?_)
 {
 have a:=Zk a b5
 refine WA.exit ?_
 refine WA.seq ?_
 obtain ⟨f2,a⟩:=Zn a
 obtain ⟨x,k4,a⟩:=Zh a
 obtain ⟨f3,a⟩:=Zn a
 obtain ⟨a5,k5,a⟩:=Zh a
 obtain ⟨h4,a⟩:=Zn a
 obtain ⟨g4,k6,a⟩:=Zh a
 obtain ⟨h5,a⟩:=Zn a
 obtain ⟨g5,k7,a⟩:=Zh a
 have z0:v1<((f:Nat):Int):=(by have h_:=f2.2;(try simp only [zl,Zi] at h_ ⊢);omega)
 have z2:i<((f:Nat):Int):=(by have h_:=f3.2;(try simp only [zl,Zi] at h_ ⊢);omega)
 refine Wdm (((((d.map Za).set (Int.toNat i) (Za x)).set (Int.toNat v1) (Za a5)),((d.map Za).set (Int.toNat i) (Za x))):(List (List PV))×(List (List PV))) ((((d.set (Int.toNat i) x).set (Int.toNat v1) a5).map Za),((d.set (Int.toNat i) x).map Za)) (fun s=>([(13,oi i)],[(0,.arr 2 s.1)],[f=(d.map Za).length,(0:Int)≤v1,v1<((f:Nat):Int),f=(d.map Za).length,(d.map Za)[Int.toNat v1]?=some (Za x),f=(d.map Za).length,(0:Int)≤i,i<((f:Nat):Int),f=(d.map Za).length,(d.map Za)[Int.toNat i]?=some (Za a5),f=(d.map Za).length,(0:Int)≤i,i<((f:Nat):Int),f=(d.map Za).length,(d.map Za)[Int.toNat i]?=some (Za g4),f=s.2.length,(0:Int)≤v1,v1<((f:Nat):Int),f=s.2.length,s.2[Int.toNat v1]?=some (Za g5)])) (ZJ zm zm) [(7,.cells (Za x)),(11,.cells (Za a5)),(13,.cells (Za g4)),(15,.cells (Za g5))] ⟨zt,f2.1,z0,zt,(Zr (Zs _ k4)),zt,f3.1,z2,zt,(Zr (Zs _ k5)),zt,h4.1,z2,zt,(Zr (Zs _ k6)),zt,h5.1,z0,zt,(Zr (Zs _ k7)),trivial⟩ ?_
 refine Ws [] [(10,oi i),(11,ob false)] [(0,.arr 2 (((d.set (Int.toNat i) x).set (Int.toNat v1) a5).map Za))] ?_
 refine WA.ret ?_
 obtain rfl:=zj_ a
 exact Zo (.tup [(false,[.pv (.int .i64 i)]),(false,[.pv (.bool false)])]) [.arr 2 (((d.set (Int.toNat i) x).set (Int.toNat v1) a5).map Za)] kr kr kr kr nd rfl rfl }
 {
 have a:=Zj a b5
 refine WA.skip ?_
 refine WA.seq ?_
 obtain ⟨f0,a⟩:=Zn a
 obtain ⟨u,k0,a⟩:=Zh a
 obtain ⟨f1,a⟩:=Zn a
 obtain ⟨z,k1,a⟩:=Zh a
 obtain ⟨h2,a⟩:=Zn a
 obtain ⟨g2,k2,a⟩:=Zh a
 obtain ⟨h3,a⟩:=Zn a
 obtain ⟨g3,k3,a⟩:=Zh a
 have z0:i<((f:Nat):Int):=(by have h_:=f0.2;(try simp only [zl,Zi] at h_ ⊢);omega)
 have z2:l<((f:Nat):Int):=(by have h_:=f1.2;(try simp only [zl,Zi] at h_ ⊢);omega)
 refine Wdm (((((d.map Za).set (Int.toNat l) (Za u)).set (Int.toNat i) (Za z)),((d.map Za).set (Int.toNat l) (Za u))):(List (List PV))×(List (List PV))) ((((d.set (Int.toNat l) u).set (Int.toNat i) z).map Za),((d.set (Int.toNat l) u).map Za)) (fun s=>([(0,ar 0 f),(1,oi v1),(4,.val false [.pv (.fn 104)]),(12,oi l),(13,oi i)],[(0,.arr 2 s.1)],[f=(d.map Za).length,(0:Int)≤i,i<((f:Nat):Int),f=(d.map Za).length,(d.map Za)[Int.toNat i]?=some (Za u),f=(d.map Za).length,(0:Int)≤l,l<((f:Nat):Int),f=(d.map Za).length,(d.map Za)[Int.toNat l]?=some (Za z),f=(d.map Za).length,(0:Int)≤l,l<((f:Nat):Int),f=(d.map Za).length,(d.map Za)[Int.toNat l]?=some (Za g2),f=s.2.length,(0:Int)≤i,i<((f:Nat):Int),f=s.2.length,s.2[Int.toNat i]?=some (Za g3)])) (ZJ zm zm) [(7,.cells (Za u)),(11,.cells (Za z)),(13,.cells (Za g2)),(15,.cells (Za g3))] ⟨zt,f0.1,z0,zt,(Zr (Zs _ k0)),zt,f1.1,z2,zt,(Zr (Zs _ k1)),zt,h2.1,z2,zt,(Zr (Zs _ k2)),zt,h3.1,z0,zt,(Zr (Zs _ k3)),trivial⟩ ?_
 refine Ws [] [(0,ar 0 f),(1,oi v1),(4,.val false [.pv (.fn 104)]),(12,oi (w64 (l+1))),(13,oi i)] [(0,.arr 2 (((d.set (Int.toNat l) u).set (Int.toNat i) z).map Za))] ?_
 refine Wr [] [(0,ar 0 f),(1,oi v1),(4,.val false [.pv (.fn 104)]),(12,oi (w64 (l+1))),(13,oi (w64 (i-1)))] [(0,.arr 2 (((d.set (Int.toNat l) u).set (Int.toNat i) z).map Za))] ?_
 exact ⟨m24,zl_ _,((d.set (Int.toNat l) u).set (Int.toNat i) z),f,(w64 (l+1)),(w64 (i-1)),jk,zt,by rw [a7] at a;exact a⟩ } } }
  {
 rcases zo_ (decide (l≤i)) with a3 | a3
 {
 have a:=Zk a a3
 obtain ⟨e8,a⟩:=Zn a
 obtain ⟨d4,j7,a⟩:=Zh a
 obtain ⟨e9,a⟩:=Zn a
 obtain ⟨d5,j8,a⟩:=Zh a
 obtain ⟨c3,j9,a⟩:=Zh a
 refine Wd [(3,.bool true),(8,.cells (Za d4)),(12,.cells (Za d5)),(13,.callR [] (oi c3))] [(0,ar 0 f),(1,oi v1),(4,.val false [.pv (.fn 104)]),(12,oi l),(13,oi i),(139,ob (!(decide (c3<0))))] [(0,.arr 2 (d.map Za))] [(decide (l≤i))=true,f=(d.map Za).length,(0:Int)≤i,i<((f:Nat):Int),f=(d.map Za).length,(d.map Za)[Int.toNat i]?=some (Za d4),f=(d.map Za).length,(0:Int)≤v1,v1<((f:Nat):Int),f=(d.map Za).length,(d.map Za)[Int.toNat v1]?=some (Za d5),SM μ 104 [tv (Za d4),tv (Za d5)] [] (oi c3) [],([]:List Nat).Nodup] ⟨a3,zt,e8.1,(by have h_:=e8.2;(try simp only [zl,Zi] at h_ ⊢);omega),zt,(Zr (Zs _ j7)),zt,e9.1,(by have h_:=e9.2;(try simp only [zl,Zi] at h_ ⊢);omega),zt,(Zr (Zs _ j8)),(Zat k _ _ _ j9),nd,trivial⟩ ?_
 exact ⟨(!(decide (c3<0))),jk,a⟩ }
 {
 have a:=Zj a a3
 refine Wd [(3,.bool false),(13,.callR [] (.tup []))] [(0,ar 0 f),(1,oi v1),(4,.val false [.pv (.fn 104)]),(12,oi l),(13,oi i),(139,ob false)] [(0,.arr 2 (d.map Za))] [(decide (l≤i))=false] ⟨a3,trivial⟩ ?_
 exact ⟨false,jk,a⟩ } } } }
   {
 rcases zo_ (decide (l≤o)) with a2 | a2
 {
 have a:=Zk a a2
 obtain ⟨e6,a⟩:=Zn a
 obtain ⟨d2,j4,a⟩:=Zh a
 obtain ⟨e7,a⟩:=Zn a
 obtain ⟨d3,j5,a⟩:=Zh a
 obtain ⟨c2,j6,a⟩:=Zh a
 refine Wd [(3,.bool true),(8,.cells (Za d2)),(12,.cells (Za d3)),(13,.callR [] (oi c2))] [(0,ar 0 f),(1,oi v1),(4,.val false [.pv (.fn 104)]),(12,oi l),(13,oi o),(120,ob (decide (c2<0)))] [(0,.arr 2 (d.map Za))] [(decide (l≤o))=true,f=(d.map Za).length,(0:Int)≤l,l<((f:Nat):Int),f=(d.map Za).length,(d.map Za)[Int.toNat l]?=some (Za d2),f=(d.map Za).length,(0:Int)≤v1,v1<((f:Nat):Int),f=(d.map Za).length,(d.map Za)[Int.toNat v1]?=some (Za d3),SM μ 104 [tv (Za d2),tv (Za d3)] [] (oi c2) [],([]:List Nat).Nodup] ⟨a2,zt,e6.1,(by have h_:=e6.2;(try simp only [zl,Zi] at h_ ⊢);omega),zt,(Zr (Zs _ j4)),zt,e7.1,(by have h_:=e7.2;(try simp only [zl,Zi] at h_ ⊢);omega),zt,(Zr (Zs _ j5)),(Zat k _ _ _ j6),nd,trivial⟩ ?_
 exact ⟨(decide (c2<0)),jk,a⟩ }
 {
 have a:=Zj a a2
 refine Wd [(3,.bool false),(13,.callR [] (.tup []))] [(0,ar 0 f),(1,oi v1),(4,.val false [.pv (.fn 104)]),(12,oi l),(13,oi o),(120,ob false)] [(0,.arr 2 (d.map Za))] [(decide (l≤o))=false] ⟨a2,trivial⟩ ?_
 exact ⟨false,jk,a⟩ } } } } }
  {
 rcases zo_ (decide (j≤h)) with a1 | a1
 {
 have a:=Zk a a1
 obtain ⟨e0,a⟩:=Zn a
 obtain ⟨d0,i3,a⟩:=Zh a
 obtain ⟨e1,a⟩:=Zn a
 obtain ⟨d1,i4,a⟩:=Zh a
 obtain ⟨c1,i5,a⟩:=Zh a
 refine Wd [(3,.bool true),(8,.cells (Za d0)),(12,.cells (Za d1)),(13,.callR [] (oi c1))] [(0,ar 0 n0),(1,oi v1),(4,.val false [.pv (.fn 104)]),(12,oi j),(13,oi h),(66,ob (!(decide (c1<0))))] [(0,.arr 2 (((v0.set (Int.toNat v1) c).set (Int.toNat n) e).map Za))] [(decide (j≤h))=true,n0=(((v0.set (Int.toNat v1) c).set (Int.toNat n) e).map Za).length,(0:Int)≤h,h<((n0:Nat):Int),n0=(((v0.set (Int.toNat v1) c).set (Int.toNat n) e).map Za).length,(((v0.set (Int.toNat v1) c).set (Int.toNat n) e).map Za)[Int.toNat h]?=some (Za d0),n0=(((v0.set (Int.toNat v1) c).set (Int.toNat n) e).map Za).length,(0:Int)≤v1,v1<((n0:Nat):Int),n0=(((v0.set (Int.toNat v1) c).set (Int.toNat n) e).map Za).length,(((v0.set (Int.toNat v1) c).set (Int.toNat n) e).map Za)[Int.toNat v1]?=some (Za d1),SM μ 104 [tv (Za d0),tv (Za d1)] [] (oi c1) [],([]:List Nat).Nodup] ⟨a1,zt,e0.1,(by have h_:=e0.2;(try simp only [zl,Zi] at h_ ⊢);omega),zt,(Zr (Zs _ i3)),zt,e1.1,(by have h_:=e1.2;(try simp only [zl,Zi] at h_ ⊢);omega),zt,(Zr (Zs _ i4)),(Zat k _ _ _ i5),nd,trivial⟩ ?_
 exact ⟨(!(decide (c1<0))),jk,a⟩ }
 {
 have a:=Zj a a1
 refine Wd [(3,.bool false),(13,.callR [] (.tup []))] [(0,ar 0 n0),(1,oi v1),(4,.val false [.pv (.fn 104)]),(12,oi j),(13,oi h),(66,ob false)] [(0,.arr 2 (((v0.set (Int.toNat v1) c).set (Int.toNat n) e).map Za))] [(decide (j≤h))=false] ⟨a1,trivial⟩ ?_
 exact ⟨false,jk,a⟩ } } } }
  {
 rcases zo_ (decide (j≤(w64 (v-1)))) with a0 | a0
 {
 have a:=Zk a a0
 obtain ⟨d8,a⟩:=Zn a
 obtain ⟨c8,i0,a⟩:=Zh a
 obtain ⟨d9,a⟩:=Zn a
 obtain ⟨c9,i1,a⟩:=Zh a
 obtain ⟨c0,i2,a⟩:=Zh a
 refine Wd [(3,.bool true),(8,.cells (Za c8)),(12,.cells (Za c9)),(13,.callR [] (oi c0))] [(0,ar 0 n0),(1,oi v1),(4,.val false [.pv (.fn 104)]),(12,oi j),(13,oi (w64 (v-1))),(47,ob (decide (c0<0)))] [(0,.arr 2 (((v0.set (Int.toNat v1) c).set (Int.toNat n) e).map Za))] [(decide (j≤(w64 (v-1))))=true,n0=(((v0.set (Int.toNat v1) c).set (Int.toNat n) e).map Za).length,(0:Int)≤j,j<((n0:Nat):Int),n0=(((v0.set (Int.toNat v1) c).set (Int.toNat n) e).map Za).length,(((v0.set (Int.toNat v1) c).set (Int.toNat n) e).map Za)[Int.toNat j]?=some (Za c8),n0=(((v0.set (Int.toNat v1) c).set (Int.toNat n) e).map Za).length,(0:Int)≤v1,v1<((n0:Nat):Int),n0=(((v0.set (Int.toNat v1) c).set (Int.toNat n) e).map Za).length,(((v0.set (Int.toNat v1) c).set (Int.toNat n) e).map Za)[Int.toNat v1]?=some (Za c9),SM μ 104 [tv (Za c8),tv (Za c9)] [] (oi c0) [],([]:List Nat).Nodup] ⟨a0,zt,d8.1,(by have h_:=d8.2;(try simp only [zl,Zi] at h_ ⊢);omega),zt,(Zr (Zs _ i0)),zt,d9.1,(by have h_:=d9.2;(try simp only [zl,Zi] at h_ ⊢);omega),zt,(Zr (Zs _ i1)),(Zat k _ _ _ i2),nd,trivial⟩ ?_
 exact ⟨(decide (c0<0)),jk,a⟩ }
 {
 have a:=Zj a a0
 refine Wd [(3,.bool false),(13,.callR [] (.tup []))] [(0,ar 0 n0),(1,oi v1),(4,.val false [.pv (.fn 104)]),(12,oi j),(13,oi (w64 (v-1))),(47,ob false)] [(0,.arr 2 (((v0.set (Int.toNat v1) c).set (Int.toNat n) e).map Za))] [(decide (j≤(w64 (v-1))))=false] ⟨a0,trivial⟩ ?_
 exact ⟨false,jk,a⟩ } }
def Zcr (self16:(List Zb)→Int→Int→Option (Int×(List Zb))) (e:Int→Option (Int×(List Zb))) (b:List Zb) (a:Int) (c:Int) (f:Bool):Option (Int×(List Zb)):=
  cond f ((e (w64 (c-1)))) (((cond (decide (a > c)) (((some (a,b)))) ((if (0:Int)≤c∧c<(b.length:Int) then (idxL b c).bind fun d=>if (0:Int)≤a∧a<(b.length:Int) then (idxL b a).bind fun g=>if (0:Int)≤a∧a<(b.length:Int) then (idxL b a).bind fun h=>if (0:Int)≤c∧c<((b.set (Int.toNat a) d).length:Int) then (idxL (b.set (Int.toNat a) d) c).bind fun i=>((self16 ((b.set (Int.toNat a) d).set (Int.toNat c) g) (w64 (a+1)) (w64 (c-1)))) else none else none else none else none)))))
def Zfn (k:Nat) (self16:(List Zb)→Int→Int→Option (Int×(List Zb))) (c:Int→Option (Int×(List Zb))) (v1:Int) (a:List Zb) (d:Int) (b:Int):Option (Int×(List Zb)):=
  cond (decide (d≤b)) (if (0:Int)≤v1∧v1<(a.length:Int) then (idxL a v1).bind fun e=>if (0:Int)≤b∧b<(a.length:Int) then (idxL a b).bind fun f=>(F104 k e f).bind fun g=>(Zcr self16 c a d b (decide (g<0))) else none else none) ((Zcr self16 c a d b false))
def ZaW (k:Nat) (self16:(List Zb)→Int→Int→Option (Int×(List Zb))) (v1:Int) (a:List Zb) (b:Int):Nat→Int→Option (Int×(List Zb))
  | 0,_=>none
  | d+1,c=>Zfn k self16 (ZaW k self16 v1 a b d) v1 a b c
def Zfo (k:Nat) (self16:(List Zb)→Int→Int→Option (Int×(List Zb))) (a:Int→Option (Int×(List Zb))) (v1:Int) (c:List Zb) (d:Int) (b:Int) (e:Bool):Option (Int×(List Zb)):=
  cond e ((a (w64 (b+1)))) ((ZaW k self16 v1 c b k d))
def Zfm (k:Nat) (self16:(List Zb)→Int→Int→Option (Int×(List Zb))) (c:Int→Option (Int×(List Zb))) (v1:Int) (a:List Zb) (d:Int) (b:Int):Option (Int×(List Zb)):=
  cond (decide (b≤d)) (if (0:Int)≤v1∧v1<(a.length:Int) then (idxL a v1).bind fun e=>if (0:Int)≤b∧b<(a.length:Int) then (idxL a b).bind fun f=>(F104 k e f).bind fun g=>(Zfo k self16 c v1 a d b (!(decide (g<0)))) else none else none) ((Zfo k self16 c v1 a d b false))
def Zbp (k:Nat) (self16:(List Zb)→Int→Int→Option (Int×(List Zb))) (v1:Int) (a:List Zb) (b:Int):Nat→Int→Option (Int×(List Zb))
  | 0,_=>none
  | d+1,c=>Zfm k self16 (Zbp k self16 v1 a b d) v1 a b c
def Zk8 (k:Nat) (self16:(List Zb)→Int→Int→Option (Int×(List Zb))) (v1:Int) (a:List Zb) (b:Int) (c:Int):Option (Int×(List Zb)):=
  Zbp k self16 v1 a c k b
def ZaH (k:Nat) (v1:Int):Nat→(List Zb)→Int→Int→Option (Int×(List Zb))
  | 0,_,_,_=>none
  | d+1,a,b,c=>Zk8 k (ZaH k v1 d) v1 a b c
def F155 (k:Nat) (v0:List Zb) (v1:Int) (d:Int) (a:Int):Option (Int×(List Zb)):=
  (if (0:Int)≤a∧a<(v0.length:Int) then (idxL v0 a).bind fun b=>if (0:Int)≤v1∧v1<(v0.length:Int) then (idxL v0 v1).bind fun c=>if (0:Int)≤v1∧v1<(v0.length:Int) then (idxL v0 v1).bind fun e=>if (0:Int)≤a∧a<((v0.set (Int.toNat v1) b).length:Int) then (idxL (v0.set (Int.toNat v1) b) a).bind fun f=>((ZaH k v1 k ((v0.set (Int.toNat v1) b).set (Int.toNat a) c) (w64 (v1+1)) (w64 (d-1)))) else none else none else none else none)
theorem ZqK (k:Nat) (v0:List Zb) (v1:Int) (v2:Int) (s:Int) (r:Int×(List Zb)) (c:F155 k v0 v1 v2 s=some r) {n0:Nat} (hn_n0:n0=v0.length):SM μ 155 [ar 0 n0,oi v1,oi v2,oi s,.val false [.pv (.fn 104)]] [.arr 2 (v0.map Za)] (oi r.1) [.arr 2 (r.2.map Za)]:=by
 refine Zz [0] Tryz.func155 rfl kr kr ?_
 show WA _ _ 90 _ _ _
 refine Ws [] [(0,ar 0 n0),(1,oi v1),(2,oi v2),(3,oi s),(4,.val false [.pv (.fn 104)])] [(0,.arr 2 (v0.map Za))] ?_
 refine WA.seq ?_
 obtain ⟨b2,c⟩:=Zn c
 obtain ⟨j,c9,c⟩:=Zh c
 obtain ⟨b3,c⟩:=Zn c
 obtain ⟨t,d0,c⟩:=Zh c
 obtain ⟨c5,c⟩:=Zn c
 obtain ⟨c1,d1,c⟩:=Zh c
 obtain ⟨c6,c⟩:=Zn c
 obtain ⟨c2,d2,c⟩:=Zh c
 have z0:s<((n0:Nat):Int):=(by have h_:=b2.2;(try simp only [zl,Zi] at h_ ⊢);omega)
 have z2:v1<((n0:Nat):Int):=(by have h_:=b3.2;(try simp only [zl,Zi] at h_ ⊢);omega)
 refine Wdm (((((v0.map Za).set (Int.toNat v1) (Za j)).set (Int.toNat s) (Za t)),((v0.map Za).set (Int.toNat v1) (Za j))):(List (List PV))×(List (List PV))) ((((v0.set (Int.toNat v1) j).set (Int.toNat s) t).map Za),((v0.set (Int.toNat v1) j).map Za)) (fun m_=>([(0,ar 0 n0),(1,oi v1),(2,oi v2),(4,.val false [.pv (.fn 104)])],[(0,.arr 2 m_.1)],[n0=(v0.map Za).length,(0:Int)≤s,s<((n0:Nat):Int),n0=(v0.map Za).length,(v0.map Za)[Int.toNat s]?=some (Za j),n0=(v0.map Za).length,(0:Int)≤v1,v1<((n0:Nat):Int),n0=(v0.map Za).length,(v0.map Za)[Int.toNat v1]?=some (Za t),n0=(v0.map Za).length,(0:Int)≤v1,v1<((n0:Nat):Int),n0=(v0.map Za).length,(v0.map Za)[Int.toNat v1]?=some (Za c1),n0=m_.2.length,(0:Int)≤s,s<((n0:Nat):Int),n0=m_.2.length,m_.2[Int.toNat s]?=some (Za c2)])) (ZJ zm zm) [(7,.cells (Za j)),(11,.cells (Za t)),(13,.cells (Za c1)),(15,.cells (Za c2))] ⟨zt,b2.1,z0,zt,(Zr (Zs _ c9)),zt,b3.1,z2,zt,(Zr (Zs _ d0)),zt,c5.1,z2,zt,(Zr (Zs _ d1)),zt,c6.1,z0,zt,(Zr (Zs _ d2)),trivial⟩ ?_
 refine Ws [] [(0,ar 0 n0),(1,oi v1),(4,.val false [.pv (.fn 104)]),(11,oi (w64 (v1+1))),(12,oi (w64 (v2-1)))] [(0,.arr 2 (((v0.set (Int.toNat v1) j).set (Int.toNat s) t).map Za))] ?_
 refine WA.seq ?_
 refine WA.block ?_
 refine WA.loop (fun m q=>∃(a:List Zb) (e:Nat) (u:Int) (h:Int),J q [(0,ar 0 e),(1,oi v1),(4,.val false [.pv (.fn 104)]),(11,oi u),(12,oi h)] [(0,.arr 2 (a.map Za))]∧e=(a:List _).length∧ZaH k v1 m a u h=some r) k ⟨((v0.set (Int.toNat v1) j).set (Int.toNat s) t),n0,(w64 (v1+1)),(w64 (v2-1)),jk,zt,c⟩ ?_
 clear c
 rintro m16 q ⟨a,e,u,h,p,e3,c⟩
 refine Wj p ?_
 clear p
 cases m16 with
 | zero=>cases c
 | succ m16=>
  obtain ⟨self16,v⟩:∃g,g=ZaH k v1 m16:=⟨_,rfl⟩
  have c:Zk8 k self16 v1 a u h=some r:=by first | (rw [v];exact c) | exact c
  refine WA.block ?_
  refine WA.seq ?_
  refine WA.block ?_
  refine WA.loop (fun m q=>∃(d:Int),J q [(0,ar 0 e),(1,oi v1),(4,.val false [.pv (.fn 104)]),(11,oi d),(12,oi h)] [(0,.arr 2 (a.map Za))]∧Zbp k self16 v1 a h m d=some r) k ⟨u,jk,c⟩ ?_
  clear c
  rintro m19 q ⟨d,p,c⟩
  refine Wj p ?_
  clear p
  cases m19 with
  | zero=>cases c
  | succ m19=>
   obtain ⟨a6,w⟩:∃g,g=Zbp k self16 v1 a h m19:=⟨_,rfl⟩
   have c:Zfm k self16 a6 v1 a h d=some r:=by first | (rw [w];exact c) | exact c
   refine WA.seq ?_
   refine WA.join (fun q=>∃(a2:Bool),J q [(0,ar 0 e),(1,oi v1),(4,.val false [.pv (.fn 104)]),(11,oi d),(12,oi h),(47,ob a2)] [(0,.arr 2 (a.map Za))]∧Zfo k self16 a6 v1 a h d a2=some r) ?_ ?_
   {
 rintro q ⟨a2,p,c⟩
 refine Wj p ?_
 clear p
 refine WA.cond (b:=a2) rfl (fun y=>?_) (fun y=>?_)
 {
 have c:=Zk c y
 refine WA.skip ?_
 refine WA.block ?_
 refine Wr [] [(0,ar 0 e),(1,oi v1),(4,.val false [.pv (.fn 104)]),(11,oi (w64 (d+1))),(12,oi h)] [(0,.arr 2 (a.map Za))] ?_
 exact ⟨m19,zl_ _,(w64 (d+1)),jk,by rw [w] at c;exact c⟩ }
 {
 have c:=Zj c y
 refine WA.exit ?_
 refine WA.seq ?_
 refine WA.block ?_
 refine WA.loop (fun m q=>∃(f:Int),J q [(0,ar 0 e),(1,oi v1),(4,.val false [.pv (.fn 104)]),(11,oi d),(12,oi f)] [(0,.arr 2 (a.map Za))]∧ZaW k self16 v1 a d m f=some r) k ⟨h,jk,c⟩ ?_
 clear c
 rintro m23 q ⟨f,p,c⟩
 refine Wj p ?_
 clear p
 cases m23 with
 | zero=>cases c
 | succ m23=>
  obtain ⟨a7,x⟩:∃g,g=ZaW k self16 v1 a d m23:=⟨_,rfl⟩
  have c:Zfn k self16 a7 v1 a d f=some r:=by first | (rw [x];exact c) | exact c
  refine WA.seq ?_
  refine WA.join (fun q=>∃(a3:Bool),J q [(0,ar 0 e),(1,oi v1),(4,.val false [.pv (.fn 104)]),(11,oi d),(12,oi f),(65,ob a3)] [(0,.arr 2 (a.map Za))]∧Zcr self16 a7 a d f a3=some r) ?_ ?_
  {
 rintro q ⟨a3,p,c⟩
 refine Wj p ?_
 clear p
 refine WA.cond (b:=a3) rfl (fun z=>?_) (fun z=>?_)
 {
 have c:=Zk c z
 refine WA.skip ?_
 refine WA.block ?_
 refine Wr [] [(0,ar 0 e),(1,oi v1),(4,.val false [.pv (.fn 104)]),(11,oi d),(12,oi (w64 (f-1)))] [(0,.arr 2 (a.map Za))] ?_
 exact ⟨m23,zl_ _,(w64 (f-1)),jk,by rw [x] at c;exact c⟩ }
 {
 have c:=Zj c z
 refine WA.exit ?_
 refine WA.seq ?_
 refine Ws [] [(0,ar 0 e),(1,oi v1),(4,.val false [.pv (.fn 104)]),(11,oi d),(12,oi f),(70,ob (decide (d > f)))] [(0,.arr 2 (a.map Za))] ?_
 refine WA.cond (b:=(decide (d > f))) rfl (fun a0=>?_) (fun a0=>?_)
 {
 have c:=Zk c a0
 refine WA.exit ?_
 refine Ws [] [(10,oi d)] [(0,.arr 2 (a.map Za))] ?_
 refine WA.ret ?_
 obtain rfl:=zj_ c
 exact Zo (oi d) [.arr 2 (a.map Za)] kr kr kr kr nd rfl rfl }
 {
 have c:=Zj c a0
 refine WA.skip ?_
 refine WA.seq ?_
 obtain ⟨b8,c⟩:=Zn c
 obtain ⟨i,d9,c⟩:=Zh c
 obtain ⟨b9,c⟩:=Zn c
 obtain ⟨l,e0,c⟩:=Zh c
 obtain ⟨c7,c⟩:=Zn c
 obtain ⟨c3,e1,c⟩:=Zh c
 obtain ⟨c8,c⟩:=Zn c
 obtain ⟨c4,e2,c⟩:=Zh c
 have z0:f<((e:Nat):Int):=(by have h_:=b8.2;(try simp only [zl,Zi] at h_ ⊢);omega)
 have z2:d<((e:Nat):Int):=(by have h_:=b9.2;(try simp only [zl,Zi] at h_ ⊢);omega)
 refine Wdm (((((a.map Za).set (Int.toNat d) (Za i)).set (Int.toNat f) (Za l)),((a.map Za).set (Int.toNat d) (Za i))):(List (List PV))×(List (List PV))) ((((a.set (Int.toNat d) i).set (Int.toNat f) l).map Za),((a.set (Int.toNat d) i).map Za)) (fun m_=>([(0,ar 0 e),(1,oi v1),(4,.val false [.pv (.fn 104)]),(11,oi d),(12,oi f)],[(0,.arr 2 m_.1)],[e=(a.map Za).length,(0:Int)≤f,f<((e:Nat):Int),e=(a.map Za).length,(a.map Za)[Int.toNat f]?=some (Za i),e=(a.map Za).length,(0:Int)≤d,d<((e:Nat):Int),e=(a.map Za).length,(a.map Za)[Int.toNat d]?=some (Za l),e=(a.map Za).length,(0:Int)≤d,d<((e:Nat):Int),e=(a.map Za).length,(a.map Za)[Int.toNat d]?=some (Za c3),e=m_.2.length,(0:Int)≤f,f<((e:Nat):Int),e=m_.2.length,m_.2[Int.toNat f]?=some (Za c4)])) (ZJ zm zm) [(7,.cells (Za i)),(11,.cells (Za l)),(13,.cells (Za c3)),(15,.cells (Za c4))] ⟨zt,b8.1,z0,zt,(Zr (Zs _ d9)),zt,b9.1,z2,zt,(Zr (Zs _ e0)),zt,c7.1,z2,zt,(Zr (Zs _ e1)),zt,c8.1,z0,zt,(Zr (Zs _ e2)),trivial⟩ ?_
 refine Ws [] [(0,ar 0 e),(1,oi v1),(4,.val false [.pv (.fn 104)]),(11,oi (w64 (d+1))),(12,oi f)] [(0,.arr 2 (((a.set (Int.toNat d) i).set (Int.toNat f) l).map Za))] ?_
 refine Wr [] [(0,ar 0 e),(1,oi v1),(4,.val false [.pv (.fn 104)]),(11,oi (w64 (d+1))),(12,oi (w64 (f-1)))] [(0,.arr 2 (((a.set (Int.toNat d) i).set (Int.toNat f) l).map Za))] ?_
 exact ⟨m16,zl_ _,((a.set (Int.toNat d) i).set (Int.toNat f) l),e,(w64 (d+1)),(w64 (f-1)),jk,zt,by rw [v] at c;exact c⟩ } } }
  {
 rcases zo_ (decide (d≤f)) with o | o
 {
 have c:=Zk c o
 obtain ⟨b6,c⟩:=Zn c
 obtain ⟨b0,d6,c⟩:=Zh c
 obtain ⟨b7,c⟩:=Zn c
 obtain ⟨b1,d7,c⟩:=Zh c
 obtain ⟨a5,d8,c⟩:=Zh c
 refine Wd [(3,.bool true),(8,.cells (Za b0)),(12,.cells (Za b1)),(13,.callR [] (oi a5))] [(0,ar 0 e),(1,oi v1),(4,.val false [.pv (.fn 104)]),(11,oi d),(12,oi f),(65,ob (decide (a5<0)))] [(0,.arr 2 (a.map Za))] [(decide (d≤f))=true,e=(a.map Za).length,(0:Int)≤v1,v1<((e:Nat):Int),e=(a.map Za).length,(a.map Za)[Int.toNat v1]?=some (Za b0),e=(a.map Za).length,(0:Int)≤f,f<((e:Nat):Int),e=(a.map Za).length,(a.map Za)[Int.toNat f]?=some (Za b1),SM μ 104 [tv (Za b0),tv (Za b1)] [] (oi a5) [],([]:List Nat).Nodup] ⟨o,zt,b6.1,(by have h_:=b6.2;(try simp only [zl,Zi] at h_ ⊢);omega),zt,(Zr (Zs _ d6)),zt,b7.1,(by have h_:=b7.2;(try simp only [zl,Zi] at h_ ⊢);omega),zt,(Zr (Zs _ d7)),(Zat k _ _ _ d8),nd,trivial⟩ ?_
 exact ⟨(decide (a5<0)),jk,c⟩ }
 {
 have c:=Zj c o
 refine Wd [(3,.bool false),(13,.callR [] (.tup []))] [(0,ar 0 e),(1,oi v1),(4,.val false [.pv (.fn 104)]),(11,oi d),(12,oi f),(65,ob false)] [(0,.arr 2 (a.map Za))] [(decide (d≤f))=false] ⟨o,trivial⟩ ?_
 exact ⟨false,jk,c⟩ } } } }
   {
 rcases zo_ (decide (d≤h)) with n | n
 {
 have c:=Zk c n
 obtain ⟨b4,c⟩:=Zn c
 obtain ⟨a8,d3,c⟩:=Zh c
 obtain ⟨b5,c⟩:=Zn c
 obtain ⟨a9,d4,c⟩:=Zh c
 obtain ⟨a4,d5,c⟩:=Zh c
 refine Wd [(3,.bool true),(8,.cells (Za a8)),(12,.cells (Za a9)),(13,.callR [] (oi a4))] [(0,ar 0 e),(1,oi v1),(4,.val false [.pv (.fn 104)]),(11,oi d),(12,oi h),(47,ob (!(decide (a4<0))))] [(0,.arr 2 (a.map Za))] [(decide (d≤h))=true,e=(a.map Za).length,(0:Int)≤v1,v1<((e:Nat):Int),e=(a.map Za).length,(a.map Za)[Int.toNat v1]?=some (Za a8),e=(a.map Za).length,(0:Int)≤d,d<((e:Nat):Int),e=(a.map Za).length,(a.map Za)[Int.toNat d]?=some (Za a9),SM μ 104 [tv (Za a8),tv (Za a9)] [] (oi a4) [],([]:List Nat).Nodup] ⟨n,zt,b4.1,(by have h_:=b4.2;(try simp only [zl,Zi] at h_ ⊢);omega),zt,(Zr (Zs _ d3)),zt,b5.1,(by have h_:=b5.2;(try simp only [zl,Zi] at h_ ⊢);omega),zt,(Zr (Zs _ d4)),(Zat k _ _ _ d5),nd,trivial⟩ ?_
 exact ⟨(!(decide (a4<0))),jk,c⟩ }
 {
 have c:=Zj c n
 refine Wd [(3,.bool false),(13,.callR [] (.tup []))] [(0,ar 0 e),(1,oi v1),(4,.val false [.pv (.fn 104)]),(11,oi d),(12,oi h),(47,ob false)] [(0,.arr 2 (a.map Za))] [(decide (d≤h))=false] ⟨n,trivial⟩ ?_
 exact ⟨false,jk,c⟩ } }
def ZbU (self16:(List Zb)→Int→Int→Option (Bool×(List Zb))) (a:Int) (b:List Zb) (c:Int):Option (Bool×(List Zb)):=
  self16 b c (w64 (a+1))
def Zfl (k:Nat) (self16:(List Zb)→Int→Int→Option (Bool×(List Zb))) (d:(List Zb)→Int→Option (Bool×(List Zb))) (l:Int) (e:Int) (f:Int) (b:List Zb) (a:Int):Option (Bool×(List Zb)):=
  (cond (decide (a<l)) ((if (0:Int)≤a∧a<(b.length:Int) then (idxL b a).bind fun g=>if (0:Int)≤(w64 (a-1))∧(w64 (a-1))<(b.length:Int) then (idxL b (w64 (a-1))).bind fun h=>(F104 k g h).bind fun i=>(cond (!(decide (i<0))) ((ZbU self16 e b f)) ((if (0:Int)≤(w64 (a-1))∧(w64 (a-1))<(b.length:Int) then (idxL b (w64 (a-1))).bind fun c=>if (0:Int)≤a∧a<(b.length:Int) then (idxL b a).bind fun j=>if (0:Int)≤a∧a<(b.length:Int) then (idxL b a).bind fun m=>if (0:Int)≤(w64 (a-1))∧(w64 (a-1))<((b.set (Int.toNat a) c).length:Int) then (idxL (b.set (Int.toNat a) c) (w64 (a-1))).bind fun n=>(d ((b.set (Int.toNat a) c).set (Int.toNat (w64 (a-1))) j) (w64 (a+1))) else none else none else none else none))) else none else none)) ((ZbU self16 e b f)))
def Za6 (k:Nat) (self16:(List Zb)→Int→Int→Option (Bool×(List Zb))) (e:Int) (a:Int) (b:Int):Nat→(List Zb)→Int→Option (Bool×(List Zb))
  | 0,_,_=>none
  | f+1,c,d=>Zfl k self16 (Za6 k self16 e a b f) e a b c d
def Za3 (k:Nat) (self16:(List Zb)→Int→Int→Option (Bool×(List Zb))) (d:Int) (b:Int) (a:Int) (c:List Zb):Option (Bool×(List Zb)):=
  (cond (decide ((w64 (d-a))≥2)) ((Za6 k self16 d b a k c (w64 (a+1)))) ((ZbU self16 b c a)))
def Zfk (k:Nat) (self16:(List Zb)→Int→Int→Option (Bool×(List Zb))) (d:(List Zb)→Int→Option (Bool×(List Zb))) (l:Int) (e:Int) (f:Int) (b:List Zb) (a:Int):Option (Bool×(List Zb)):=
  (cond (decide (a≥1)) ((if (0:Int)≤a∧a<(b.length:Int) then (idxL b a).bind fun g=>if (0:Int)≤(w64 (a-1))∧(w64 (a-1))<(b.length:Int) then (idxL b (w64 (a-1))).bind fun h=>(F104 k g h).bind fun i=>(cond (!(decide (i<0))) ((Za3 k self16 l e f b)) ((if (0:Int)≤(w64 (a-1))∧(w64 (a-1))<(b.length:Int) then (idxL b (w64 (a-1))).bind fun c=>if (0:Int)≤a∧a<(b.length:Int) then (idxL b a).bind fun j=>if (0:Int)≤a∧a<(b.length:Int) then (idxL b a).bind fun m=>if (0:Int)≤(w64 (a-1))∧(w64 (a-1))<((b.set (Int.toNat a) c).length:Int) then (idxL (b.set (Int.toNat a) c) (w64 (a-1))).bind fun n=>(d ((b.set (Int.toNat a) c).set (Int.toNat (w64 (a-1))) j) (w64 (a-1))) else none else none else none else none))) else none else none)) ((Za3 k self16 l e f b)))
def Za5 (k:Nat) (self16:(List Zb)→Int→Int→Option (Bool×(List Zb))) (e:Int) (a:Int) (b:Int):Nat→(List Zb)→Int→Option (Bool×(List Zb))
  | 0,_,_=>none
  | f+1,c,d=>Zfk k self16 (Za5 k self16 e a b f) e a b c d
def Zcq (k:Nat) (self16:(List Zb)→Int→Int→Option (Bool×(List Zb))) (d:Int→Option (Bool×(List Zb))) (v1:Int) (g:Int) (b:List Zb) (e:Int) (a:Int) (h:Bool):Option (Bool×(List Zb)):=
  cond h ((d (w64 (a+1)))) (((cond (a == g) ((some (true,b))) (((cond (decide ((w64 (g-v1))<50)) ((some (false,b))) ((if (0:Int)≤(w64 (a-1))∧(w64 (a-1))<(b.length:Int) then (idxL b (w64 (a-1))).bind fun c=>if (0:Int)≤a∧a<(b.length:Int) then (idxL b a).bind fun f=>if (0:Int)≤a∧a<(b.length:Int) then (idxL b a).bind fun i=>if (0:Int)≤(w64 (a-1))∧(w64 (a-1))<((b.set (Int.toNat a) c).length:Int) then (idxL (b.set (Int.toNat a) c) (w64 (a-1))).bind fun j=>((cond (decide ((w64 (a-v1))≥2)) ((Za5 k self16 g e a k ((b.set (Int.toNat a) c).set (Int.toNat (w64 (a-1))) f) (w64 (a-1)))) ((Za3 k self16 g e a ((b.set (Int.toNat a) c).set (Int.toNat (w64 (a-1))) f))))) else none else none else none else none))))))))
def Zfj (k:Nat) (self16:(List Zb)→Int→Int→Option (Bool×(List Zb))) (c:Int→Option (Bool×(List Zb))) (v1:Int) (e:Int) (b:List Zb) (d:Int) (a:Int):Option (Bool×(List Zb)):=
  cond (decide (a<e)) (if (0:Int)≤a∧a<(b.length:Int) then (idxL b a).bind fun f=>if (0:Int)≤(w64 (a-1))∧(w64 (a-1))<(b.length:Int) then (idxL b (w64 (a-1))).bind fun g=>(F104 k f g).bind fun h=>(Zcq k self16 c v1 e b d a (!(decide (h<0)))) else none else none) ((Zcq k self16 c v1 e b d a false))
def Za4 (k:Nat) (self16:(List Zb)→Int→Int→Option (Bool×(List Zb))) (v1:Int) (d:Int) (a:List Zb) (b:Int):Nat→Int→Option (Bool×(List Zb))
  | 0,_=>none
  | e+1,c=>Zfj k self16 (Za4 k self16 v1 d a b e) v1 d a b c
def Zfi (k:Nat) (self16:(List Zb)→Int→Int→Option (Bool×(List Zb))) (v1:Int) (d:Int) (a:List Zb) (c:Int) (b:Int):Option (Bool×(List Zb)):=
  (cond (decide (b<5)) ((Za4 k self16 v1 d a b k c)) (((some (false,a)))))
def Zam (k:Nat) (v1:Int) (d:Int):Nat→(List Zb)→Int→Int→Option (Bool×(List Zb))
  | 0,_,_,_=>none
  | e+1,a,b,c=>Zfi k (Zam k v1 d e) v1 d a b c
def F154 (k:Nat) (v0:List Zb) (v1:Int) (a:Int):Option (Bool×(List Zb)):=
  (((Zam k v1 a k v0 (w64 (v1+1)) 0)))
theorem ZqJ (k:Nat) (v0:List Zb) (v1:Int) (p:Int) (r:Bool×(List Zb)) (a:F154 k v0 v1 p=some r) {n0:Nat} (hn_n0:n0=v0.length):SM μ 154 [ar 0 n0,oi v1,oi p,.val false [.pv (.fn 104)]] [.arr 2 (v0.map Za)] (ob r.1) [.arr 2 (r.2.map Za)]:=by
 refine Zz [0] Tryz.func154 rfl kr kr ?_
 show WA _ _ 141 _ _ _
 refine Ws [] [(0,ar 0 n0),(1,oi v1),(2,oi p),(3,.val false [.pv (.fn 104)])] [(0,.arr 2 (v0.map Za))] ?_
 refine Ws [] [(0,ar 0 n0),(1,oi v1),(2,oi p),(3,.val false [.pv (.fn 104)]),(9,oi (w64 (v1+1)))] [(0,.arr 2 (v0.map Za))] ?_
 refine WA.seq ?_
 refine Ws [] [(0,ar 0 n0),(1,oi v1),(2,oi p),(3,.val false [.pv (.fn 104)]),(9,oi (w64 (v1+1))),(10,oi 0)] [(0,.arr 2 (v0.map Za))] ?_
 refine WA.block ?_
 refine WA.loop (fun m t=>∃(d:List Zb) (i:Nat) (a1:Int) (e:Int),J t [(0,ar 0 i),(1,oi v1),(2,oi p),(3,.val false [.pv (.fn 104)]),(9,oi a1),(10,oi e)] [(0,.arr 2 (d.map Za))]∧i=(d:List _).length∧Zam k v1 p m d a1 e=some r) k ⟨v0,n0,(w64 (v1+1)),0,jk,zt,a⟩ ?_
 clear a
 rintro m16 t ⟨d,i,a1,e,s,h9,a⟩
 refine Wj s ?_
 clear s
 cases m16 with
 | zero=>cases a
 | succ m16=>
  obtain ⟨self16,a7⟩:∃g,g=Zam k v1 p m16:=⟨_,rfl⟩
  have a:Zfi k self16 v1 p d a1 e=some r:=by first | (rw [a7];exact a) | exact a
  refine WA.seq ?_
  refine Ws [] [(0,ar 0 i),(1,oi v1),(2,oi p),(3,.val false [.pv (.fn 104)]),(9,oi a1),(10,oi e),(16,ob (decide (e<5)))] [(0,.arr 2 (d.map Za))] ?_
  refine WA.cond (b:=(decide (e<5))) rfl (fun b1=>?_) (fun b1=>?_)
  {
 have a:=Zk a b1
 refine WA.skip ?_
 refine WA.join (fun t=>∃(a2:List Zb) (a5:Nat) (a6:Int),J t [(0,ar 0 a5),(1,oi v1),(2,oi p),(3,.val false [.pv (.fn 104)]),(9,oi a6),(10,oi e)] [(0,.arr 2 (a2.map Za))]∧a5=(a2:List _).length∧ZbU self16 e a2 a6=some r) ?_ ?_
 {
 rintro t ⟨a2,a5,a6,s,i3,a⟩
 refine Wj s ?_
 clear s
 refine Wr [] [(0,ar 0 a5),(1,oi v1),(2,oi p),(3,.val false [.pv (.fn 104)]),(9,oi a6),(10,oi (w64 (e+1)))] [(0,.arr 2 (a2.map Za))] ?_
 exact ⟨m16,zl_ _,a2,a5,a6,(w64 (e+1)),jk,zt,by rw [a7] at a;exact a⟩ }
 {
 refine WA.block ?_
 refine WA.seq ?_
 refine WA.block ?_
 refine WA.loop (fun m t=>∃(c:Int),J t [(0,ar 0 i),(1,oi v1),(2,oi p),(3,.val false [.pv (.fn 104)]),(9,oi c),(10,oi e)] [(0,.arr 2 (d.map Za))]∧Za4 k self16 v1 p d e m c=some r) k ⟨a1,jk,a⟩ ?_
 clear a
 rintro m19 t ⟨c,s,a⟩
 refine Wj s ?_
 clear s
 cases m19 with
 | zero=>cases a
 | succ m19=>
  obtain ⟨c5,a8⟩:∃g,g=Za4 k self16 v1 p d e m19:=⟨_,rfl⟩
  have a:Zfj k self16 c5 v1 p d e c=some r:=by first | (rw [a8];exact a) | exact a
  refine WA.seq ?_
  refine WA.join (fun t=>∃(c1:Bool),J t [(0,ar 0 i),(1,oi v1),(2,oi p),(3,.val false [.pv (.fn 104)]),(9,oi c),(10,oi e),(36,ob c1)] [(0,.arr 2 (d.map Za))]∧Zcq k self16 c5 v1 p d e c c1=some r) ?_ ?_
  {
 rintro t ⟨c1,s,a⟩
 refine Wj s ?_
 clear s
 refine WA.cond (b:=c1) rfl (fun b2=>?_) (fun b2=>?_)
 {
 have a:=Zk a b2
 refine WA.skip ?_
 refine WA.block ?_
 refine Wr [] [(0,ar 0 i),(1,oi v1),(2,oi p),(3,.val false [.pv (.fn 104)]),(9,oi (w64 (c+1))),(10,oi e)] [(0,.arr 2 (d.map Za))] ?_
 exact ⟨m19,zl_ _,(w64 (c+1)),jk,by rw [a8] at a;exact a⟩ }
 {
 have a:=Zj a b2
 refine WA.exit ?_
 refine WA.seq ?_
 refine Ws [] [(0,ar 0 i),(1,oi v1),(2,oi p),(3,.val false [.pv (.fn 104)]),(9,oi c),(10,oi e),(41,ob (c == p))] [(0,.arr 2 (d.map Za))] ?_
 refine WA.cond (b:=(c == p)) rfl (fun b3=>?_) (fun b3=>?_)
 {
 have a:=Zk a b3
 refine Ws [] [(8,ob true)] [(0,.arr 2 (d.map Za))] ?_
 refine WA.ret ?_
 obtain rfl:=zj_ a
 exact Zo (ob true) [.arr 2 (d.map Za)] kr kr kr kr nd rfl rfl }
 {
 have a:=Zj a b3
 refine WA.skip ?_
 refine WA.seq ?_
 refine Ws [] [(0,ar 0 i),(1,oi v1),(2,oi p),(3,.val false [.pv (.fn 104)]),(9,oi c),(10,oi e),(45,ob (decide ((w64 (p-v1))<50)))] [(0,.arr 2 (d.map Za))] ?_
 refine WA.cond (b:=(decide ((w64 (p-v1))<50))) rfl (fun b4=>?_) (fun b4=>?_)
 {
 have a:=Zk a b4
 refine Ws [] [(8,ob false)] [(0,.arr 2 (d.map Za))] ?_
 refine WA.ret ?_
 obtain rfl:=zj_ a
 exact Zo (ob false) [.arr 2 (d.map Za)] kr kr kr kr nd rfl rfl }
 {
 have a:=Zj a b4
 refine WA.skip ?_
 refine WA.seq ?_
 obtain ⟨d4,a⟩:=Zn a
 obtain ⟨q,g1,a⟩:=Zh a
 obtain ⟨d5,a⟩:=Zn a
 obtain ⟨v,g2,a⟩:=Zh a
 obtain ⟨f2,a⟩:=Zn a
 obtain ⟨e6,g3,a⟩:=Zh a
 obtain ⟨f3,a⟩:=Zn a
 obtain ⟨e7,g4,a⟩:=Zh a
 have z0:(w64 (c-1))<((i:Nat):Int):=(by have h_:=d4.2;(try simp only [zl,Zi] at h_ ⊢);omega)
 have z2:c<((i:Nat):Int):=(by have h_:=d5.2;(try simp only [zl,Zi] at h_ ⊢);omega)
 refine Wdm (((((d.map Za).set (Int.toNat c) (Za q)).set (Int.toNat (w64 (c-1))) (Za v)),((d.map Za).set (Int.toNat c) (Za q))):(List (List PV))×(List (List PV))) ((((d.set (Int.toNat c) q).set (Int.toNat (w64 (c-1))) v).map Za),((d.set (Int.toNat c) q).map Za)) (fun m_=>([(0,ar 0 i),(1,oi v1),(2,oi p),(3,.val false [.pv (.fn 104)]),(9,oi c),(10,oi e)],[(0,.arr 2 m_.1)],[i=(d.map Za).length,(0:Int)≤(w64 (c-1)),(w64 (c-1))<((i:Nat):Int),i=(d.map Za).length,(d.map Za)[Int.toNat (w64 (c-1))]?=some (Za q),i=(d.map Za).length,(0:Int)≤c,c<((i:Nat):Int),i=(d.map Za).length,(d.map Za)[Int.toNat c]?=some (Za v),i=(d.map Za).length,(0:Int)≤c,c<((i:Nat):Int),i=(d.map Za).length,(d.map Za)[Int.toNat c]?=some (Za e6),i=m_.2.length,(0:Int)≤(w64 (c-1)),(w64 (c-1))<((i:Nat):Int),i=m_.2.length,m_.2[Int.toNat (w64 (c-1))]?=some (Za e7)])) (ZJ zm zm) [(9,.cells (Za q)),(13,.cells (Za v)),(15,.cells (Za e6)),(17,.cells (Za e7))] ⟨zt,d4.1,z0,zt,(Zr (Zs _ g1)),zt,d5.1,z2,zt,(Zr (Zs _ g2)),zt,f2.1,z2,zt,(Zr (Zs _ g3)),zt,f3.1,z0,zt,(Zr (Zs _ g4)),trivial⟩ ?_
 refine WA.join (fun t=>∃(u:List Zb) (y:Nat),J t [(0,ar 0 y),(1,oi v1),(2,oi p),(3,.val false [.pv (.fn 104)]),(9,oi c),(10,oi e)] [(0,.arr 2 (u.map Za))]∧y=(u:List _).length∧Za3 k self16 p e c u=some r) ?_ ?_
 {
 rintro t ⟨u,y,s,i1,a⟩
 refine Wj s ?_
 clear s
 refine Ws [] [(0,ar 0 y),(1,oi v1),(2,oi p),(3,.val false [.pv (.fn 104)]),(9,oi c),(10,oi e),(104,ob (decide ((w64 (p-c))≥2)))] [(0,.arr 2 (u.map Za))] ?_
 refine WA.cond (b:=(decide ((w64 (p-c))≥2))) rfl (fun b8=>?_) (fun b8=>?_)
 {
 have a:=Zk a b8
 refine Ws [] [(0,ar 0 y),(1,oi v1),(2,oi p),(3,.val false [.pv (.fn 104)]),(9,oi c),(10,oi e),(12,oi (w64 (c+1)))] [(0,.arr 2 (u.map Za))] ?_
 refine WA.block ?_
 refine WA.loop (fun m t=>∃(n:List Zb) (o:Nat) (h:Int),J t [(0,ar 0 o),(1,oi v1),(2,oi p),(3,.val false [.pv (.fn 104)]),(9,oi c),(10,oi e),(12,oi h)] [(0,.arr 2 (n.map Za))]∧o=(n:List _).length∧Za6 k self16 p e c m n h=some r) k ⟨u,y,(w64 (c+1)),jk,zt,a⟩ ?_
 clear a
 rintro m23 t ⟨n,o,h,s,i2,a⟩
 refine Wj s ?_
 clear s
 cases m23 with
 | zero=>cases a
 | succ m23=>
  obtain ⟨e5,b0⟩:∃g,g=Za6 k self16 p e c m23:=⟨_,rfl⟩
  have a:Zfl k self16 e5 p e c n h=some r:=by first | (rw [b0];exact a) | exact a
  refine WA.seq ?_
  refine Ws [] [(0,ar 0 o),(1,oi v1),(2,oi p),(3,.val false [.pv (.fn 104)]),(9,oi c),(10,oi e),(12,oi h),(109,ob (decide (h<p)))] [(0,.arr 2 (n.map Za))] ?_
  refine WA.cond (b:=(decide (h<p))) rfl (fun b9=>?_) (fun b9=>?_)
  {
 have a:=Zk a b9
 refine WA.skip ?_
 refine WA.seq ?_
 refine WA.block ?_
 refine WA.seq ?_
 refine WA.seq ?_
 obtain ⟨e0,a⟩:=Zn a
 obtain ⟨d0,h2,a⟩:=Zh a
 obtain ⟨e1,a⟩:=Zn a
 obtain ⟨d1,h3,a⟩:=Zh a
 obtain ⟨c4,h4,a⟩:=Zh a
 refine Wd [(4,.cells (Za d0)),(9,.cells (Za d1)),(10,.callR [] (oi c4))] [(0,ar 0 o),(1,oi v1),(2,oi p),(3,.val false [.pv (.fn 104)]),(9,oi c),(10,oi e),(12,oi h),(124,ob (!(decide (c4<0))))] [(0,.arr 2 (n.map Za))] [o=(n.map Za).length,(0:Int)≤h,h<((o:Nat):Int),o=(n.map Za).length,(n.map Za)[Int.toNat h]?=some (Za d0),o=(n.map Za).length,(0:Int)≤(w64 (h-1)),(w64 (h-1))<((o:Nat):Int),o=(n.map Za).length,(n.map Za)[Int.toNat (w64 (h-1))]?=some (Za d1),SM μ 104 [tv (Za d0),tv (Za d1)] [] (oi c4) [],([]:List Nat).Nodup] ⟨zt,e0.1,(by have h_:=e0.2;(try simp only [zl,Zi] at h_ ⊢);omega),zt,(Zr (Zs _ h2)),zt,e1.1,(by have h_:=e1.2;(try simp only [zl,Zi] at h_ ⊢);omega),zt,(Zr (Zs _ h3)),(Zat k _ _ _ h4),nd,trivial⟩ ?_
 refine WA.cond (b:=(!(decide (c4<0)))) rfl (fun c0=>?_) (fun c0=>?_)
 {
 have a:=Zk a c0
 refine WA.exit ?_
 exact ⟨n,o,c,jk,zt,a⟩ }
 {
 have a:=Zj a c0
 refine WA.skip ?_
 obtain ⟨e2,a⟩:=Zn a
 obtain ⟨x,h5,a⟩:=Zh a
 obtain ⟨e3,a⟩:=Zn a
 obtain ⟨a4,h6,a⟩:=Zh a
 obtain ⟨f6,a⟩:=Zn a
 obtain ⟨f0,h7,a⟩:=Zh a
 obtain ⟨f7,a⟩:=Zn a
 obtain ⟨f1,h8,a⟩:=Zh a
 have z0:(w64 (h-1))<((o:Nat):Int):=(by have h_:=e2.2;(try simp only [zl,Zi] at h_ ⊢);omega)
 have z2:h<((o:Nat):Int):=(by have h_:=e3.2;(try simp only [zl,Zi] at h_ ⊢);omega)
 refine Wdm (((((n.map Za).set (Int.toNat h) (Za x)).set (Int.toNat (w64 (h-1))) (Za a4)),((n.map Za).set (Int.toNat h) (Za x))):(List (List PV))×(List (List PV))) ((((n.set (Int.toNat h) x).set (Int.toNat (w64 (h-1))) a4).map Za),((n.set (Int.toNat h) x).map Za)) (fun m_=>([(0,ar 0 o),(1,oi v1),(2,oi p),(3,.val false [.pv (.fn 104)]),(9,oi c),(10,oi e),(12,oi h)],[(0,.arr 2 m_.1)],[o=(n.map Za).length,(0:Int)≤(w64 (h-1)),(w64 (h-1))<((o:Nat):Int),o=(n.map Za).length,(n.map Za)[Int.toNat (w64 (h-1))]?=some (Za x),o=(n.map Za).length,(0:Int)≤h,h<((o:Nat):Int),o=(n.map Za).length,(n.map Za)[Int.toNat h]?=some (Za a4),o=(n.map Za).length,(0:Int)≤h,h<((o:Nat):Int),o=(n.map Za).length,(n.map Za)[Int.toNat h]?=some (Za f0),o=m_.2.length,(0:Int)≤(w64 (h-1)),(w64 (h-1))<((o:Nat):Int),o=m_.2.length,m_.2[Int.toNat (w64 (h-1))]?=some (Za f1)])) (ZJ zm zm) [(9,.cells (Za x)),(13,.cells (Za a4)),(15,.cells (Za f0)),(17,.cells (Za f1))] ⟨zt,e2.1,z0,zt,(Zr (Zs _ h5)),zt,e3.1,z2,zt,(Zr (Zs _ h6)),zt,f6.1,z2,zt,(Zr (Zs _ h7)),zt,f7.1,z0,zt,(Zr (Zs _ h8)),trivial⟩ ?_
 refine Wr [] [(0,ar 0 o),(1,oi v1),(2,oi p),(3,.val false [.pv (.fn 104)]),(9,oi c),(10,oi e),(12,oi (w64 (h+1)))] [(0,.arr 2 (((n.set (Int.toNat h) x).set (Int.toNat (w64 (h-1))) a4).map Za))] ?_
 exact ⟨m23,zl_ _,((n.set (Int.toNat h) x).set (Int.toNat (w64 (h-1))) a4),o,(w64 (h+1)),jk,zt,by rw [b0] at a;exact a⟩ } }
  {
 have a:=Zj a b9
 refine WA.exit ?_
 exact ⟨n,o,c,jk,zt,a⟩ } }
 {
 have a:=Zj a b8
 refine WA.skip ?_
 exact ⟨u,y,c,jk,zt,a⟩ } }
 {
 refine Ws [] [(0,ar 0 i),(1,oi v1),(2,oi p),(3,.val false [.pv (.fn 104)]),(9,oi c),(10,oi e),(65,ob (decide ((w64 (c-v1))≥2)))] [(0,.arr 2 (((d.set (Int.toNat c) q).set (Int.toNat (w64 (c-1))) v).map Za))] ?_
 refine WA.cond (b:=(decide ((w64 (c-v1))≥2))) rfl (fun b5=>?_) (fun b5=>?_)
 {
 have a:=Zk a b5
 refine Ws [] [(0,ar 0 i),(1,oi v1),(2,oi p),(3,.val false [.pv (.fn 104)]),(9,oi c),(10,oi e),(11,oi (w64 (c-1)))] [(0,.arr 2 (((d.set (Int.toNat c) q).set (Int.toNat (w64 (c-1))) v).map Za))] ?_
 refine WA.block ?_
 refine WA.loop (fun m t=>∃(j:List Zb) (l:Nat) (f:Int),J t [(0,ar 0 l),(1,oi v1),(2,oi p),(3,.val false [.pv (.fn 104)]),(9,oi c),(10,oi e),(11,oi f)] [(0,.arr 2 (j.map Za))]∧l=(j:List _).length∧Za5 k self16 p e c m j f=some r) k ⟨((d.set (Int.toNat c) q).set (Int.toNat (w64 (c-1))) v),i,(w64 (c-1)),jk,zt,a⟩ ?_
 clear a
 rintro m21 t ⟨j,l,f,s,i0,a⟩
 refine Wj s ?_
 clear s
 cases m21 with
 | zero=>cases a
 | succ m21=>
  obtain ⟨e4,a9⟩:∃g,g=Za5 k self16 p e c m21:=⟨_,rfl⟩
  have a:Zfk k self16 e4 p e c j f=some r:=by first | (rw [a9];exact a) | exact a
  refine WA.seq ?_
  refine Ws [] [(0,ar 0 l),(1,oi v1),(2,oi p),(3,.val false [.pv (.fn 104)]),(9,oi c),(10,oi e),(11,oi f),(69,ob (decide (f≥1)))] [(0,.arr 2 (j.map Za))] ?_
  refine WA.cond (b:=(decide (f≥1))) rfl (fun b6=>?_) (fun b6=>?_)
  {
 have a:=Zk a b6
 refine WA.skip ?_
 refine WA.seq ?_
 refine WA.block ?_
 refine WA.seq ?_
 refine WA.seq ?_
 obtain ⟨d6,a⟩:=Zn a
 obtain ⟨c8,g5,a⟩:=Zh a
 obtain ⟨d7,a⟩:=Zn a
 obtain ⟨c9,g6,a⟩:=Zh a
 obtain ⟨c3,g7,a⟩:=Zh a
 refine Wd [(4,.cells (Za c8)),(9,.cells (Za c9)),(10,.callR [] (oi c3))] [(0,ar 0 l),(1,oi v1),(2,oi p),(3,.val false [.pv (.fn 104)]),(9,oi c),(10,oi e),(11,oi f),(84,ob (!(decide (c3<0))))] [(0,.arr 2 (j.map Za))] [l=(j.map Za).length,(0:Int)≤f,f<((l:Nat):Int),l=(j.map Za).length,(j.map Za)[Int.toNat f]?=some (Za c8),l=(j.map Za).length,(0:Int)≤(w64 (f-1)),(w64 (f-1))<((l:Nat):Int),l=(j.map Za).length,(j.map Za)[Int.toNat (w64 (f-1))]?=some (Za c9),SM μ 104 [tv (Za c8),tv (Za c9)] [] (oi c3) [],([]:List Nat).Nodup] ⟨zt,d6.1,(by have h_:=d6.2;(try simp only [zl,Zi] at h_ ⊢);omega),zt,(Zr (Zs _ g5)),zt,d7.1,(by have h_:=d7.2;(try simp only [zl,Zi] at h_ ⊢);omega),zt,(Zr (Zs _ g6)),(Zat k _ _ _ g7),nd,trivial⟩ ?_
 refine WA.cond (b:=(!(decide (c3<0)))) rfl (fun b7=>?_) (fun b7=>?_)
 {
 have a:=Zk a b7
 refine WA.exit ?_
 exact ⟨j,l,jk,zt,a⟩ }
 {
 have a:=Zj a b7
 refine WA.skip ?_
 obtain ⟨d8,a⟩:=Zn a
 obtain ⟨w,g8,a⟩:=Zh a
 obtain ⟨d9,a⟩:=Zn a
 obtain ⟨a3,g9,a⟩:=Zh a
 obtain ⟨f4,a⟩:=Zn a
 obtain ⟨e8,h0,a⟩:=Zh a
 obtain ⟨f5,a⟩:=Zn a
 obtain ⟨e9,h1,a⟩:=Zh a
 have z0:(w64 (f-1))<((l:Nat):Int):=(by have h_:=d8.2;(try simp only [zl,Zi] at h_ ⊢);omega)
 have z2:f<((l:Nat):Int):=(by have h_:=d9.2;(try simp only [zl,Zi] at h_ ⊢);omega)
 refine Wdm (((((j.map Za).set (Int.toNat f) (Za w)).set (Int.toNat (w64 (f-1))) (Za a3)),((j.map Za).set (Int.toNat f) (Za w))):(List (List PV))×(List (List PV))) ((((j.set (Int.toNat f) w).set (Int.toNat (w64 (f-1))) a3).map Za),((j.set (Int.toNat f) w).map Za)) (fun m_=>([(0,ar 0 l),(1,oi v1),(2,oi p),(3,.val false [.pv (.fn 104)]),(9,oi c),(10,oi e),(11,oi f)],[(0,.arr 2 m_.1)],[l=(j.map Za).length,(0:Int)≤(w64 (f-1)),(w64 (f-1))<((l:Nat):Int),l=(j.map Za).length,(j.map Za)[Int.toNat (w64 (f-1))]?=some (Za w),l=(j.map Za).length,(0:Int)≤f,f<((l:Nat):Int),l=(j.map Za).length,(j.map Za)[Int.toNat f]?=some (Za a3),l=(j.map Za).length,(0:Int)≤f,f<((l:Nat):Int),l=(j.map Za).length,(j.map Za)[Int.toNat f]?=some (Za e8),l=m_.2.length,(0:Int)≤(w64 (f-1)),(w64 (f-1))<((l:Nat):Int),l=m_.2.length,m_.2[Int.toNat (w64 (f-1))]?=some (Za e9)])) (ZJ zm zm) [(9,.cells (Za w)),(13,.cells (Za a3)),(15,.cells (Za e8)),(17,.cells (Za e9))] ⟨zt,d8.1,z0,zt,(Zr (Zs _ g8)),zt,d9.1,z2,zt,(Zr (Zs _ g9)),zt,f4.1,z2,zt,(Zr (Zs _ h0)),zt,f5.1,z0,zt,(Zr (Zs _ h1)),trivial⟩ ?_
 refine Wr [] [(0,ar 0 l),(1,oi v1),(2,oi p),(3,.val false [.pv (.fn 104)]),(9,oi c),(10,oi e),(11,oi (w64 (f-1)))] [(0,.arr 2 (((j.set (Int.toNat f) w).set (Int.toNat (w64 (f-1))) a3).map Za))] ?_
 exact ⟨m21,zl_ _,((j.set (Int.toNat f) w).set (Int.toNat (w64 (f-1))) a3),l,(w64 (f-1)),jk,zt,by rw [a9] at a;exact a⟩ } }
  {
 have a:=Zj a b6
 refine WA.exit ?_
 exact ⟨j,l,jk,zt,a⟩ } }
 {
 have a:=Zj a b5
 refine WA.skip ?_
 exact ⟨((d.set (Int.toNat c) q).set (Int.toNat (w64 (c-1))) v),i,jk,zt,a⟩ } } } } } }
  {
 rcases zo_ (decide (c<p)) with z | z
 {
 have a:=Zk a z
 obtain ⟨d2,a⟩:=Zn a
 obtain ⟨c6,f8,a⟩:=Zh a
 obtain ⟨d3,a⟩:=Zn a
 obtain ⟨c7,f9,a⟩:=Zh a
 obtain ⟨c2,g0,a⟩:=Zh a
 refine Wd [(3,.bool true),(8,.cells (Za c6)),(13,.cells (Za c7)),(14,.callR [] (oi c2))] [(0,ar 0 i),(1,oi v1),(2,oi p),(3,.val false [.pv (.fn 104)]),(9,oi c),(10,oi e),(36,ob (!(decide (c2<0))))] [(0,.arr 2 (d.map Za))] [(decide (c<p))=true,i=(d.map Za).length,(0:Int)≤c,c<((i:Nat):Int),i=(d.map Za).length,(d.map Za)[Int.toNat c]?=some (Za c6),i=(d.map Za).length,(0:Int)≤(w64 (c-1)),(w64 (c-1))<((i:Nat):Int),i=(d.map Za).length,(d.map Za)[Int.toNat (w64 (c-1))]?=some (Za c7),SM μ 104 [tv (Za c6),tv (Za c7)] [] (oi c2) [],([]:List Nat).Nodup] ⟨z,zt,d2.1,(by have h_:=d2.2;(try simp only [zl,Zi] at h_ ⊢);omega),zt,(Zr (Zs _ f8)),zt,d3.1,(by have h_:=d3.2;(try simp only [zl,Zi] at h_ ⊢);omega),zt,(Zr (Zs _ f9)),(Zat k _ _ _ g0),nd,trivial⟩ ?_
 exact ⟨(!(decide (c2<0))),jk,a⟩ }
 {
 have a:=Zj a z
 refine Wd [(3,.bool false),(14,.callR [] (.tup []))] [(0,ar 0 i),(1,oi v1),(2,oi p),(3,.val false [.pv (.fn 104)]),(9,oi c),(10,oi e),(36,ob false)] [(0,.arr 2 (d.map Za))] [(decide (c<p))=false] ⟨z,trivial⟩ ?_
 exact ⟨false,jk,a⟩ } } } }
  {
 have a:=Zj a b1
 refine WA.exit ?_
 refine Ws [] [(8,ob false)] [(0,.arr 2 (d.map Za))] ?_
 refine WA.ret ?_
 obtain rfl:=zj_ a
 exact Zo (ob false) [.arr 2 (d.map Za)] kr kr kr kr nd rfl rfl }
def Zdf (e:(List Zb)→Int→Int→Option (List Zb)) (b:List Zb) (a:Int) (c:Int):Option (List Zb):=
  (cond (decide (a<c)) ((if (0:Int)≤c∧c<(b.length:Int) then (idxL b c).bind fun d=>if (0:Int)≤a∧a<(b.length:Int) then (idxL b a).bind fun f=>if (0:Int)≤a∧a<(b.length:Int) then (idxL b a).bind fun g=>if (0:Int)≤c∧c<((b.set (Int.toNat a) d).length:Int) then (idxL (b.set (Int.toNat a) d) c).bind fun h=>((e ((b.set (Int.toNat a) d).set (Int.toNat c) f) (w64 (a+1)) (w64 (c-1)))) else none else none else none else none)) (some b))
def ZbE:Nat→(List Zb)→Int→Int→Option (List Zb)
  | 0,_,_,_=>none
  | d+1,a,b,c=>Zdf (ZbE d) a b c
def F153 (k:Nat) (v0:List Zb) (v1:Int) (a:Int):Option (List Zb):=
  ((ZbE k v0 v1 (w64 (a-1))))
theorem ZqI (k:Nat) (v0:List Zb) (v1:Int) (p:Int) (r:List Zb) (f:F153 k v0 v1 p=some r) {n0:Nat} (hn_n0:n0=v0.length):SM μ 153 [ar 0 n0,oi v1,oi p,.val false [.pv (.fn 104)]] [.arr 2 (v0.map Za)] (.tup []) [.arr 2 (r.map Za)]:=by
 refine Zz [0] Tryz.func153 rfl kr kr ?_
 show WA _ _ 34 _ _ _
 refine Ws [] [(0,ar 0 n0),(2,oi p),(8,oi v1)] [(0,.arr 2 (v0.map Za))] ?_
 refine Ws [] [(0,ar 0 n0),(8,oi v1),(9,oi (w64 (p-1)))] [(0,.arr 2 (v0.map Za))] ?_
 refine WA.block ?_
 refine WA.loop (fun m s_=>∃(c:List Zb) (e:Nat) (a:Int) (d:Int),J s_ [(0,ar 0 e),(8,oi a),(9,oi d)] [(0,.arr 2 (c.map Za))]∧e=(c:List _).length∧ZbE m c a d=some r) k ⟨v0,n0,v1,(w64 (p-1)),jk,zt,f⟩ ?_
 clear f
 rintro m0 s_ ⟨c,e,a,d,he,a1,f⟩
 refine Wj he ?_
 clear he
 cases m0 with
 | zero=>cases f
 | succ m0=>
  obtain ⟨a0,l⟩:∃g,g=ZbE m0:=⟨_,rfl⟩
  have f:Zdf a0 c a d=some r:=by first | (rw [l];exact f) | exact f
  refine WA.seq ?_
  refine Ws [] [(0,ar 0 e),(8,oi a),(9,oi d),(15,ob (decide (a<d)))] [(0,.arr 2 (c.map Za))] ?_
  refine WA.cond (b:=(decide (a<d))) rfl (fun j=>?_) (fun j=>?_)
  {
 have f:=Zk f j
 refine WA.skip ?_
 refine WA.block ?_
 refine WA.seq ?_
 obtain ⟨n,f⟩:=Zn f
 obtain ⟨h,v,f⟩:=Zh f
 obtain ⟨o,f⟩:=Zn f
 obtain ⟨i,w,f⟩:=Zh f
 obtain ⟨t,f⟩:=Zn f
 obtain ⟨q,x,f⟩:=Zh f
 obtain ⟨u,f⟩:=Zn f
 obtain ⟨s,y,f⟩:=Zh f
 have z0:d<((e:Nat):Int):=(by have h_:=n.2;(try simp only [zl,Zi] at h_ ⊢);omega)
 have z2:a<((e:Nat):Int):=(by have h_:=o.2;(try simp only [zl,Zi] at h_ ⊢);omega)
 refine Wdm (((((c.map Za).set (Int.toNat a) (Za h)).set (Int.toNat d) (Za i)),((c.map Za).set (Int.toNat a) (Za h))):(List (List PV))×(List (List PV))) ((((c.set (Int.toNat a) h).set (Int.toNat d) i).map Za),((c.set (Int.toNat a) h).map Za)) (fun z=>([(0,ar 0 e),(8,oi a),(9,oi d)],[(0,.arr 2 z.1)],[e=(c.map Za).length,(0:Int)≤d,d<((e:Nat):Int),e=(c.map Za).length,(c.map Za)[Int.toNat d]?=some (Za h),e=(c.map Za).length,(0:Int)≤a,a<((e:Nat):Int),e=(c.map Za).length,(c.map Za)[Int.toNat a]?=some (Za i),e=(c.map Za).length,(0:Int)≤a,a<((e:Nat):Int),e=(c.map Za).length,(c.map Za)[Int.toNat a]?=some (Za q),e=z.2.length,(0:Int)≤d,d<((e:Nat):Int),e=z.2.length,z.2[Int.toNat d]?=some (Za s)])) (ZJ zm zm) [(7,.cells (Za h)),(11,.cells (Za i)),(13,.cells (Za q)),(15,.cells (Za s))] ⟨zt,n.1,z0,zt,(Zr (Zs _ v)),zt,o.1,z2,zt,(Zr (Zs _ w)),zt,t.1,z2,zt,(Zr (Zs _ x)),zt,u.1,z0,zt,(Zr (Zs _ y)),trivial⟩ ?_
 refine Ws [] [(0,ar 0 e),(8,oi (w64 (a+1))),(9,oi d)] [(0,.arr 2 (((c.set (Int.toNat a) h).set (Int.toNat d) i).map Za))] ?_
 refine Wr [] [(0,ar 0 e),(8,oi (w64 (a+1))),(9,oi (w64 (d-1)))] [(0,.arr 2 (((c.set (Int.toNat a) h).set (Int.toNat d) i).map Za))] ?_
 exact ⟨m0,zl_ _,((c.set (Int.toNat a) h).set (Int.toNat d) i),e,(w64 (a+1)),(w64 (d-1)),jk,zt,by rw [l] at f;exact f⟩ }
  {
 have f:=Zj f j
 refine WA.exit ?_
 obtain rfl:=zj_ f
 exact Zcy (.tup []) [.arr 2 (c.map Za)] kr kr kr kr nd rfl rfl }
def Zeu (a:List Zb) (c:Int) (b:Int):Option (Int×Int×(List Zb)):=
  ((cond (c == 0) ((some (b,1,a))) ((cond (c == 12) ((some (b,2,a))) ((some (b,0,a)))))))
def Zet (k:Nat) (b:List Zb) (c:Int) (d:Int) (e:Int) (f:Int):Option (Int×Int×(List Zb)):=
  (F178 k b d e f c).bind fun a=>if a.2.1.length=b.length then (Zeu a.2.1 a.2.2 a.1) else none
def F152 (k:Nat) (v0:List Zb) (v1:Int) (c:Int):Option (Int×Int×(List Zb)):=
  (((if (4:Int)≠0 then (if (4:Int)≠0 then (if (4:Int)≠0 then ((cond (decide ((w64 (c-v1))≥8)) ((cond (decide ((w64 (c-v1))≥50)) ((F177 k v0 (w64 (v1+(w64 ((w64 (Int.tdiv (w64 (c-v1)) 4))*1)))) 0).bind fun a=>if a.2.1.length=v0.length then (F177 k a.2.1 (w64 (v1+(w64 ((w64 (Int.tdiv (w64 (c-v1)) 4))*2)))) a.2.2).bind fun b=>if b.2.1.length=a.2.1.length then (F177 k b.2.1 (w64 (v1+(w64 ((w64 (Int.tdiv (w64 (c-v1)) 4))*3)))) b.2.2).bind fun d=>if d.2.1.length=b.2.1.length then (Zet k d.2.1 d.2.2 a.1 b.1 d.1) else none else none else none) ((Zet k v0 0 (w64 (v1+(w64 ((w64 (Int.tdiv (w64 (c-v1)) 4))*1)))) (w64 (v1+(w64 ((w64 (Int.tdiv (w64 (c-v1)) 4))*2)))) (w64 (v1+(w64 ((w64 (Int.tdiv (w64 (c-v1)) 4))*3)))))))) ((Zeu v0 0 (w64 (v1+(w64 ((w64 (Int.tdiv (w64 (c-v1)) 4))*2)))))))) else none) else none) else none)))
theorem ZqH (k:Nat) (v0:List Zb) (v1:Int) (c:Int) (r:Int×Int×(List Zb)) (a:F152 k v0 v1 c=some r) {n0:Nat} (hn_n0:n0=v0.length):SM μ 152 [ar 0 n0,oi v1,oi c,.val false [.pv (.fn 104)]] [.arr 2 (v0.map Za)] (.tup [(false,[.pv (.int .i64 r.1)]),(false,[.pv (.int .i64 r.2.1)])]) [.arr 2 (r.2.2.map Za)]:=by
 refine Zz [0] Tryz.func152 rfl kr kr ?_
 show WA _ _ 63 _ _ _
 refine Ws [] [(0,ar 0 n0),(1,oi v1),(2,oi c),(3,.val false [.pv (.fn 104)])] [(0,.arr 2 (v0.map Za))] ?_
 refine Ws [] [(0,ar 0 n0),(1,oi v1),(3,.val false [.pv (.fn 104)]),(10,oi (w64 (c-v1)))] [(0,.arr 2 (v0.map Za))] ?_
 refine Ws [(0,.obj 111)] [(0,ar 0 n0),(1,oi v1),(3,.val false [.pv (.fn 104)]),(10,oi (w64 (c-v1))),(11,pt 111)] [(0,.arr 2 (v0.map Za)),(111,bx [.int .i64 0])] ?_
 obtain ⟨y,a⟩:=Zn a
 refine Wos [] [(0,ar 0 n0),(1,oi v1),(3,.val false [.pv (.fn 104)]),(10,oi (w64 (c-v1))),(11,pt 111),(12,oi (w64 (v1+(w64 ((w64 (Int.tdiv (w64 (c-v1)) 4))*1)))))] [(0,.arr 2 (v0.map Za)),(111,bx [.int .i64 0])] [(4:Int)≠0] ⟨y,trivial⟩ ?_
 obtain ⟨z,a⟩:=Zn a
 refine Wos [] [(0,ar 0 n0),(1,oi v1),(3,.val false [.pv (.fn 104)]),(10,oi (w64 (c-v1))),(11,pt 111),(12,oi (w64 (v1+(w64 ((w64 (Int.tdiv (w64 (c-v1)) 4))*1))))),(13,oi (w64 (v1+(w64 ((w64 (Int.tdiv (w64 (c-v1)) 4))*2)))))] [(0,.arr 2 (v0.map Za)),(111,bx [.int .i64 0])] [(4:Int)≠0] ⟨z,trivial⟩ ?_
 obtain ⟨a0,a⟩:=Zn a
 refine Wos [] [(0,ar 0 n0),(3,.val false [.pv (.fn 104)]),(10,oi (w64 (c-v1))),(11,pt 111),(12,oi (w64 (v1+(w64 ((w64 (Int.tdiv (w64 (c-v1)) 4))*1))))),(13,oi (w64 (v1+(w64 ((w64 (Int.tdiv (w64 (c-v1)) 4))*2))))),(14,oi (w64 (v1+(w64 ((w64 (Int.tdiv (w64 (c-v1)) 4))*3)))))] [(0,.arr 2 (v0.map Za)),(111,bx [.int .i64 0])] [(4:Int)≠0] ⟨a0,trivial⟩ ?_
 refine WA.join (fun x=>∃(f:List Zb) (j:Int) (g:Int),J x [(11,pt 111),(13,oi g)] [(0,.arr 2 (f.map Za)),(111,bx [.int .i64 j])]∧Zeu f j g=some r) ?_ ?_
 {
 rintro x ⟨f,j,g,w,a⟩
 refine Wj w ?_
 clear w
 refine Ws [] [(13,oi g),(55,oi j)] [(0,.arr 2 (f.map Za))] ?_
 refine WA.block ?_
 refine Ws [] [(13,oi g),(55,oi j),(57,ob (j == 0))] [(0,.arr 2 (f.map Za))] ?_
 refine WA.cond (b:=(j == 0)) rfl (fun p=>?_) (fun p=>?_)
 {
 have a:=Zk a p
 refine Ws [] [(8,oi g),(9,oi 1)] [(0,.arr 2 (f.map Za))] ?_
 refine WA.ret ?_
 obtain rfl:=zj_ a
 exact Zo (.tup [(false,[.pv (.int .i64 g)]),(false,[.pv (.int .i64 1)])]) [.arr 2 (f.map Za)] kr kr kr kr nd rfl rfl }
 {
 have a:=Zj a p
 refine Ws [] [(13,oi g),(60,ob (j == 12))] [(0,.arr 2 (f.map Za))] ?_
 refine WA.cond (b:=(j == 12)) rfl (fun q=>?_) (fun q=>?_)
 {
 have a:=Zk a q
 refine Ws [] [(8,oi g),(9,oi 2)] [(0,.arr 2 (f.map Za))] ?_
 refine WA.ret ?_
 obtain rfl:=zj_ a
 exact Zo (.tup [(false,[.pv (.int .i64 g)]),(false,[.pv (.int .i64 2)])]) [.arr 2 (f.map Za)] kr kr kr kr nd rfl rfl }
 {
 have a:=Zj a q
 refine Ws [] [(8,oi g),(9,oi 0)] [(0,.arr 2 (f.map Za))] ?_
 refine WA.ret ?_
 obtain rfl:=zj_ a
 exact Zo (.tup [(false,[.pv (.int .i64 g)]),(false,[.pv (.int .i64 0)])]) [.arr 2 (f.map Za)] kr kr kr kr nd rfl rfl } } }
 {
 refine Ws [] [(0,ar 0 n0),(3,.val false [.pv (.fn 104)]),(10,oi (w64 (c-v1))),(11,pt 111),(12,oi (w64 (v1+(w64 ((w64 (Int.tdiv (w64 (c-v1)) 4))*1))))),(13,oi (w64 (v1+(w64 ((w64 (Int.tdiv (w64 (c-v1)) 4))*2))))),(14,oi (w64 (v1+(w64 ((w64 (Int.tdiv (w64 (c-v1)) 4))*3))))),(34,ob (decide ((w64 (c-v1))≥8)))] [(0,.arr 2 (v0.map Za)),(111,bx [.int .i64 0])] ?_
 refine WA.cond (b:=(decide ((w64 (c-v1))≥8))) rfl (fun n=>?_) (fun n=>?_)
 {
 have a:=Zk a n
 refine WA.join (fun x=>∃(l:List Zb) (s:Int) (m:Nat) (t:Int) (u:Int) (v:Int),J x [(0,ar 0 m),(3,.val false [.pv (.fn 104)]),(11,pt 111),(12,oi t),(13,oi u),(14,oi v)] [(0,.arr 2 (l.map Za)),(111,bx [.int .i64 s])]∧m=(l:List _).length∧Zet k l s t u v=some r) ?_ ?_
 {
 rintro x ⟨l,s,m,t,u,v,w,a5,a⟩
 refine Wj w ?_
 clear w
 obtain ⟨i,a4,a⟩:=Zh a
 obtain ⟨a9,a⟩:=Zn a
 refine Wo [(5,.call [0,111] (oi i.1) [.arr 2 (i.2.1.map Za),bx [.int .i64 i.2.2]] [])] [(11,pt 111),(13,oi i.1)] [(0,.arr 2 (i.2.1.map Za)),(111,bx [.int .i64 i.2.2])] [SM μ 178 [ar 0 m,oi t,oi u,oi v,pt 1,.val false [.pv (.fn 104)]] [.arr 2 (l.map Za),bx [.int .i64 s]] (oi i.1) [.arr 2 (i.2.1.map Za),bx [.int .i64 i.2.2]],([0,111]:List Nat).Nodup] ⟨(Zm1 k _ _ _ _ _ _ a4 (n0:=m) zt),nd,trivial⟩ ?_
 exact ⟨i.2.1,i.2.2,i.1,jk,a⟩ }
 {
 refine Ws [] [(0,ar 0 n0),(3,.val false [.pv (.fn 104)]),(11,pt 111),(12,oi (w64 (v1+(w64 ((w64 (Int.tdiv (w64 (c-v1)) 4))*1))))),(13,oi (w64 (v1+(w64 ((w64 (Int.tdiv (w64 (c-v1)) 4))*2))))),(14,oi (w64 (v1+(w64 ((w64 (Int.tdiv (w64 (c-v1)) 4))*3))))),(36,ob (decide ((w64 (c-v1))≥50)))] [(0,.arr 2 (v0.map Za)),(111,bx [.int .i64 0])] ?_
 refine WA.cond (b:=(decide ((w64 (c-v1))≥50))) rfl (fun o=>?_) (fun o=>?_)
 {
 have a:=Zk a o
 obtain ⟨d,a1,a⟩:=Zh a
 obtain ⟨a6,a⟩:=Zn a
 refine Wos [(3,.call [0,111] (oi d.1) [.arr 2 (d.2.1.map Za),bx [.int .i64 d.2.2]] [])] [(0,ar 0 n0),(3,.val false [.pv (.fn 104)]),(11,pt 111),(12,oi d.1),(13,oi (w64 (v1+(w64 ((w64 (Int.tdiv (w64 (c-v1)) 4))*2))))),(14,oi (w64 (v1+(w64 ((w64 (Int.tdiv (w64 (c-v1)) 4))*3)))))] [(0,.arr 2 (d.2.1.map Za)),(111,bx [.int .i64 d.2.2])] [SM μ 177 [ar 0 n0,oi (w64 (v1+(w64 ((w64 (Int.tdiv (w64 (c-v1)) 4))*1)))),pt 1,.val false [.pv (.fn 104)]] [.arr 2 (v0.map Za),bx [.int .i64 0]] (oi d.1) [.arr 2 (d.2.1.map Za),bx [.int .i64 d.2.2]],([0,111]:List Nat).Nodup] ⟨(ZjX k _ _ _ _ a1 (n0:=n0) zt),nd,trivial⟩ ?_
 obtain ⟨e,a2,a⟩:=Zh a
 obtain ⟨a7,a⟩:=Zn a
 refine Wos [(3,.call [0,111] (oi e.1) [.arr 2 (e.2.1.map Za),bx [.int .i64 e.2.2]] [])] [(0,ar 0 n0),(3,.val false [.pv (.fn 104)]),(11,pt 111),(12,oi d.1),(13,oi e.1),(14,oi (w64 (v1+(w64 ((w64 (Int.tdiv (w64 (c-v1)) 4))*3)))))] [(0,.arr 2 (e.2.1.map Za)),(111,bx [.int .i64 e.2.2])] [SM μ 177 [ar 0 n0,oi (w64 (v1+(w64 ((w64 (Int.tdiv (w64 (c-v1)) 4))*2)))),pt 1,.val false [.pv (.fn 104)]] [.arr 2 (d.2.1.map Za),bx [.int .i64 d.2.2]] (oi e.1) [.arr 2 (e.2.1.map Za),bx [.int .i64 e.2.2]],([0,111]:List Nat).Nodup] ⟨(ZjX k _ _ _ _ a2 (n0:=n0) zt),nd,trivial⟩ ?_
 obtain ⟨h,a3,a⟩:=Zh a
 obtain ⟨a8,a⟩:=Zn a
 refine Wo [(3,.call [0,111] (oi h.1) [.arr 2 (h.2.1.map Za),bx [.int .i64 h.2.2]] [])] [(0,ar 0 n0),(3,.val false [.pv (.fn 104)]),(11,pt 111),(12,oi d.1),(13,oi e.1),(14,oi h.1)] [(0,.arr 2 (h.2.1.map Za)),(111,bx [.int .i64 h.2.2])] [SM μ 177 [ar 0 n0,oi (w64 (v1+(w64 ((w64 (Int.tdiv (w64 (c-v1)) 4))*3)))),pt 1,.val false [.pv (.fn 104)]] [.arr 2 (e.2.1.map Za),bx [.int .i64 e.2.2]] (oi h.1) [.arr 2 (h.2.1.map Za),bx [.int .i64 h.2.2]],([0,111]:List Nat).Nodup] ⟨(ZjX k _ _ _ _ a3 (n0:=n0) zt),nd,trivial⟩ ?_
 exact ⟨h.2.1,h.2.2,n0,d.1,e.1,h.1,jk,zt,a⟩ }
 {
 have a:=Zj a o
 refine WA.skip ?_
 exact ⟨v0,0,n0,(w64 (v1+(w64 ((w64 (Int.tdiv (w64 (c-v1)) 4))*1)))),(w64 (v1+(w64 ((w64 (Int.tdiv (w64 (c-v1)) 4))*2)))),(w64 (v1+(w64 ((w64 (Int.tdiv (w64 (c-v1)) 4))*3)))),jk,zt,a⟩ } } }
 {
 have a:=Zj a n
 refine WA.skip ?_
 exact ⟨v0,0,(w64 (v1+(w64 ((w64 (Int.tdiv (w64 (c-v1)) 4))*2)))),jk,a⟩ } }
def Zes (e:(List Zb)→Int→Int→Option (List Zb)) (v1:Int) (b:List Zb) (a:Int) (f:Int×Int) (c:Int):Option (List Zb):=
  if (0:Int)≤(w64 (v1+c))∧(w64 (v1+c))<(b.length:Int) then (idxL b (w64 (v1+c))).bind fun d=>if (0:Int)≤a∧a<(b.length:Int) then (idxL b a).bind fun g=>if (0:Int)≤a∧a<(b.length:Int) then (idxL b a).bind fun h=>if (0:Int)≤(w64 (v1+c))∧(w64 (v1+c))<((b.set (Int.toNat a) d).length:Int) then (idxL (b.set (Int.toNat a) d) (w64 (v1+c))).bind fun i=>(e ((b.set (Int.toNat a) d).set (Int.toNat (w64 (v1+c))) g) f.2 (w64 (a+1))) else none else none else none else none
def Zg6 (k:Nat) (e:(List Zb)→Int→Int→Option (List Zb)) (v1:Int) (g:Int) (d:Int) (b:List Zb) (f:Int) (c:Int):Option (List Zb):=
  if (4:Int)≠0 then (cond (decide (c≤(w64 ((w64 (v1+(w64 ((w64 (Int.tdiv (w64 (g-v1)) 4))*2))))+1)))) ((F161 k f).bind fun a=>((cond (decide ((w64 (ZB .and .u64 a.1 (IntKind.wrap .u64 (d-1))))≥(w64 (g-v1)))) ((Zes e v1 b c a (w64 ((w64 (ZB .and .u64 a.1 (IntKind.wrap .u64 (d-1))))-(w64 (g-v1)))))) ((Zes e v1 b c a (w64 (ZB .and .u64 a.1 (IntKind.wrap .u64 (d-1))))))))) (some b)) else none
def ZbD (k:Nat) (v1:Int) (e:Int) (a:Int):Nat→(List Zb)→Int→Int→Option (List Zb)
  | 0,_,_,_=>none
  | f+1,b,c,d=>Zg6 k (ZbD k v1 e a f) v1 e a b c d
def F151 (k:Nat) (v0:List Zb) (v1:Int) (a:Int):Option (List Zb):=
  ((cond (decide ((w64 (a-v1))≥8)) ((F160 k (w64 (a-v1))).bind fun b=>(if (4:Int)≠0 then (ZbD k v1 a b k v0 (IntKind.wrap .u64 (w64 (a-v1))) (w64 ((w64 (v1+(w64 ((w64 (Int.tdiv (w64 (a-v1)) 4))*2))))-1))) else none)) (some v0)))
theorem ZqG (k:Nat) (v0:List Zb) (v1:Int) (i:Int) (r:List Zb) (e:F151 k v0 v1 i=some r) {n0:Nat} (hn_n0:n0=v0.length):SM μ 151 [ar 0 n0,oi v1,oi i,.val false [.pv (.fn 104)]] [.arr 2 (v0.map Za)] (.tup []) [.arr 2 (r.map Za)]:=by
 refine Zz [0] Tryz.func151 rfl kr kr ?_
 show WA _ _ 67 _ _ _
 refine Ws [] [(0,ar 0 n0),(1,oi v1),(8,oi (w64 (i-v1)))] [(0,.arr 2 (v0.map Za))] ?_
 refine Ws [] [(0,ar 0 n0),(1,oi v1),(8,oi (w64 (i-v1))),(17,ob (decide ((w64 (i-v1))≥8)))] [(0,.arr 2 (v0.map Za))] ?_
 refine WA.cond (b:=(decide ((w64 (i-v1))≥8))) rfl (fun p=>?_) (fun p=>?_)
 {
 have e:=Zk e p
 refine Ws [(2,.obj 109)] [(0,ar 0 n0),(1,oi v1),(8,oi (w64 (i-v1))),(9,pt 109)] [(0,.arr 2 (v0.map Za)),(109,bx [.int .u64 (IntKind.wrap .u64 (w64 (i-v1)))])] ?_
 obtain ⟨f,a5,e⟩:=Zh e
 refine Wos [(1,.callR [] (one (.int .u64 f)))] [(0,ar 0 n0),(1,oi v1),(8,oi (w64 (i-v1))),(9,pt 109),(10,one (.int .u64 f))] [(0,.arr 2 (v0.map Za)),(109,bx [.int .u64 (IntKind.wrap .u64 (w64 (i-v1)))])] [SM μ 160 [oi (w64 (i-v1))] [] (one (.int .u64 f)) [],([]:List Nat).Nodup] ⟨(ZqM k _ _ a5),nd,trivial⟩ ?_
 obtain ⟨a1,e⟩:=Zn e
 refine Wos [] [(0,ar 0 n0),(1,oi v1),(8,oi (w64 (i-v1))),(9,pt 109),(10,one (.int .u64 f)),(11,oi (w64 ((w64 (v1+(w64 ((w64 (Int.tdiv (w64 (i-v1)) 4))*2))))-1)))] [(0,.arr 2 (v0.map Za)),(109,bx [.int .u64 (IntKind.wrap .u64 (w64 (i-v1)))])] [(4:Int)≠0] ⟨a1,trivial⟩ ?_
 refine WA.block ?_
 refine WA.loop (fun m y=>∃(c:List Zb) (n:Int) (d:Nat) (a:Int),J y [(0,ar 0 d),(1,oi v1),(8,oi (w64 (i-v1))),(9,pt 109),(10,one (.int .u64 f)),(11,oi a)] [(0,.arr 2 (c.map Za)),(109,bx [.int .u64 n])]∧d=(c:List _).length∧ZbD k v1 i f m c n a=some r) k ⟨v0,(IntKind.wrap .u64 (w64 (i-v1))),n0,(w64 ((w64 (v1+(w64 ((w64 (Int.tdiv (w64 (i-v1)) 4))*2))))-1)),jk,zt,e⟩ ?_
 clear e
 rintro m2 y ⟨c,n,d,a,x,b2,e⟩
 refine Wj x ?_
 clear x
 cases m2 with
 | zero=>cases e
 | succ m2=>
  obtain ⟨w,t⟩:∃g,g=ZbD k v1 i f m2:=⟨_,rfl⟩
  have e:Zg6 k w v1 i f c n a=some r:=by first | (rw [t];exact e) | exact e
  refine WA.seq ?_
  obtain ⟨a2,e⟩:=Zn e
  refine Wos [] [(0,ar 0 d),(1,oi v1),(8,oi (w64 (i-v1))),(9,pt 109),(10,one (.int .u64 f)),(11,oi a),(35,ob (decide (a≤(w64 ((w64 (v1+(w64 ((w64 (Int.tdiv (w64 (i-v1)) 4))*2))))+1)))))] [(0,.arr 2 (c.map Za)),(109,bx [.int .u64 n])] [(4:Int)≠0] ⟨a2,trivial⟩ ?_
  refine WA.cond (b:=(decide (a≤(w64 ((w64 (v1+(w64 ((w64 (Int.tdiv (w64 (i-v1)) 4))*2))))+1))))) rfl (fun q=>?_) (fun q=>?_)
  {
 have e:=Zk e q
 refine WA.skip ?_
 refine WA.seq ?_
 refine WA.block ?_
 obtain ⟨h,a6,e⟩:=Zh e
 refine Wos [(0,.call [109] (one (.int .u64 h.1)) [bx [.int .u64 h.2]] [])] [(0,ar 0 d),(1,oi v1),(8,oi (w64 (i-v1))),(9,pt 109),(10,one (.int .u64 f)),(11,oi a),(12,oi (w64 (ZB .and .u64 h.1 (IntKind.wrap .u64 (f-1)))))] [(0,.arr 2 (c.map Za)),(109,bx [.int .u64 h.2])] [SM μ 161 [pt 0] [bx [.int .u64 n]] (one (.int .u64 h.1)) [bx [.int .u64 h.2]],([109]:List Nat).Nodup] ⟨(ZqN k _ _ a6),nd,trivial⟩ ?_
 refine WA.join (fun y=>∃(j:Int),J y [(0,ar 0 d),(1,oi v1),(8,oi (w64 (i-v1))),(9,pt 109),(10,one (.int .u64 f)),(11,oi a),(12,oi j)] [(0,.arr 2 (c.map Za)),(109,bx [.int .u64 h.2])]∧Zes w v1 c a h j=some r) ?_ ?_
 {
 rintro y ⟨j,x,e⟩
 refine Wj x ?_
 clear x
 obtain ⟨u,e⟩:=Zn e
 obtain ⟨l,a7,e⟩:=Zh e
 obtain ⟨v,e⟩:=Zn e
 obtain ⟨o,a8,e⟩:=Zh e
 obtain ⟨a3,e⟩:=Zn e
 obtain ⟨z,a9,e⟩:=Zh e
 obtain ⟨a4,e⟩:=Zn e
 obtain ⟨a0,b0,e⟩:=Zh e
 have z0:(w64 (v1+j))<((d:Nat):Int):=(by have h_:=u.2;(try simp only [zl,Zi] at h_ ⊢);omega)
 have z2:a<((d:Nat):Int):=(by have h_:=v.2;(try simp only [zl,Zi] at h_ ⊢);omega)
 refine Wdm (((((c.map Za).set (Int.toNat a) (Za l)).set (Int.toNat (w64 (v1+j))) (Za o)),((c.map Za).set (Int.toNat a) (Za l))):(List (List PV))×(List (List PV))) ((((c.set (Int.toNat a) l).set (Int.toNat (w64 (v1+j))) o).map Za),((c.set (Int.toNat a) l).map Za)) (fun m_=>([(0,ar 0 d),(1,oi v1),(8,oi (w64 (i-v1))),(9,pt 109),(10,one (.int .u64 f)),(11,oi a)],[(0,.arr 2 m_.1),(109,bx [.int .u64 h.2])],[d=(c.map Za).length,(0:Int)≤(w64 (v1+j)),(w64 (v1+j))<((d:Nat):Int),d=(c.map Za).length,(c.map Za)[Int.toNat (w64 (v1+j))]?=some (Za l),d=(c.map Za).length,(0:Int)≤a,a<((d:Nat):Int),d=(c.map Za).length,(c.map Za)[Int.toNat a]?=some (Za o),d=(c.map Za).length,(0:Int)≤a,a<((d:Nat):Int),d=(c.map Za).length,(c.map Za)[Int.toNat a]?=some (Za z),d=m_.2.length,(0:Int)≤(w64 (v1+j)),(w64 (v1+j))<((d:Nat):Int),d=m_.2.length,m_.2[Int.toNat (w64 (v1+j))]?=some (Za a0)])) (ZJ zm zm) [(11,.cells (Za l)),(15,.cells (Za o)),(17,.cells (Za z)),(19,.cells (Za a0))] ⟨zt,u.1,z0,zt,(Zr (Zs _ a7)),zt,v.1,z2,zt,(Zr (Zs _ a8)),zt,a3.1,z2,zt,(Zr (Zs _ a9)),zt,a4.1,z0,zt,(Zr (Zs _ b0)),trivial⟩ ?_
 refine Wr [] [(0,ar 0 d),(1,oi v1),(8,oi (w64 (i-v1))),(9,pt 109),(10,one (.int .u64 f)),(11,oi (w64 (a+1)))] [(0,.arr 2 (((c.set (Int.toNat a) l).set (Int.toNat (w64 (v1+j))) o).map Za)),(109,bx [.int .u64 h.2])] ?_
 exact ⟨m2,zl_ _,((c.set (Int.toNat a) l).set (Int.toNat (w64 (v1+j))) o),h.2,d,(w64 (a+1)),jk,zt,by rw [t] at e;exact e⟩ }
 {
 refine Ws [] [(0,ar 0 d),(1,oi v1),(8,oi (w64 (i-v1))),(9,pt 109),(10,one (.int .u64 f)),(11,oi a),(12,oi (w64 (ZB .and .u64 h.1 (IntKind.wrap .u64 (f-1))))),(45,ob (decide ((w64 (ZB .and .u64 h.1 (IntKind.wrap .u64 (f-1))))≥(w64 (i-v1)))))] [(0,.arr 2 (c.map Za)),(109,bx [.int .u64 h.2])] ?_
 refine WA.cond (b:=(decide ((w64 (ZB .and .u64 h.1 (IntKind.wrap .u64 (f-1))))≥(w64 (i-v1))))) rfl (fun s=>?_) (fun s=>?_)
 {
 have e:=Zk e s
 refine Wr [] [(0,ar 0 d),(1,oi v1),(8,oi (w64 (i-v1))),(9,pt 109),(10,one (.int .u64 f)),(11,oi a),(12,oi (w64 ((w64 (ZB .and .u64 h.1 (IntKind.wrap .u64 (f-1))))-(w64 (i-v1)))))] [(0,.arr 2 (c.map Za)),(109,bx [.int .u64 h.2])] ?_
 exact ⟨(w64 ((w64 (ZB .and .u64 h.1 (IntKind.wrap .u64 (f-1))))-(w64 (i-v1)))),jk,e⟩ }
 {
 have e:=Zj e s
 refine WA.skip ?_
 exact ⟨(w64 (ZB .and .u64 h.1 (IntKind.wrap .u64 (f-1)))),jk,e⟩ } } }
  {
 have e:=Zj e q
 refine WA.exit ?_
 obtain rfl:=zj_ e
 exact Zcy (.tup []) [.arr 2 (c.map Za)] kr kr kr kr nd rfl rfl } }
 {
 have e:=Zj e p
 refine WA.skip ?_
 obtain rfl:=zj_ e
 exact Zcy (.tup []) [.arr 2 (v0.map Za)] kr kr kr kr nd rfl rfl }
def Zde (k:Nat) (f:(List Zb)→Int→Option (List Zb)) (v1:Int) (a:List Zb) (b:Int):Option (List Zb):=
  (cond (decide (b≥0)) ((if (0:Int)≤(w64 (v1+b))∧(w64 (v1+b))<(a.length:Int) then (idxL a (w64 (v1+b))).bind fun c=>if (0:Int)≤v1∧v1<(a.length:Int) then (idxL a v1).bind fun d=>if (0:Int)≤v1∧v1<(a.length:Int) then (idxL a v1).bind fun g=>if (0:Int)≤(w64 (v1+b))∧(w64 (v1+b))<((a.set (Int.toNat v1) c).length:Int) then (idxL (a.set (Int.toNat v1) c) (w64 (v1+b))).bind fun h=>(F176 k ((a.set (Int.toNat v1) c).set (Int.toNat (w64 (v1+b))) d) 0 b v1).bind fun e=>if e.length=((a.set (Int.toNat v1) c).set (Int.toNat (w64 (v1+b))) d).length then (f e (w64 (b-1))) else none else none else none else none else none)) (some a))
def ZaN (k:Nat) (v1:Int):Nat→(List Zb)→Int→Option (List Zb)
  | 0,_,_=>none
  | c+1,a,b=>Zde k (ZaN k v1 c) v1 a b
def Zdd (k:Nat) (d:(List Zb)→Int→Option (List Zb)) (v1:Int) (e:Int) (a:List Zb) (b:Int):Option (List Zb):=
  (cond (decide (b≥0)) ((F176 k a b (w64 (e-v1)) v1).bind fun c=>if c.length=a.length then (d c (w64 (b-1))) else none) (((ZaN k v1 k a (w64 ((w64 (e-v1))-1))))))
def ZbC (k:Nat) (v1:Int) (c:Int):Nat→(List Zb)→Int→Option (List Zb)
  | 0,_,_=>none
  | d+1,a,b=>Zdd k (ZbC k v1 c d) v1 c a b
def F150 (k:Nat) (v0:List Zb) (v1:Int) (a:Int):Option (List Zb):=
  (((if (2:Int)≠0 then (ZbC k v1 a k v0 (w64 (Int.tdiv (w64 ((w64 (a-v1))-1)) 2))) else none)))
theorem ZqF (k:Nat) (v0:List Zb) (v1:Int) (j:Int) (r:List Zb) (a:F150 k v0 v1 j=some r) {n0:Nat} (hn_n0:n0=v0.length):SM μ 150 [ar 0 n0,oi v1,oi j,.val false [.pv (.fn 104)]] [.arr 2 (v0.map Za)] (.tup []) [.arr 2 (r.map Za)]:=by
 refine Zz [0] Tryz.func150 rfl kr kr ?_
 show WA _ _ 60 _ _ _
 refine Ws [] [(0,ar 0 n0),(1,oi v1),(2,oi j),(3,.val false [.pv (.fn 104)]),(8,oi v1)] [(0,.arr 2 (v0.map Za))] ?_
 refine Ws [] [(0,ar 0 n0),(1,oi v1),(2,oi j),(3,.val false [.pv (.fn 104)]),(8,oi v1),(9,oi 0)] [(0,.arr 2 (v0.map Za))] ?_
 refine Ws [] [(0,ar 0 n0),(3,.val false [.pv (.fn 104)]),(8,oi v1),(9,oi 0),(10,oi (w64 (j-v1)))] [(0,.arr 2 (v0.map Za))] ?_
 refine WA.seq ?_
 obtain ⟨a1,a⟩:=Zn a
 refine Wos [] [(0,ar 0 n0),(3,.val false [.pv (.fn 104)]),(8,oi v1),(9,oi 0),(10,oi (w64 (j-v1))),(11,oi (w64 (Int.tdiv (w64 ((w64 (j-v1))-1)) 2)))] [(0,.arr 2 (v0.map Za))] [(2:Int)≠0] ⟨a1,trivial⟩ ?_
 refine WA.block ?_
 refine WA.loop (fun m y=>∃(i:List Zb) (f:Nat) (h:Int),J y [(0,ar 0 f),(3,.val false [.pv (.fn 104)]),(8,oi v1),(9,oi 0),(10,oi (w64 (j-v1))),(11,oi h)] [(0,.arr 2 (i.map Za))]∧f=(i:List _).length∧ZbC k v1 j m i h=some r) k ⟨v0,n0,(w64 (Int.tdiv (w64 ((w64 (j-v1))-1)) 2)),jk,zt,a⟩ ?_
 clear a
 rintro m0 y ⟨i,f,h,x,b3,a⟩
 refine Wj x ?_
 clear x
 cases m0 with
 | zero=>cases a
 | succ m0=>
  obtain ⟨b1,t⟩:∃g,g=ZbC k v1 j m0:=⟨_,rfl⟩
  have a:Zdd k b1 v1 j i h=some r:=by first | (rw [t];exact a) | exact a
  refine WA.seq ?_
  refine Ws [] [(0,ar 0 f),(3,.val false [.pv (.fn 104)]),(8,oi v1),(9,oi 0),(10,oi (w64 (j-v1))),(11,oi h),(21,ob (decide (h≥0)))] [(0,.arr 2 (i.map Za))] ?_
  refine WA.cond (b:=(decide (h≥0))) rfl (fun q=>?_) (fun q=>?_)
  {
 have a:=Zk a q
 refine WA.skip ?_
 refine WA.seq ?_
 refine WA.block ?_
 obtain ⟨n,a4,a⟩:=Zh a
 obtain ⟨b5,a⟩:=Zn a
 refine Wo [(5,.call [0] (.tup []) [.arr 2 (n.map Za)] [])] [(0,ar 0 f),(3,.val false [.pv (.fn 104)]),(8,oi v1),(9,oi 0),(10,oi (w64 (j-v1))),(11,oi h)] [(0,.arr 2 (n.map Za))] [SM μ 176 [ar 0 f,oi h,oi (w64 (j-v1)),oi v1,.val false [.pv (.fn 104)]] [.arr 2 (i.map Za)] (.tup []) [.arr 2 (n.map Za)],([0]:List Nat).Nodup] ⟨(Zm0 k _ _ _ _ _ a4 (n0:=f) zt),nd,trivial⟩ ?_
 refine Wr [] [(0,ar 0 f),(3,.val false [.pv (.fn 104)]),(8,oi v1),(9,oi 0),(10,oi (w64 (j-v1))),(11,oi (w64 (h-1)))] [(0,.arr 2 (n.map Za))] ?_
 exact ⟨m0,zl_ _,n,f,(w64 (h-1)),jk,zt,by rw [t] at a;exact a⟩ }
  {
 have a:=Zj a q
 refine WA.exit ?_
 refine Ws [] [(0,ar 0 f),(3,.val false [.pv (.fn 104)]),(8,oi v1),(9,oi 0),(12,oi (w64 ((w64 (j-v1))-1)))] [(0,.arr 2 (i.map Za))] ?_
 refine WA.block ?_
 refine WA.loop (fun m y=>∃(e:List Zb) (c:Nat) (d:Int),J y [(0,ar 0 c),(3,.val false [.pv (.fn 104)]),(8,oi v1),(9,oi 0),(12,oi d)] [(0,.arr 2 (e.map Za))]∧c=(e:List _).length∧ZaN k v1 m e d=some r) k ⟨i,f,(w64 ((w64 (j-v1))-1)),jk,zt,a⟩ ?_
 clear a
 rintro m1 y ⟨e,c,d,x,b4,a⟩
 refine Wj x ?_
 clear x
 cases m1 with
 | zero=>cases a
 | succ m1=>
  obtain ⟨b2,u⟩:∃g,g=ZaN k v1 m1:=⟨_,rfl⟩
  have a:Zde k b2 v1 e d=some r:=by first | (rw [u];exact a) | exact a
  refine WA.seq ?_
  refine Ws [] [(0,ar 0 c),(3,.val false [.pv (.fn 104)]),(8,oi v1),(9,oi 0),(12,oi d),(33,ob (decide (d≥0)))] [(0,.arr 2 (e.map Za))] ?_
  refine WA.cond (b:=(decide (d≥0))) rfl (fun s=>?_) (fun s=>?_)
  {
 have a:=Zk a s
 refine WA.skip ?_
 refine WA.seq ?_
 refine WA.block ?_
 refine WA.seq ?_
 obtain ⟨v,a⟩:=Zn a
 obtain ⟨l,a5,a⟩:=Zh a
 obtain ⟨w,a⟩:=Zn a
 obtain ⟨o,a6,a⟩:=Zh a
 obtain ⟨a2,a⟩:=Zn a
 obtain ⟨z,a7,a⟩:=Zh a
 obtain ⟨a3,a⟩:=Zn a
 obtain ⟨a0,a8,a⟩:=Zh a
 have z0:(w64 (v1+d))<((c:Nat):Int):=(by have h_:=v.2;(try simp only [zl,Zi] at h_ ⊢);omega)
 have z2:v1<((c:Nat):Int):=(by have h_:=w.2;(try simp only [zl,Zi] at h_ ⊢);omega)
 refine Wdm (((((e.map Za).set (Int.toNat v1) (Za l)).set (Int.toNat (w64 (v1+d))) (Za o)),((e.map Za).set (Int.toNat v1) (Za l))):(List (List PV))×(List (List PV))) ((((e.set (Int.toNat v1) l).set (Int.toNat (w64 (v1+d))) o).map Za),((e.set (Int.toNat v1) l).map Za)) (fun m_=>([(0,ar 0 c),(3,.val false [.pv (.fn 104)]),(8,oi v1),(9,oi 0),(12,oi d)],[(0,.arr 2 m_.1)],[c=(e.map Za).length,(0:Int)≤(w64 (v1+d)),(w64 (v1+d))<((c:Nat):Int),c=(e.map Za).length,(e.map Za)[Int.toNat (w64 (v1+d))]?=some (Za l),c=(e.map Za).length,(0:Int)≤v1,v1<((c:Nat):Int),c=(e.map Za).length,(e.map Za)[Int.toNat v1]?=some (Za o),c=(e.map Za).length,(0:Int)≤v1,v1<((c:Nat):Int),c=(e.map Za).length,(e.map Za)[Int.toNat v1]?=some (Za z),c=m_.2.length,(0:Int)≤(w64 (v1+d)),(w64 (v1+d))<((c:Nat):Int),c=m_.2.length,m_.2[Int.toNat (w64 (v1+d))]?=some (Za a0)])) (ZJ zm zm) [(11,.cells (Za l)),(15,.cells (Za o)),(17,.cells (Za z)),(19,.cells (Za a0))] ⟨zt,v.1,z0,zt,(Zr (Zs _ a5)),zt,w.1,z2,zt,(Zr (Zs _ a6)),zt,a2.1,z2,zt,(Zr (Zs _ a7)),zt,a3.1,z0,zt,(Zr (Zs _ a8)),trivial⟩ ?_
 obtain ⟨p,a9,a⟩:=Zh a
 obtain ⟨b6,a⟩:=Zn a
 refine Wo [(5,.call [0] (.tup []) [.arr 2 (p.map Za)] [])] [(0,ar 0 c),(3,.val false [.pv (.fn 104)]),(8,oi v1),(9,oi 0),(12,oi d)] [(0,.arr 2 (p.map Za))] [SM μ 176 [ar 0 c,oi 0,oi d,oi v1,.val false [.pv (.fn 104)]] [.arr 2 (((e.set (Int.toNat v1) l).set (Int.toNat (w64 (v1+d))) o).map Za)] (.tup []) [.arr 2 (p.map Za)],([0]:List Nat).Nodup] ⟨(Zm0 k _ _ _ _ _ a9 (n0:=c) zt),nd,trivial⟩ ?_
 refine Wr [] [(0,ar 0 c),(3,.val false [.pv (.fn 104)]),(8,oi v1),(9,oi 0),(12,oi (w64 (d-1)))] [(0,.arr 2 (p.map Za))] ?_
 exact ⟨m1,zl_ _,p,c,(w64 (d-1)),jk,zt,by rw [u] at a;exact a⟩ }
  {
 have a:=Zj a s
 refine WA.exit ?_
 obtain rfl:=zj_ a
 exact Zcy (.tup []) [.arr 2 (e.map Za)] kr kr kr kr nd rfl rfl } }
def Zcp (self8:(List Zb)→Int→Option (List Zb)) (d:(List Zb)→Int→Option (List Zb)) (e:Int) (b:List Zb) (a:Int) (f:Bool):Option (List Zb):=
  cond f ((if (0:Int)≤(w64 (a-1))∧(w64 (a-1))<(b.length:Int) then (idxL b (w64 (a-1))).bind fun c=>if (0:Int)≤a∧a<(b.length:Int) then (idxL b a).bind fun g=>if (0:Int)≤a∧a<(b.length:Int) then (idxL b a).bind fun h=>if (0:Int)≤(w64 (a-1))∧(w64 (a-1))<((b.set (Int.toNat a) c).length:Int) then (idxL (b.set (Int.toNat a) c) (w64 (a-1))).bind fun i=>(d ((b.set (Int.toNat a) c).set (Int.toNat (w64 (a-1))) g) (w64 (a-1))) else none else none else none else none)) ((self8 b (w64 (e+1))))
def Zfh (k:Nat) (self8:(List Zb)→Int→Option (List Zb)) (c:(List Zb)→Int→Option (List Zb)) (v1:Int) (d:Int) (b:List Zb) (a:Int):Option (List Zb):=
  cond (decide (a > v1)) (if (0:Int)≤a∧a<(b.length:Int) then (idxL b a).bind fun e=>if (0:Int)≤(w64 (a-1))∧(w64 (a-1))<(b.length:Int) then (idxL b (w64 (a-1))).bind fun f=>(F104 k e f).bind fun g=>(Zcp self8 c d b a (decide (g<0))) else none else none) ((Zcp self8 c d b a false))
def Zbo (k:Nat) (self8:(List Zb)→Int→Option (List Zb)) (v1:Int) (a:Int):Nat→(List Zb)→Int→Option (List Zb)
  | 0,_,_=>none
  | d+1,b,c=>Zfh k self8 (Zbo k self8 v1 a d) v1 a b c
def Zdc (k:Nat) (self8:(List Zb)→Int→Option (List Zb)) (v1:Int) (c:Int) (b:List Zb) (a:Int):Option (List Zb):=
  (cond (decide (a<c)) (((Zbo k self8 v1 a k b a))) (some b))
def Zb0 (k:Nat) (v1:Int) (c:Int):Nat→(List Zb)→Int→Option (List Zb)
  | 0,_,_=>none
  | d+1,a,b=>Zdc k (Zb0 k v1 c d) v1 c a b
def F149 (k:Nat) (v0:List Zb) (v1:Int) (a:Int):Option (List Zb):=
  (Zb0 k v1 a k v0 (w64 (v1+1)))
theorem ZqE (k:Nat) (v0:List Zb) (v1:Int) (i:Int) (r:List Zb) (e:F149 k v0 v1 i=some r) {n0:Nat} (hn_n0:n0=v0.length):SM μ 149 [ar 0 n0,oi v1,oi i,.val false [.pv (.fn 104)]] [.arr 2 (v0.map Za)] (.tup []) [.arr 2 (r.map Za)]:=by
 refine Zz [0] Tryz.func149 rfl kr kr ?_
 show WA _ _ 53 _ _ _
 refine Ws [] [(0,ar 0 n0),(1,oi v1),(2,oi i),(3,.val false [.pv (.fn 104)]),(8,oi (w64 (v1+1)))] [(0,.arr 2 (v0.map Za))] ?_
 refine WA.block ?_
 refine WA.loop (fun m x=>∃(h:List Zb) (n:Nat) (f:Int),J x [(0,ar 0 n),(1,oi v1),(2,oi i),(3,.val false [.pv (.fn 104)]),(8,oi f)] [(0,.arr 2 (h.map Za))]∧n=(h:List _).length∧Zb0 k v1 i m h f=some r) k ⟨v0,n0,(w64 (v1+1)),jk,zt,e⟩ ?_
 clear e
 rintro m8 x ⟨h,n,f,v,b7,e⟩
 refine Wj v ?_
 clear v
 cases m8 with
 | zero=>cases e
 | succ m8=>
  obtain ⟨self8,w⟩:∃g,g=Zb0 k v1 i m8:=⟨_,rfl⟩
  have e:Zdc k self8 v1 i h f=some r:=by first | (rw [w];exact e) | exact e
  refine WA.seq ?_
  refine Ws [] [(0,ar 0 n),(1,oi v1),(2,oi i),(3,.val false [.pv (.fn 104)]),(8,oi f),(14,ob (decide (f<i)))] [(0,.arr 2 (h.map Za))] ?_
  refine WA.cond (b:=(decide (f<i))) rfl (fun q=>?_) (fun q=>?_)
  {
 have e:=Zk e q
 refine WA.skip ?_
 refine WA.seq ?_
 refine WA.block ?_
 refine Ws [] [(0,ar 0 n),(1,oi v1),(2,oi i),(3,.val false [.pv (.fn 104)]),(8,oi f),(9,oi f)] [(0,.arr 2 (h.map Za))] ?_
 refine WA.block ?_
 refine WA.loop (fun m x=>∃(c:List Zb) (d:Nat) (a:Int),J x [(0,ar 0 d),(1,oi v1),(2,oi i),(3,.val false [.pv (.fn 104)]),(8,oi f),(9,oi a)] [(0,.arr 2 (c.map Za))]∧d=(c:List _).length∧Zbo k self8 v1 f m c a=some r) k ⟨h,n,f,jk,zt,e⟩ ?_
 clear e
 rintro m11 x ⟨c,d,a,v,b8,e⟩
 refine Wj v ?_
 clear v
 cases m11 with
 | zero=>cases e
 | succ m11=>
  obtain ⟨y,p⟩:∃g,g=Zbo k self8 v1 f m11:=⟨_,rfl⟩
  have e:Zfh k self8 y v1 f c a=some r:=by first | (rw [p];exact e) | exact e
  refine WA.seq ?_
  refine WA.join (fun x=>∃(t:Bool),J x [(0,ar 0 d),(1,oi v1),(2,oi i),(3,.val false [.pv (.fn 104)]),(8,oi f),(9,oi a),(34,ob t)] [(0,.arr 2 (c.map Za))]∧Zcp self8 y f c a t=some r) ?_ ?_
  {
 rintro x ⟨t,v,e⟩
 refine Wj v ?_
 clear v
 refine WA.cond (b:=t) rfl (fun s=>?_) (fun s=>?_)
 {
 have e:=Zk e s
 refine WA.skip ?_
 refine WA.seq ?_
 refine WA.block ?_
 obtain ⟨a3,e⟩:=Zn e
 obtain ⟨j,b2,e⟩:=Zh e
 obtain ⟨a4,e⟩:=Zn e
 obtain ⟨o,b3,e⟩:=Zh e
 obtain ⟨a7,e⟩:=Zn e
 obtain ⟨a5,b4,e⟩:=Zh e
 obtain ⟨a8,e⟩:=Zn e
 obtain ⟨a6,b5,e⟩:=Zh e
 have z0:(w64 (a-1))<((d:Nat):Int):=(by have h_:=a3.2;(try simp only [zl,Zi] at h_ ⊢);omega)
 have z2:a<((d:Nat):Int):=(by have h_:=a4.2;(try simp only [zl,Zi] at h_ ⊢);omega)
 refine Wdm (((((c.map Za).set (Int.toNat a) (Za j)).set (Int.toNat (w64 (a-1))) (Za o)),((c.map Za).set (Int.toNat a) (Za j))):(List (List PV))×(List (List PV))) ((((c.set (Int.toNat a) j).set (Int.toNat (w64 (a-1))) o).map Za),((c.set (Int.toNat a) j).map Za)) (fun m_=>([(0,ar 0 d),(1,oi v1),(2,oi i),(3,.val false [.pv (.fn 104)]),(8,oi f),(9,oi a)],[(0,.arr 2 m_.1)],[d=(c.map Za).length,(0:Int)≤(w64 (a-1)),(w64 (a-1))<((d:Nat):Int),d=(c.map Za).length,(c.map Za)[Int.toNat (w64 (a-1))]?=some (Za j),d=(c.map Za).length,(0:Int)≤a,a<((d:Nat):Int),d=(c.map Za).length,(c.map Za)[Int.toNat a]?=some (Za o),d=(c.map Za).length,(0:Int)≤a,a<((d:Nat):Int),d=(c.map Za).length,(c.map Za)[Int.toNat a]?=some (Za a5),d=m_.2.length,(0:Int)≤(w64 (a-1)),(w64 (a-1))<((d:Nat):Int),d=m_.2.length,m_.2[Int.toNat (w64 (a-1))]?=some (Za a6)])) (ZJ zm zm) [(9,.cells (Za j)),(13,.cells (Za o)),(15,.cells (Za a5)),(17,.cells (Za a6))] ⟨zt,a3.1,z0,zt,(Zr (Zs _ b2)),zt,a4.1,z2,zt,(Zr (Zs _ b3)),zt,a7.1,z2,zt,(Zr (Zs _ b4)),zt,a8.1,z0,zt,(Zr (Zs _ b5)),trivial⟩ ?_
 refine Wr [] [(0,ar 0 d),(1,oi v1),(2,oi i),(3,.val false [.pv (.fn 104)]),(8,oi f),(9,oi (w64 (a-1)))] [(0,.arr 2 (((c.set (Int.toNat a) j).set (Int.toNat (w64 (a-1))) o).map Za))] ?_
 exact ⟨m11,zl_ _,((c.set (Int.toNat a) j).set (Int.toNat (w64 (a-1))) o),d,(w64 (a-1)),jk,zt,by rw [p] at e;exact e⟩ }
 {
 have e:=Zj e s
 refine WA.exit ?_
 refine Wr [] [(0,ar 0 d),(1,oi v1),(2,oi i),(3,.val false [.pv (.fn 104)]),(8,oi (w64 (f+1)))] [(0,.arr 2 (c.map Za))] ?_
 exact ⟨m8,zl_ _,c,d,(w64 (f+1)),jk,zt,by rw [w] at e;exact e⟩ } }
  {
 rcases zo_ (decide (a > v1)) with l | l
 {
 have e:=Zk e l
 obtain ⟨a1,e⟩:=Zn e
 obtain ⟨z,a9,e⟩:=Zh e
 obtain ⟨a2,e⟩:=Zn e
 obtain ⟨a0,b0,e⟩:=Zh e
 obtain ⟨u,b1,e⟩:=Zh e
 refine Wd [(3,.bool true),(8,.cells (Za z)),(13,.cells (Za a0)),(14,.callR [] (oi u))] [(0,ar 0 d),(1,oi v1),(2,oi i),(3,.val false [.pv (.fn 104)]),(8,oi f),(9,oi a),(34,ob (decide (u<0)))] [(0,.arr 2 (c.map Za))] [(decide (a > v1))=true,d=(c.map Za).length,(0:Int)≤a,a<((d:Nat):Int),d=(c.map Za).length,(c.map Za)[Int.toNat a]?=some (Za z),d=(c.map Za).length,(0:Int)≤(w64 (a-1)),(w64 (a-1))<((d:Nat):Int),d=(c.map Za).length,(c.map Za)[Int.toNat (w64 (a-1))]?=some (Za a0),SM μ 104 [tv (Za z),tv (Za a0)] [] (oi u) [],([]:List Nat).Nodup] ⟨l,zt,a1.1,(by have h_:=a1.2;(try simp only [zl,Zi] at h_ ⊢);omega),zt,(Zr (Zs _ a9)),zt,a2.1,(by have h_:=a2.2;(try simp only [zl,Zi] at h_ ⊢);omega),zt,(Zr (Zs _ b0)),(Zat k _ _ _ b1),nd,trivial⟩ ?_
 exact ⟨(decide (u<0)),jk,e⟩ }
 {
 have e:=Zj e l
 refine Wd [(3,.bool false),(14,.callR [] (.tup []))] [(0,ar 0 d),(1,oi v1),(2,oi i),(3,.val false [.pv (.fn 104)]),(8,oi f),(9,oi a),(34,ob false)] [(0,.arr 2 (c.map Za))] [(decide (a > v1))=false] ⟨l,trivial⟩ ?_
 exact ⟨false,jk,e⟩ } } }
  {
 have e:=Zj e q
 refine WA.exit ?_
 obtain rfl:=zj_ e
 exact Zcy (.tup []) [.arr 2 (h.map Za)] kr kr kr kr nd rfl rfl }
def Zcm (R121:(List Zb)→Int→Int→Int→Option (List Zb)) (k:Nat) (d:(List Zb)→Int→Int→Int→Bool→Bool→Option (List Zb)) (c:Int) (b:Int) (l:Bool) (m:Bool) (e:Int) (h:Int) (f:List Zb) (n:Bool):Option (List Zb):=
  cond n ((F155 k f c b h).bind fun g=>if g.2.length=f.length then ((d g.2 g.1 b e l m)) else none) ((F156 k f c b h).bind fun a=>if a.2.2.length=f.length then (((if (8:Int)≠0 then ((cond (decide ((w64 (a.1-c))<(w64 (b-a.1)))) ((R121 a.2.2 c a.1 e).bind fun i=>if i.length=a.2.2.length then (d i (w64 (a.1+1)) b e (decide ((w64 (a.1-c))≥(w64 (Int.tdiv (w64 (b-c)) 8)))) a.2.1) else none) ((R121 a.2.2 (w64 (a.1+1)) b e).bind fun j=>if j.length=a.2.2.length then (d j c a.1 e (decide ((w64 (b-a.1))≥(w64 (Int.tdiv (w64 (b-c)) 8)))) a.2.1) else none))) else none))) else none)
def Zdv (R121:(List Zb)→Int→Int→Int→Option (List Zb)) (k:Nat) (d:(List Zb)→Int→Int→Int→Bool→Bool→Option (List Zb)) (a:Int) (e:Int) (f:Bool) (g:Bool) (h:Int) (c:Int) (b:List Zb):Option (List Zb):=
  cond (decide (a > 0)) (if (0:Int)≤(w64 (a-1))∧(w64 (a-1))<(b.length:Int) then (idxL b (w64 (a-1))).bind fun i=>if (0:Int)≤c∧c<(b.length:Int) then (idxL b c).bind fun j=>(F104 k i j).bind fun l=>(Zcm R121 k d a e f g h c b (!(decide (l<0)))) else none else none) ((Zcm R121 k d a e f g h c b false))
def Zcl (R121:(List Zb)→Int→Int→Int→Option (List Zb)) (k:Nat) (b:(List Zb)→Int→Int→Int→Bool→Bool→Option (List Zb)) (c:Int) (d:Int) (f:Bool) (g:Bool) (h:Int) (e:List Zb) (i:Int) (j:Bool):Option (List Zb):=
  cond j ((F154 k e c d).bind fun a=>if a.2.length=e.length then (cond a.1 (some a.2) ((Zdv R121 k b c d f g h i a.2))) else none) ((Zdv R121 k b c d f g h i e))
def Zdu (R121:(List Zb)→Int→Int→Int→Option (List Zb)) (k:Nat) (a:(List Zb)→Int→Int→Int→Bool→Bool→Option (List Zb)) (d:Int) (e:Int) (b:Bool) (c:Bool) (f:Int) (g:List Zb) (h:Int) (i:Int):Option (List Zb):=
  cond b (cond c ((Zcl R121 k a d e b c f g h (i == 1))) ((Zcl R121 k a d e b c f g h false))) ((Zcl R121 k a d e b c f g h false))
def Zdt (R121:(List Zb)→Int→Int→Int→Option (List Zb)) (k:Nat) (d:(List Zb)→Int→Int→Int→Bool→Bool→Option (List Zb)) (b:Int) (c:Int) (e:Bool) (f:Bool) (g:List Zb) (h:Int):Option (List Zb):=
  (F152 k g b c).bind fun a=>if a.2.2.length=g.length then ((cond (a.2.1 == 2) ((F153 k a.2.2 b c).bind fun i=>if i.length=a.2.2.length then (((Zdu R121 k d b c e f h i (w64 ((w64 (c-1))-(w64 (a.1-b)))) 1))) else none) ((Zdu R121 k d b c e f h a.2.2 a.1 a.2.1)))) else none
def Zfg (R121:(List Zb)→Int→Int→Int→Option (List Zb)) (k:Nat) (d:(List Zb)→Int→Int→Int→Bool→Bool→Option (List Zb)) (a:List Zb) (b:Int) (c:Int) (e:Int) (f:Bool) (g:Bool):Option (List Zb):=
  ((cond (decide ((w64 (c-b))≤12)) ((F149 k a b c).bind fun h=>if h.length=a.length then (some h) else none) (((cond (e == 0) ((F150 k a b c).bind fun i=>if i.length=a.length then (some i) else none) (((cond (!f) ((F151 k a b c).bind fun j=>if j.length=a.length then ((Zdt R121 k d b c f g j (w64 (e-1)))) else none) ((Zdt R121 k d b c f g a e))))))))))
def Zal (R121:(List Zb)→Int→Int→Int→Option (List Zb)) (k:Nat):Nat→(List Zb)→Int→Int→Int→Bool→Bool→Option (List Zb)
  | 0,_,_,_,_,_,_=>none
  | g+1,a,b,c,d,e,f=>Zfg R121 k (Zal R121 k g) a b c d e f
def Zoe (R121:(List Zb)→Int→Int→Int→Option (List Zb)) (k:Nat) (v0:List Zb) (v1:Int) (a:Int) (b:Int):Option (List Zb):=
  ((Zal R121 k k v0 v1 a b true true))
theorem Zof (R121:(List Zb)→Int→Int→Int→Option (List Zb)) (IH121:∀(v0:List Zb) (v1:Int) (v2:Int) (v3:Int) (r:List Zb),R121 v0 v1 v2 v3=some r→∀{n0:Nat},n0=v0.length→SM μ 121 [ar 0 n0,oi v1,oi v2,oi v3,.val false [.pv (.fn 104)]] [.arr 2 (v0.map Za)] (.tup []) [.arr 2 (r.map Za)]) (k:Nat) (v0:List Zb) (v1:Int) (v2:Int) (v3:Int) (r:List Zb) (d:Zoe R121 k v0 v1 v2 v3=some r) {n0:Nat} (hn_n0:n0=v0.length):SM μ 121 [ar 0 n0,oi v1,oi v2,oi v3,.val false [.pv (.fn 104)]] [.arr 2 (v0.map Za)] (.tup []) [.arr 2 (r.map Za)]:=by
 refine Zz [0] Tryz.func121 rfl kr kr ?_
 show WA _ _ 148 _ _ _
 refine Ws [] [(0,ar 0 n0),(1,oi v1),(2,oi v2),(3,oi v3),(4,.val false [.pv (.fn 104)]),(10,ob true)] [(0,.arr 2 (v0.map Za))] ?_
 refine Ws [] [(0,ar 0 n0),(1,oi v1),(2,oi v2),(3,oi v3),(4,.val false [.pv (.fn 104)]),(10,ob true),(11,ob true)] [(0,.arr 2 (v0.map Za))] ?_
 refine WA.block ?_
 refine WA.loop (fun m s_=>∃(t:List Zb) (o:Nat) (a:Int) (c:Int) (q:Int) (f:Bool) (i:Bool),J s_ [(0,ar 0 o),(1,oi a),(2,oi c),(3,oi q),(4,.val false [.pv (.fn 104)]),(10,ob f),(11,ob i)] [(0,.arr 2 (t.map Za))]∧o=(t:List _).length∧Zal R121 k m t a c q f i=some r) k ⟨v0,n0,v1,v2,v3,true,true,jk,zt,d⟩ ?_
 clear d
 rintro m13 s_ ⟨t,o,a,c,q,f,i,z,e4,d⟩
 refine Wj z ?_
 clear z
 cases m13 with
 | zero=>cases d
 | succ m13=>
  obtain ⟨x,a2⟩:∃g,g=Zal R121 k m13:=⟨_,rfl⟩
  have d:Zfg R121 k x t a c q f i=some r:=by first | (rw [a2];exact d) | exact d
  refine WA.block ?_
  refine Ws [] [(0,ar 0 o),(1,oi a),(2,oi c),(3,oi q),(4,.val false [.pv (.fn 104)]),(10,ob f),(11,ob i),(12,oi (w64 (c-a)))] [(0,.arr 2 (t.map Za))] ?_
  refine WA.seq ?_
  refine Ws [] [(0,ar 0 o),(1,oi a),(2,oi c),(3,oi q),(4,.val false [.pv (.fn 104)]),(10,ob f),(11,ob i),(12,oi (w64 (c-a))),(25,ob (decide ((w64 (c-a))≤12)))] [(0,.arr 2 (t.map Za))] ?_
  refine WA.cond (b:=(decide ((w64 (c-a))≤12))) rfl (fun b1=>?_) (fun b1=>?_)
  {
 have d:=Zk d b1
 obtain ⟨c1,d1,d⟩:=Zh d
 obtain ⟨e8,d⟩:=Zn d
 refine Wos [(4,.call [0] (.tup []) [.arr 2 (c1.map Za)] [])] [] [(0,.arr 2 (c1.map Za))] [SM μ 149 [ar 0 o,oi a,oi c,.val false [.pv (.fn 104)]] [.arr 2 (t.map Za)] (.tup []) [.arr 2 (c1.map Za)],([0]:List Nat).Nodup] ⟨(ZqE k _ _ _ _ d1 (n0:=o) zt),nd,trivial⟩ ?_
 refine WA.ret ?_
 obtain rfl:=zj_ d
 exact Zo (.tup []) [.arr 2 (c1.map Za)] kr kr kr kr nd rfl rfl }
  {
 have d:=Zj d b1
 refine WA.skip ?_
 refine WA.seq ?_
 refine Ws [] [(0,ar 0 o),(1,oi a),(2,oi c),(3,oi q),(4,.val false [.pv (.fn 104)]),(10,ob f),(11,ob i),(12,oi (w64 (c-a))),(32,ob (q == 0))] [(0,.arr 2 (t.map Za))] ?_
 refine WA.cond (b:=(q == 0)) rfl (fun b2=>?_) (fun b2=>?_)
 {
 have d:=Zk d b2
 obtain ⟨c2,d2,d⟩:=Zh d
 obtain ⟨e9,d⟩:=Zn d
 refine Wos [(4,.call [0] (.tup []) [.arr 2 (c2.map Za)] [])] [] [(0,.arr 2 (c2.map Za))] [SM μ 150 [ar 0 o,oi a,oi c,.val false [.pv (.fn 104)]] [.arr 2 (t.map Za)] (.tup []) [.arr 2 (c2.map Za)],([0]:List Nat).Nodup] ⟨(ZqF k _ _ _ _ d2 (n0:=o) zt),nd,trivial⟩ ?_
 refine WA.ret ?_
 obtain rfl:=zj_ d
 exact Zo (.tup []) [.arr 2 (c2.map Za)] kr kr kr kr nd rfl rfl }
 {
 have d:=Zj d b2
 refine WA.skip ?_
 refine WA.join (fun s_=>∃(a6:List Zb) (s:Nat) (h:Int),J s_ [(0,ar 0 s),(1,oi a),(2,oi c),(3,oi h),(4,.val false [.pv (.fn 104)]),(10,ob f),(11,ob i),(12,oi (w64 (c-a)))] [(0,.arr 2 (a6.map Za))]∧s=(a6:List _).length∧Zdt R121 k x a c f i a6 h=some r) ?_ ?_
 {
 rintro s_ ⟨a6,s,h,z,e5,d⟩
 refine Wj z ?_
 clear z
 obtain ⟨l,d4,d⟩:=Zh d
 obtain ⟨f1,d⟩:=Zn d
 refine Wos [(4,.call [0] (.tup [(false,[.pv (.int .i64 l.1)]),(false,[.pv (.int .i64 l.2.1)])]) [.arr 2 (l.2.2.map Za)] [])] [(0,ar 0 s),(1,oi a),(2,oi c),(3,oi h),(4,.val false [.pv (.fn 104)]),(10,ob f),(11,ob i),(12,oi (w64 (c-a))),(13,oi l.1),(14,oi l.2.1)] [(0,.arr 2 (l.2.2.map Za))] [SM μ 152 [ar 0 s,oi a,oi c,.val false [.pv (.fn 104)]] [.arr 2 (a6.map Za)] (.tup [(false,[.pv (.int .i64 l.1)]),(false,[.pv (.int .i64 l.2.1)])]) [.arr 2 (l.2.2.map Za)],([0]:List Nat).Nodup] ⟨(ZqH k _ _ _ _ d4 (n0:=s) zt),nd,trivial⟩ ?_
 refine WA.join (fun s_=>∃(v:List Zb) (u:Nat) (n:Int) (a7:Int),J s_ [(0,ar 0 u),(1,oi a),(2,oi c),(3,oi h),(4,.val false [.pv (.fn 104)]),(10,ob f),(11,ob i),(12,oi (w64 (c-a))),(13,oi n),(14,oi a7)] [(0,.arr 2 (v.map Za))]∧u=(v:List _).length∧Zdu R121 k x a c f i h v n a7=some r) ?_ ?_
 {
 rintro s_ ⟨v,u,n,a7,z,e6,d⟩
 refine Wj z ?_
 clear z
 refine WA.join (fun s_=>∃(p:List Zb) (j:Nat),J s_ [(0,ar 0 j),(1,oi a),(2,oi c),(3,oi h),(4,.val false [.pv (.fn 104)]),(10,ob f),(11,ob i),(12,oi (w64 (c-a))),(13,oi n)] [(0,.arr 2 (p.map Za))]∧j=(p:List _).length∧Zdv R121 k x a c f i h n p=some r) ?_ ?_
 {
 rintro s_ ⟨p,j,z,e7,d⟩
 refine Wj z ?_
 clear z
 refine WA.seq ?_
 refine WA.join (fun s_=>∃(c0:Bool),J s_ [(0,ar 0 j),(1,oi a),(2,oi c),(3,oi h),(4,.val false [.pv (.fn 104)]),(10,ob f),(11,ob i),(12,oi (w64 (c-a))),(13,oi n),(97,ob c0)] [(0,.arr 2 (p.map Za))]∧Zcm R121 k x a c f i h n p c0=some r) ?_ ?_
 {
 rintro s_ ⟨c0,z,d⟩
 refine Wj z ?_
 clear z
 refine WA.cond (b:=c0) rfl (fun b7=>?_) (fun b7=>?_)
 {
 have d:=Zk d b7
 obtain ⟨w,e0,d⟩:=Zh d
 obtain ⟨f4,d⟩:=Zn d
 refine Wos [(5,.call [0] (oi w.1) [.arr 2 (w.2.map Za)] [])] [(0,ar 0 j),(2,oi c),(3,oi h),(4,.val false [.pv (.fn 104)]),(10,ob f),(11,ob i),(15,oi w.1)] [(0,.arr 2 (w.2.map Za))] [SM μ 155 [ar 0 j,oi a,oi c,oi n,.val false [.pv (.fn 104)]] [.arr 2 (p.map Za)] (oi w.1) [.arr 2 (w.2.map Za)],([0]:List Nat).Nodup] ⟨(ZqK k _ _ _ _ _ e0 (n0:=j) zt),nd,trivial⟩ ?_
 refine Ws [] [(0,ar 0 j),(1,oi w.1),(2,oi c),(3,oi h),(4,.val false [.pv (.fn 104)]),(10,ob f),(11,ob i)] [(0,.arr 2 (w.2.map Za))] ?_
 refine WA.exit ?_
 exact ⟨m13,zl_ _,w.2,j,w.1,c,h,f,i,jk,zt,by rw [a2] at d;exact d⟩ }
 {
 have d:=Zj d b7
 refine WA.skip ?_
 obtain ⟨e,e1,d⟩:=Zh d
 obtain ⟨f5,d⟩:=Zn d
 refine Wos [(5,.call [0] (.tup [(false,[.pv (.int .i64 e.1)]),(false,[.pv (.bool e.2.1)])]) [.arr 2 (e.2.2.map Za)] [])] [(0,ar 0 j),(1,oi a),(2,oi c),(3,oi h),(4,.val false [.pv (.fn 104)]),(12,oi (w64 (c-a))),(16,oi e.1),(17,ob e.2.1)] [(0,.arr 2 (e.2.2.map Za))] [SM μ 156 [ar 0 j,oi a,oi c,oi n,.val false [.pv (.fn 104)]] [.arr 2 (p.map Za)] (.tup [(false,[.pv (.int .i64 e.1)]),(false,[.pv (.bool e.2.1)])]) [.arr 2 (e.2.2.map Za)],([0]:List Nat).Nodup] ⟨(ZqL k _ _ _ _ _ e1 (n0:=j) zt),nd,trivial⟩ ?_
 refine Ws [] [(0,ar 0 j),(1,oi a),(2,oi c),(3,oi h),(4,.val false [.pv (.fn 104)]),(11,ob e.2.1),(12,oi (w64 (c-a))),(16,oi e.1)] [(0,.arr 2 (e.2.2.map Za))] ?_
 refine Ws [] [(0,ar 0 j),(1,oi a),(2,oi c),(3,oi h),(4,.val false [.pv (.fn 104)]),(11,ob e.2.1),(12,oi (w64 (c-a))),(16,oi e.1),(18,oi (w64 (e.1-a))),(19,oi (w64 (c-e.1)))] [(0,.arr 2 (e.2.2.map Za))] ?_
 obtain ⟨d0,d⟩:=Zn d
 refine Wos [] [(0,ar 0 j),(1,oi a),(2,oi c),(3,oi h),(4,.val false [.pv (.fn 104)]),(11,ob e.2.1),(16,oi e.1),(18,oi (w64 (e.1-a))),(19,oi (w64 (c-e.1))),(20,oi (w64 (Int.tdiv (w64 (c-a)) 8)))] [(0,.arr 2 (e.2.2.map Za))] [(8:Int)≠0] ⟨d0,trivial⟩ ?_
 refine Ws [] [(0,ar 0 j),(1,oi a),(2,oi c),(3,oi h),(4,.val false [.pv (.fn 104)]),(11,ob e.2.1),(16,oi e.1),(18,oi (w64 (e.1-a))),(19,oi (w64 (c-e.1))),(20,oi (w64 (Int.tdiv (w64 (c-a)) 8))),(125,ob (decide ((w64 (e.1-a))<(w64 (c-e.1)))))] [(0,.arr 2 (e.2.2.map Za))] ?_
 refine WA.cond (b:=(decide ((w64 (e.1-a))<(w64 (c-e.1))))) rfl (fun b8=>?_) (fun b8=>?_)
 {
 have d:=Zk d b8
 refine Ws [] [(0,ar 0 j),(1,oi a),(2,oi c),(3,oi h),(4,.val false [.pv (.fn 104)]),(10,ob (decide ((w64 (e.1-a))≥(w64 (Int.tdiv (w64 (c-a)) 8))))),(11,ob e.2.1),(16,oi e.1)] [(0,.arr 2 (e.2.2.map Za))] ?_
 obtain ⟨a9,e2,d⟩:=Zh d
 obtain ⟨f6,d⟩:=Zn d
 refine Wos [(5,.call [0] (.tup []) [.arr 2 (a9.map Za)] [])] [(0,ar 0 j),(2,oi c),(3,oi h),(4,.val false [.pv (.fn 104)]),(10,ob (decide ((w64 (e.1-a))≥(w64 (Int.tdiv (w64 (c-a)) 8))))),(11,ob e.2.1),(16,oi e.1)] [(0,.arr 2 (a9.map Za))] [SM μ 121 [ar 0 j,oi a,oi e.1,oi h,.val false [.pv (.fn 104)]] [.arr 2 (e.2.2.map Za)] (.tup []) [.arr 2 (a9.map Za)],([0]:List Nat).Nodup] ⟨(IH121 _ _ _ _ _ e2 (n0:=j) zt),nd,trivial⟩ ?_
 refine Wr [] [(0,ar 0 j),(1,oi (w64 (e.1+1))),(2,oi c),(3,oi h),(4,.val false [.pv (.fn 104)]),(10,ob (decide ((w64 (e.1-a))≥(w64 (Int.tdiv (w64 (c-a)) 8))))),(11,ob e.2.1)] [(0,.arr 2 (a9.map Za))] ?_
 exact ⟨m13,zl_ _,a9,j,(w64 (e.1+1)),c,h,(decide ((w64 (e.1-a))≥(w64 (Int.tdiv (w64 (c-a)) 8)))),e.2.1,jk,zt,by rw [a2] at d;exact d⟩ }
 {
 have d:=Zj d b8
 refine Ws [] [(0,ar 0 j),(1,oi a),(2,oi c),(3,oi h),(4,.val false [.pv (.fn 104)]),(10,ob (decide ((w64 (c-e.1))≥(w64 (Int.tdiv (w64 (c-a)) 8))))),(11,ob e.2.1),(16,oi e.1)] [(0,.arr 2 (e.2.2.map Za))] ?_
 obtain ⟨b0,e3,d⟩:=Zh d
 obtain ⟨f7,d⟩:=Zn d
 refine Wos [(6,.call [0] (.tup []) [.arr 2 (b0.map Za)] [])] [(0,ar 0 j),(1,oi a),(3,oi h),(4,.val false [.pv (.fn 104)]),(10,ob (decide ((w64 (c-e.1))≥(w64 (Int.tdiv (w64 (c-a)) 8))))),(11,ob e.2.1),(16,oi e.1)] [(0,.arr 2 (b0.map Za))] [SM μ 121 [ar 0 j,oi (w64 (e.1+1)),oi c,oi h,.val false [.pv (.fn 104)]] [.arr 2 (e.2.2.map Za)] (.tup []) [.arr 2 (b0.map Za)],([0]:List Nat).Nodup] ⟨(IH121 _ _ _ _ _ e3 (n0:=j) zt),nd,trivial⟩ ?_
 refine Wr [] [(0,ar 0 j),(1,oi a),(2,oi e.1),(3,oi h),(4,.val false [.pv (.fn 104)]),(10,ob (decide ((w64 (c-e.1))≥(w64 (Int.tdiv (w64 (c-a)) 8))))),(11,ob e.2.1)] [(0,.arr 2 (b0.map Za))] ?_
 exact ⟨m13,zl_ _,b0,j,a,e.1,h,(decide ((w64 (c-e.1))≥(w64 (Int.tdiv (w64 (c-a)) 8)))),e.2.1,jk,zt,by rw [a2] at d;exact d⟩ } } }
 {
 rcases zo_ (decide (a > 0)) with a4 | a4
 {
 have d:=Zk d a4
 obtain ⟨c8,d⟩:=Zn d
 obtain ⟨c6,d7,d⟩:=Zh d
 obtain ⟨c9,d⟩:=Zn d
 obtain ⟨c7,d8,d⟩:=Zh d
 obtain ⟨c3,d9,d⟩:=Zh d
 refine Wd [(2,.bool true),(8,.cells (Za c6)),(12,.cells (Za c7)),(13,.callR [] (oi c3))] [(0,ar 0 j),(1,oi a),(2,oi c),(3,oi h),(4,.val false [.pv (.fn 104)]),(10,ob f),(11,ob i),(12,oi (w64 (c-a))),(13,oi n),(97,ob (!(decide (c3<0))))] [(0,.arr 2 (p.map Za))] [(decide (a > 0))=true,j=(p.map Za).length,(0:Int)≤(w64 (a-1)),(w64 (a-1))<((j:Nat):Int),j=(p.map Za).length,(p.map Za)[Int.toNat (w64 (a-1))]?=some (Za c6),j=(p.map Za).length,(0:Int)≤n,n<((j:Nat):Int),j=(p.map Za).length,(p.map Za)[Int.toNat n]?=some (Za c7),SM μ 104 [tv (Za c6),tv (Za c7)] [] (oi c3) [],([]:List Nat).Nodup] ⟨a4,zt,c8.1,(by have h_:=c8.2;(try simp only [zl,Zi] at h_ ⊢);omega),zt,(Zr (Zs _ d7)),zt,c9.1,(by have h_:=c9.2;(try simp only [zl,Zi] at h_ ⊢);omega),zt,(Zr (Zs _ d8)),(Zat k _ _ _ d9),nd,trivial⟩ ?_
 exact ⟨(!(decide (c3<0))),jk,d⟩ }
 {
 have d:=Zj d a4
 refine Wd [(2,.bool false),(13,.callR [] (.tup []))] [(0,ar 0 j),(1,oi a),(2,oi c),(3,oi h),(4,.val false [.pv (.fn 104)]),(10,ob f),(11,ob i),(12,oi (w64 (c-a))),(13,oi n),(97,ob false)] [(0,.arr 2 (p.map Za))] [(decide (a > 0))=false] ⟨a4,trivial⟩ ?_
 exact ⟨false,jk,d⟩ } } }
 {
 refine WA.join (fun s_=>∃(b9:Bool),J s_ [(0,ar 0 u),(1,oi a),(2,oi c),(3,oi h),(4,.val false [.pv (.fn 104)]),(10,ob f),(11,ob i),(12,oi (w64 (c-a))),(13,oi n),(75,ob b9)] [(0,.arr 2 (v.map Za))]∧Zcl R121 k x a c f i h v n b9=some r) ?_ ?_
 {
 rintro s_ ⟨b9,z,d⟩
 refine Wj z ?_
 clear z
 refine WA.cond (b:=b9) rfl (fun b5=>?_) (fun b5=>?_)
 {
 have d:=Zk d b5
 obtain ⟨y,d6,d⟩:=Zh d
 obtain ⟨f3,d⟩:=Zn d
 refine Wos [(4,.call [0] (ob y.1) [.arr 2 (y.2.map Za)] [])] [(0,ar 0 u),(1,oi a),(2,oi c),(3,oi h),(4,.val false [.pv (.fn 104)]),(10,ob f),(11,ob i),(12,oi (w64 (c-a))),(13,oi n),(80,ob y.1)] [(0,.arr 2 (y.2.map Za))] [SM μ 154 [ar 0 u,oi a,oi c,.val false [.pv (.fn 104)]] [.arr 2 (v.map Za)] (ob y.1) [.arr 2 (y.2.map Za)],([0]:List Nat).Nodup] ⟨(ZqJ k _ _ _ _ d6 (n0:=u) zt),nd,trivial⟩ ?_
 refine WA.cond (b:=y.1) rfl (fun b6=>?_) (fun b6=>?_)
 {
 have d:=Zk d b6
 refine WA.ret ?_
 obtain rfl:=zj_ d
 exact Zo (.tup []) [.arr 2 (y.2.map Za)] kr kr kr kr nd rfl rfl }
 {
 have d:=Zj d b6
 refine WA.skip ?_
 exact ⟨y.2,u,jk,zt,d⟩ } }
 {
 have d:=Zj d b5
 refine WA.skip ?_
 exact ⟨v,u,jk,zt,d⟩ } }
 {
 rcases zo_ f with a1 | a1
 {
 have d:=Zk d a1
 rcases zo_ i with a3 | a3
 {
 have d:=Zk d a3
 refine Wo [(1,.bool true),(4,.bool true)] [(0,ar 0 u),(1,oi a),(2,oi c),(3,oi h),(4,.val false [.pv (.fn 104)]),(10,ob f),(11,ob i),(12,oi (w64 (c-a))),(13,oi n),(75,ob (a7 == 1))] [(0,.arr 2 (v.map Za))] [f=true,i=true] ⟨a1,a3,trivial⟩ ?_
 exact ⟨(a7 == 1),jk,d⟩ }
 {
 have d:=Zj d a3
 refine Wo [(1,.bool true),(4,.bool false)] [(0,ar 0 u),(1,oi a),(2,oi c),(3,oi h),(4,.val false [.pv (.fn 104)]),(10,ob f),(11,ob i),(12,oi (w64 (c-a))),(13,oi n),(75,ob false)] [(0,.arr 2 (v.map Za))] [f=true,i=false] ⟨a1,a3,trivial⟩ ?_
 exact ⟨false,jk,d⟩ } }
 {
 have d:=Zj d a1
 refine Wo [(1,.bool false)] [(0,ar 0 u),(1,oi a),(2,oi c),(3,oi h),(4,.val false [.pv (.fn 104)]),(10,ob f),(11,ob i),(12,oi (w64 (c-a))),(13,oi n),(75,ob false)] [(0,.arr 2 (v.map Za))] [f=false] ⟨a1,trivial⟩ ?_
 exact ⟨false,jk,d⟩ } } } }
 {
 refine Ws [] [(0,ar 0 s),(1,oi a),(2,oi c),(3,oi h),(4,.val false [.pv (.fn 104)]),(10,ob f),(11,ob i),(12,oi (w64 (c-a))),(13,oi l.1),(14,oi l.2.1),(56,ob (l.2.1 == 2))] [(0,.arr 2 (l.2.2.map Za))] ?_
 refine WA.cond (b:=(l.2.1 == 2)) rfl (fun b4=>?_) (fun b4=>?_)
 {
 have d:=Zk d b4
 obtain ⟨a5,d5,d⟩:=Zh d
 obtain ⟨f2,d⟩:=Zn d
 refine Wos [(4,.call [0] (.tup []) [.arr 2 (a5.map Za)] [])] [(0,ar 0 s),(1,oi a),(2,oi c),(3,oi h),(4,.val false [.pv (.fn 104)]),(10,ob f),(11,ob i),(12,oi (w64 (c-a))),(13,oi l.1)] [(0,.arr 2 (a5.map Za))] [SM μ 153 [ar 0 s,oi a,oi c,.val false [.pv (.fn 104)]] [.arr 2 (l.2.2.map Za)] (.tup []) [.arr 2 (a5.map Za)],([0]:List Nat).Nodup] ⟨(ZqI k _ _ _ _ d5 (n0:=s) zt),nd,trivial⟩ ?_
 refine Ws [] [(0,ar 0 s),(1,oi a),(2,oi c),(3,oi h),(4,.val false [.pv (.fn 104)]),(10,ob f),(11,ob i),(12,oi (w64 (c-a))),(13,oi (w64 ((w64 (c-1))-(w64 (l.1-a)))))] [(0,.arr 2 (a5.map Za))] ?_
 refine Wr [] [(0,ar 0 s),(1,oi a),(2,oi c),(3,oi h),(4,.val false [.pv (.fn 104)]),(10,ob f),(11,ob i),(12,oi (w64 (c-a))),(13,oi (w64 ((w64 (c-1))-(w64 (l.1-a))))),(14,oi 1)] [(0,.arr 2 (a5.map Za))] ?_
 exact ⟨a5,s,(w64 ((w64 (c-1))-(w64 (l.1-a)))),1,jk,zt,d⟩ }
 {
 have d:=Zj d b4
 refine WA.skip ?_
 exact ⟨l.2.2,s,l.1,l.2.1,jk,zt,d⟩ } } }
 {
 refine Ws [] [(0,ar 0 o),(1,oi a),(2,oi c),(3,oi q),(4,.val false [.pv (.fn 104)]),(10,ob f),(11,ob i),(12,oi (w64 (c-a))),(39,ob (!f))] [(0,.arr 2 (t.map Za))] ?_
 refine WA.cond (b:=(!f)) rfl (fun b3=>?_) (fun b3=>?_)
 {
 have d:=Zk d b3
 obtain ⟨a8,d3,d⟩:=Zh d
 obtain ⟨f0,d⟩:=Zn d
 refine Wos [(4,.call [0] (.tup []) [.arr 2 (a8.map Za)] [])] [(0,ar 0 o),(1,oi a),(2,oi c),(3,oi q),(4,.val false [.pv (.fn 104)]),(10,ob f),(11,ob i),(12,oi (w64 (c-a)))] [(0,.arr 2 (a8.map Za))] [SM μ 151 [ar 0 o,oi a,oi c,.val false [.pv (.fn 104)]] [.arr 2 (t.map Za)] (.tup []) [.arr 2 (a8.map Za)],([0]:List Nat).Nodup] ⟨(ZqG k _ _ _ _ d3 (n0:=o) zt),nd,trivial⟩ ?_
 refine Wr [] [(0,ar 0 o),(1,oi a),(2,oi c),(3,oi (w64 (q-1))),(4,.val false [.pv (.fn 104)]),(10,ob f),(11,ob i),(12,oi (w64 (c-a)))] [(0,.arr 2 (a8.map Za))] ?_
 exact ⟨a8,o,(w64 (q-1)),jk,zt,d⟩ }
 {
 have d:=Zj d b3
 refine WA.skip ?_
 exact ⟨t,o,q,jk,zt,d⟩ } } } }
def F121:Nat→(List Zb)→Int→Int→Int→Option (List Zb)
  | 0,_,_,_,_=>none
  | k+1,v0,v1,a,b=>Zoe (F121 k) k v0 v1 a b
theorem ZmQ:∀(k:Nat),∀(v0:List Zb) (v1:Int) (a:Int) (b:Int) (r:List Zb),F121 k v0 v1 a b=some r→∀{n0:Nat},n0=v0.length→SM μ 121 [ar 0 n0,oi v1,oi a,oi b,.val false [.pv (.fn 104)]] [.arr 2 (v0.map Za)] (.tup []) [.arr 2 (r.map Za)]
  | 0=>fun _ _ _ _ _ c=>by cases c
  | k+1=>fun v0 v1 a b r c=>Zof (F121 k) (ZmQ k) k v0 v1 a b r c
def F103 (k:Nat) (v0:List Zb):Option (List Zb):=
  (F112 k (IntKind.wrap .u64 (v0.length:Int))).bind fun b=>(F121 k v0 0 (v0.length:Int) b).bind fun a=>if a.length=v0.length then some a else none
theorem Zqy (k:Nat) (v0:List Zb) (r:List Zb) (b:F103 k v0=some r) {n0:Nat} (hn_n0:n0=v0.length):SM μ 103 [ar 0 n0,.val false [.pv (.fn 104)]] [.arr 2 (v0.map Za)] (.tup []) [.arr 2 (r.map Za)]:=by
 refine Zz [0] Tryz.func103 rfl kr kr ?_
 show WA _ _ 14 _ _ _
 refine WA.seq ?_
 refine Wm ((n0:Nat):Int) (v0.length:Int) (fun g=>([(0,ar 0 n0),(1,.val false [.pv (.fn 104)]),(4,oi g)],[(0,.arr 2 (v0.map Za))],[])) ((by first | (simp only [zl,Zi];done) | (simp only [zl,Zi];omega) | omega)) [] trivial ?_
 obtain ⟨c,d,b⟩:=Zh b
 obtain ⟨a,e,b⟩:=Zh b
 obtain ⟨f,b⟩:=Zn b
 refine Wo [(4,.callR [] (oi c)),(6,.call [0] (.tup []) [.arr 2 (a.map Za)] [])] [] [(0,.arr 2 (a.map Za))] [SM μ 112 [one (.int .u64 (IntKind.wrap .u64 (v0.length:Int)))] [] (oi c) [],([]:List Nat).Nodup,SM μ 121 [ar 0 n0,oi 0,oi (v0.length:Int),oi c,.val false [.pv (.fn 104)]] [.arr 2 (v0.map Za)] (.tup []) [.arr 2 (a.map Za)],([0]:List Nat).Nodup] ⟨(ZmM k _ _ d),nd,(ZmQ k _ _ _ _ _ e (n0:=n0) zt),nd,trivial⟩ ?_
 obtain rfl:=zj_ b
 exact Zcy (.tup []) [.arr 2 (a.map Za)] kr kr kr kr nd rfl rfl
end Go.Proofs.YthilboheomikjaaGreatDoor
end
section
namespace Go.Proofs.YthilboheomikjaaGreatDoor
open Go.AL
variable {μ:Int}
set_option maxRecDepth 100000
def Ze2 (a:(List Zb)→Int→Option (List Zb)) (b:Int) (c:List Zb):Option (List Zb):=
  a c (w64 (b+1))
def Zf8 (c:(List Zb)→Int→Option (List Zb)) (a:List Zb) (d:Int) (b:Zb) (e:Bool):Option (List Zb):=
  cond e (if (0:Int)≤(w64 ((a.length:Int)-1))∧(w64 ((a.length:Int)-1))<(a.length:Int) then (idxL a (w64 ((a.length:Int)-1))).bind fun f=>if (0:Int)≤(w64 ((a.length:Int)-1))∧(w64 ((a.length:Int)-1))<(a.length:Int) then (idxL a (w64 ((a.length:Int)-1))).bind fun g=>(Ze2 c d (a.set (Int.toNat (w64 ((a.length:Int)-1))) ({ g with f_Hi:=(mx f.f_Hi b.f_Hi) }:Zb))) else none else none) (if a.length+([b]:List Zb).length≤1073741824 then (Ze2 c d (a ++ ([b]:List Zb))) else none)
def ZcM (d:(List Zb)→Int→Option (List Zb)) (e:List Zb) (a:List Zb) (b:Int):Option (List Zb):=
  (cond (decide (b<(e.length:Int))) ((idxL e b).bind fun c=>((cond (decide ((a.length:Int) > 0)) (if (0:Int)≤(w64 ((a.length:Int)-1))∧(w64 ((a.length:Int)-1))<(a.length:Int) then (idxL a (w64 ((a.length:Int)-1))).bind fun f=>(Zf8 d a b c (decide (c.f_Lo≤(w64 (f.f_Hi+1))))) else none) ((Zf8 d a b c false))))) (((some a))))
def Zcc (a:List Zb):Nat→(List Zb)→Int→Option (List Zb)
  | 0,_,_=>none
  | d+1,b,c=>ZcM (Zcc a d) a b c
def F77 (k:Nat) (v0:List Zb):Option (List Zb):=
  (F102 k v0).bind fun a=>(F103 k a).bind fun b=>if b.length=a.length then (((Zcc b k ([]:List Zb) 0))) else none
theorem ZiP (k:Nat) (v0:List Zb) (r:List Zb) (e:F77 k v0=some r):SM μ 77 [one (.sl (v0.map Za))] [] (one (.sl (r.map Za))) []:=by
 refine Zz [] Tryz.func77 rfl kr kr ?_
 show WA _ _ 53 _ _ _
 refine Ws [] [(0,one (.sl (v0.map Za)))] [] ?_
 obtain ⟨i,a6,e⟩:=Zh e
 refine Wos [(1,.call [] (ar 0 i.length) [.arr 2 (i.map Za)] [108])] [(0,ar 108 i.length)] [(108,.arr 2 (i.map Za))] [SM μ 102 [one (.sl (v0.map Za))] [] (ar 0 i.length) [.arr 2 (i.map Za)],([]:List Nat).Nodup] ⟨(Zqx k _ _ a6),nd,trivial⟩ ?_
 obtain ⟨c,a7,e⟩:=Zh e
 obtain ⟨b4,e⟩:=Zn e
 refine Wos [(1,.call [108] (.tup []) [.arr 2 (c.map Za)] [])] [(0,ar 108 i.length)] [(108,.arr 2 (c.map Za))] [SM μ 103 [ar 0 i.length,.val false [.pv (.fn 104)]] [.arr 2 (i.map Za)] (.tup []) [.arr 2 (c.map Za)],([108]:List Nat).Nodup] ⟨(Zqy k _ _ a7 (n0:=i.length) zt),nd,trivial⟩ ?_
 refine Ws [(0,.obj 103)] [(0,ar 108 i.length),(3,ar 103 0)] [(103,.arr 2 (([]:List Zb).map Za)),(108,.arr 2 (c.map Za))] ?_
 refine WA.seq ?_
 refine WA.seq ?_
 refine Wm ((i.length:Nat):Int) (c.length:Int) (fun m_=>([(3,ar 103 0),(11,ar 108 i.length),(12,oi m_),(13,oi 0)],[(103,.arr 2 (([]:List Zb).map Za)),(108,.arr 2 (c.map Za))],[])) ((by first | (simp only [zl,Zi];done) | (simp only [zl,Zi];omega) | omega)) [] trivial ?_
 refine WA.freeze 108 11 (s:=2) (n:=i.length) (els:=(c.map Za)) rfl rfl zt ?_
 refine Wk [(3,ar 103 0),(11,one (.sl (c.map Za))),(12,oi (c.length:Int)),(13,oi 0)] [(103,.arr 2 (([]:List Zb).map Za))] ?_
 refine WA.block ?_
 refine WA.loop (fun m s_=>∃(a:List Zb) (d:Nat) (f:Int),J s_ [(3,ar 103 d),(11,one (.sl (c.map Za))),(12,oi (c.length:Int)),(13,oi f)] [(103,.arr 2 (a.map Za))]∧d=(a:List _).length∧Zcc c m a f=some r) k ⟨([]:List Zb),0,0,jk,zt,e⟩ ?_
 clear e
 rintro m4 s_ ⟨a,d,f,y,b2,e⟩
 refine Wj y ?_
 clear y
 cases m4 with
 | zero=>cases e
 | succ m4=>
  obtain ⟨v,z⟩:∃g,g=Zcc c m4:=⟨_,rfl⟩
  have e:ZcM v c a f=some r:=by first | (rw [z];exact e) | exact e
  refine Ws [] [(3,ar 103 d),(11,one (.sl (c.map Za))),(12,oi (c.length:Int)),(13,oi f),(14,ob (decide (f<(c.length:Int))))] [(103,.arr 2 (a.map Za))] ?_
  refine WA.seq ?_
  refine WA.cond (b:=(decide (f<(c.length:Int)))) rfl (fun t=>?_) (fun t=>?_)
  {
 have e:=Zk e t
 refine WA.skip ?_
 refine WA.join (fun s_=>∃(l:List Zb) (o:Nat),J s_ [(3,ar 103 o),(11,one (.sl (c.map Za))),(12,oi (c.length:Int)),(13,oi f)] [(103,.arr 2 (l.map Za))]∧o=(l:List _).length∧Ze2 v f l=some r) ?_ ?_
 {
 rintro s_ ⟨l,o,y,b3,e⟩
 refine Wj y ?_
 clear y
 refine Wr [] [(3,ar 103 o),(11,one (.sl (c.map Za))),(12,oi (c.length:Int)),(13,oi (w64 (f+1)))] [(103,.arr 2 (l.map Za))] ?_
 exact ⟨m4,zl_ _,l,o,(w64 (f+1)),jk,zt,by rw [z] at e;exact e⟩ }
 {
 refine WA.block ?_
 obtain ⟨h,a8,e⟩:=Zh e
 refine Wos [(0,.cells (Za h)),(2,.obj 105)] [(3,ar 103 d),(5,pt 105),(11,one (.sl (c.map Za))),(12,oi (c.length:Int)),(13,oi f)] [(103,.arr 2 (a.map Za)),(105,bx (Za h))] [idxL (c.map Za) f=some (Za h)] ⟨(Zs _ a8),trivial⟩ ?_
 refine WA.seq ?_
 refine Wm ((d:Nat):Int) (a.length:Int) (fun m_=>([(3,ar 103 d),(5,pt 105),(6,oi m_),(11,one (.sl (c.map Za))),(12,oi (c.length:Int)),(13,oi f)],[(103,.arr 2 (a.map Za)),(105,bx (Za h))],[])) ((by first | (simp only [zl,Zi];done) | (simp only [zl,Zi];omega) | omega)) [] trivial ?_
 refine WA.join (fun s_=>∃(w:Bool),J s_ [(3,ar 103 d),(5,pt 105),(6,oi (a.length:Int)),(11,one (.sl (c.map Za))),(12,oi (c.length:Int)),(13,oi f),(32,ob w)] [(103,.arr 2 (a.map Za)),(105,bx (Za h))]∧Zf8 v a f h w=some r) ?_ ?_
 {
 rintro s_ ⟨w,y,e⟩
 refine Wj y ?_
 clear y
 refine WA.cond (b:=w) rfl (fun u=>?_) (fun u=>?_)
 {
 have e:=Zk e u
 obtain ⟨a3,e⟩:=Zn e
 obtain ⟨p,b0,e⟩:=Zh e
 obtain ⟨a5,e⟩:=Zn e
 obtain ⟨q,b1,e⟩:=Zh e
 have z0:(w64 ((a.length:Int)-1))<((d:Nat):Int):=(by have h_:=a3.2;(try simp only [zl,Zi] at h_ ⊢);omega)
 refine Wdm (((a.map Za).set (Int.toNat (w64 ((a.length:Int)-1))) (Za ({ q with f_Hi:=(mx p.f_Hi h.f_Hi) }:Zb))):(List (List PV))) ((a.set (Int.toNat (w64 ((a.length:Int)-1))) ({ q with f_Hi:=(mx p.f_Hi h.f_Hi) }:Zb)).map Za) (fun m_=>([(3,ar 103 d),(11,one (.sl (c.map Za))),(12,oi (c.length:Int)),(13,oi f)],[(103,.arr 2 m_)],[d=(a.map Za).length,(0:Int)≤(w64 ((a.length:Int)-1)),(w64 ((a.length:Int)-1))<((d:Nat):Int),d=(a.map Za).length,0<d,d=(a.map Za).length,(a.map Za)[Int.toNat (w64 ((a.length:Int)-1))]?=some (Za p),d=(a.map Za).length,(0:Int)≤(w64 ((a.length:Int)-1)),(w64 ((a.length:Int)-1))<((d:Nat):Int),d=(a.map Za).length,0<d,d=(a.map Za).length,(a.map Za)[Int.toNat (w64 ((a.length:Int)-1))]?=some (Za q)])) (zm) [(8,.cells (Za p)),(14,.cells (Za q))] ⟨zt,a3.1,z0,zt,(by omega),zt,(Zr (Zs _ b0)),zt,a5.1,z0,zt,(by omega),zt,(Zr (Zs _ b1)),trivial⟩ ?_
 exact ⟨(a.set (Int.toNat (w64 ((a.length:Int)-1))) ({ q with f_Hi:=(mx p.f_Hi h.f_Hi) }:Zb)),d,jk,zt,e⟩ }
 {
 have e:=Zj e u
 obtain ⟨a4,e⟩:=Zn e
 refine Wm (((a.map Za) ++ (([h]:List Zb).map Za)):(List (List PV))) ((a ++ ([h]:List Zb)).map Za) (fun m_=>([(3,ar 103 (d+1)),(11,one (.sl (c.map Za))),(12,oi (c.length:Int)),(13,oi f)],[(103,.arr 2 m_)],[d=(a.map Za).length,(a.map Za).length+(([h]:List Zb).map Za).length≤1073741824,∀es,es∈(([h]:List Zb).map Za)→es.length=2])) (zm) [] ⟨zt,(by first | exact a4 | (simp only [List.length_map,Zi];exact a4)),(ZT ([h]:List Zb)),trivial⟩ ?_
 exact ⟨(a ++ ([h]:List Zb)),(d+1),jk,zt,e⟩ } }
 {
 rcases zo_ (decide ((a.length:Int) > 0)) with j | j
 {
 have e:=Zk e j
 obtain ⟨a2,e⟩:=Zn e
 obtain ⟨x,a9,e⟩:=Zh e
 refine Wd [(2,.bool true),(10,.cells (Za x))] [(3,ar 103 d),(5,pt 105),(6,oi (a.length:Int)),(11,one (.sl (c.map Za))),(12,oi (c.length:Int)),(13,oi f),(32,ob (decide (h.f_Lo≤(w64 (x.f_Hi+1)))))] [(103,.arr 2 (a.map Za)),(105,bx (Za h))] [(decide ((a.length:Int) > 0))=true,d=(a.map Za).length,(0:Int)≤(w64 ((a.length:Int)-1)),(w64 ((a.length:Int)-1))<((d:Nat):Int),d=(a.map Za).length,0<d,d=(a.map Za).length,(a.map Za)[Int.toNat (w64 ((a.length:Int)-1))]?=some (Za x)] ⟨j,zt,a2.1,(by have h_:=a2.2;(try simp only [zl,Zi] at h_ ⊢);omega),zt,(by omega),zt,(Zr (Zs _ a9)),trivial⟩ ?_
 exact ⟨(decide (h.f_Lo≤(w64 (x.f_Hi+1)))),jk,e⟩ }
 {
 have e:=Zj e j
 refine Wd [(2,.bool false)] [(3,ar 103 d),(5,pt 105),(6,oi (a.length:Int)),(11,one (.sl (c.map Za))),(12,oi (c.length:Int)),(13,oi f),(32,ob false)] [(103,.arr 2 (a.map Za)),(105,bx (Za h))] [(decide ((a.length:Int) > 0))=false] ⟨j,trivial⟩ ?_
 exact ⟨false,jk,e⟩ } } } }
  {
 have e:=Zj e t
 refine WA.exit ?_
 refine Ws [] [(2,ar 103 d)] [(103,.arr 2 (a.map Za))] ?_
 refine WA.freeze 103 2 (s:=2) (n:=d) (els:=(a.map Za)) rfl rfl zt ?_
 refine Wk [(2,one (.sl (a.map Za)))] [] ?_
 refine WA.ret ?_
 obtain rfl:=zj_ e
 exact Zo (one (.sl (a.map Za))) [] kr kr kr kr nd rfl rfl }
def Zhj (a:(List Zb)→Int→Option (List Zb)) (b:Int) (c:List Zb):Option (List Zb):=
  a c (w64 (b+1))
def Zdn (self8:(List Zb)→Int→Option (List Zb)) (e:(List Zb)→Int→Option (List Zb)) (v1:List Zb) (v158:Int) (a:Zb) (c:List Zb) (d:Int):Option (List Zb):=
  (cond (decide (d<(v1.length:Int))) ((idxL v1 d).bind fun b=>(((cond (decide ((mx a.f_Lo b.f_Lo)≤(mn a.f_Hi b.f_Hi))) (if c.length+([(⟨(mx a.f_Lo b.f_Lo),(mn a.f_Hi b.f_Hi)⟩:Zb)]:List Zb).length≤1073741824 then (Zhj e d (c ++ ([(⟨(mx a.f_Lo b.f_Lo),(mn a.f_Hi b.f_Hi)⟩:Zb)]:List Zb))) else none) ((Zhj e d c)))))) ((self8 c (w64 (v158+1)))))
def Zcu (self8:(List Zb)→Int→Option (List Zb)) (v1:List Zb) (v158:Int) (a:Zb):Nat→(List Zb)→Int→Option (List Zb)
  | 0,_,_=>none
  | d+1,b,c=>Zdn self8 (Zcu self8 v1 v158 a d) v1 v158 a b c
def Ze1 (k:Nat) (self8:(List Zb)→Int→Option (List Zb)) (v0:List Zb) (v1:List Zb) (a:List Zb) (v158:Int):Option (List Zb):=
  (cond (decide (v158<(v0.length:Int))) ((idxL v0 v158).bind fun b=>((Zcu self8 v1 v158 b k a 0))) ((F77 k a).bind fun c=>(some c)))
def Zcb (k:Nat) (v0:List Zb) (v1:List Zb):Nat→(List Zb)→Int→Option (List Zb)
  | 0,_,_=>none
  | b+1,a,v158=>Ze1 k (Zcb k v0 v1 b) v0 v1 a v158
def F76 (k:Nat) (v0:List Zb) (v1:List Zb):Option (List Zb):=
  (((Zcb k v0 v1 k ([]:List Zb) 0)))
theorem Zlw (k:Nat) (v0:List Zb) (v1:List Zb) (r:List Zb) (d:F76 k v0 v1=some r):SM μ 76 [one (.sl (v0.map Za)),one (.sl (v1.map Za))] [] (one (.sl (r.map Za))) []:=by
 refine Zz [] Tryz.func76 rfl kr kr ?_
 show WA _ _ 47 _ _ _
 refine Ws [] [(0,one (.sl (v0.map Za))),(1,one (.sl (v1.map Za)))] [] ?_
 refine Ws [(0,.obj 105)] [(0,one (.sl (v0.map Za))),(1,one (.sl (v1.map Za))),(5,ar 105 0)] [(105,.arr 2 (([]:List Zb).map Za))] ?_
 refine WA.seq ?_
 refine WA.seq ?_
 refine Wm ((v0.map Za).length:Int) (v0.length:Int) (fun m_=>([(1,one (.sl (v1.map Za))),(5,ar 105 0),(12,one (.sl (v0.map Za))),(13,oi m_),(14,oi 0)],[(105,.arr 2 (([]:List Zb).map Za))],[])) ((by first | (simp only [zl,Zi];done) | (simp only [zl,Zi];omega) | omega)) [] trivial ?_
 refine WA.block ?_
 refine WA.loop (fun m y=>∃(i:List Zb) (j:Nat) (v158:Int),J y [(1,one (.sl (v1.map Za))),(5,ar 105 j),(12,one (.sl (v0.map Za))),(13,oi (v0.length:Int)),(14,oi v158)] [(105,.arr 2 (i.map Za))]∧j=(i:List _).length∧Zcb k v0 v1 m i v158=some r) k ⟨([]:List Zb),0,0,jk,zt,d⟩ ?_
 clear d
 rintro m8 y ⟨i,j,v158,w,a5,d⟩
 refine Wj w ?_
 clear w
 cases m8 with
 | zero=>cases d
 | succ m8=>
  obtain ⟨self8,x⟩:∃g,g=Zcb k v0 v1 m8:=⟨_,rfl⟩
  have d:Ze1 k self8 v0 v1 i v158=some r:=by first | (rw [x];exact d) | exact d
  refine Ws [] [(1,one (.sl (v1.map Za))),(5,ar 105 j),(12,one (.sl (v0.map Za))),(13,oi (v0.length:Int)),(14,oi v158),(15,ob (decide (v158<(v0.length:Int))))] [(105,.arr 2 (i.map Za))] ?_
  refine WA.seq ?_
  refine WA.cond (b:=(decide (v158<(v0.length:Int)))) rfl (fun q=>?_) (fun q=>?_)
  {
 have d:=Zk d q
 refine WA.skip ?_
 refine WA.seq ?_
 refine WA.block ?_
 obtain ⟨a,a2,d⟩:=Zh d
 refine Wos [(0,.cells (Za a)),(2,.obj 107)] [(1,one (.sl (v1.map Za))),(5,ar 105 j),(7,pt 107),(12,one (.sl (v0.map Za))),(13,oi (v0.length:Int)),(14,oi v158)] [(105,.arr 2 (i.map Za)),(107,bx (Za a))] [idxL (v0.map Za) v158=some (Za a)] ⟨(Zs _ a2),trivial⟩ ?_
 refine WA.seq ?_
 refine Wm ((v1.map Za).length:Int) (v1.length:Int) (fun m_=>([(1,one (.sl (v1.map Za))),(5,ar 105 j),(7,pt 107),(12,one (.sl (v0.map Za))),(13,oi (v0.length:Int)),(14,oi v158),(18,one (.sl (v1.map Za))),(19,oi m_),(20,oi 0)],[(105,.arr 2 (i.map Za)),(107,bx (Za a))],[])) ((by first | (simp only [zl,Zi];done) | (simp only [zl,Zi];omega) | omega)) [] trivial ?_
 refine WA.block ?_
 refine WA.loop (fun m y=>∃(e:List Zb) (h:Nat) (f:Int),J y [(1,one (.sl (v1.map Za))),(5,ar 105 h),(7,pt 107),(12,one (.sl (v0.map Za))),(13,oi (v0.length:Int)),(14,oi v158),(18,one (.sl (v1.map Za))),(19,oi (v1.length:Int)),(20,oi f)] [(105,.arr 2 (e.map Za)),(107,bx (Za a))]∧h=(e:List _).length∧Zcu self8 v1 v158 a m e f=some r) k ⟨i,j,0,jk,zt,d⟩ ?_
 clear d
 rintro m11 y ⟨e,h,f,w,a6,d⟩
 refine Wj w ?_
 clear w
 cases m11 with
 | zero=>cases d
 | succ m11=>
  obtain ⟨z,p⟩:∃g,g=Zcu self8 v1 v158 a m11:=⟨_,rfl⟩
  have d:Zdn self8 z v1 v158 a e f=some r:=by first | (rw [p];exact d) | exact d
  refine Ws [] [(1,one (.sl (v1.map Za))),(5,ar 105 h),(7,pt 107),(12,one (.sl (v0.map Za))),(13,oi (v0.length:Int)),(14,oi v158),(18,one (.sl (v1.map Za))),(19,oi (v1.length:Int)),(20,oi f),(21,ob (decide (f<(v1.length:Int))))] [(105,.arr 2 (e.map Za)),(107,bx (Za a))] ?_
  refine WA.seq ?_
  refine WA.cond (b:=(decide (f<(v1.length:Int)))) rfl (fun t=>?_) (fun t=>?_)
  {
 have d:=Zk d t
 refine WA.skip ?_
 refine WA.join (fun y=>∃(l:List Zb) (o:Nat),J y [(1,one (.sl (v1.map Za))),(5,ar 105 o),(7,pt 107),(12,one (.sl (v0.map Za))),(13,oi (v0.length:Int)),(14,oi v158),(18,one (.sl (v1.map Za))),(19,oi (v1.length:Int)),(20,oi f)] [(105,.arr 2 (l.map Za)),(107,bx (Za a))]∧o=(l:List _).length∧Zhj z f l=some r) ?_ ?_
 {
 rintro y ⟨l,o,w,a7,d⟩
 refine Wj w ?_
 clear w
 refine Wr [] [(1,one (.sl (v1.map Za))),(5,ar 105 o),(7,pt 107),(12,one (.sl (v0.map Za))),(13,oi (v0.length:Int)),(14,oi v158),(18,one (.sl (v1.map Za))),(19,oi (v1.length:Int)),(20,oi (w64 (f+1)))] [(105,.arr 2 (l.map Za)),(107,bx (Za a))] ?_
 exact ⟨m11,zl_ _,l,o,(w64 (f+1)),jk,zt,by rw [p] at d;exact d⟩ }
 {
 refine WA.block ?_
 obtain ⟨c,a3,d⟩:=Zh d
 refine Wos [(0,.cells (Za c)),(2,.obj 109)] [(1,one (.sl (v1.map Za))),(5,ar 105 h),(7,pt 107),(9,pt 109),(12,one (.sl (v0.map Za))),(13,oi (v0.length:Int)),(14,oi v158),(18,one (.sl (v1.map Za))),(19,oi (v1.length:Int)),(20,oi f)] [(105,.arr 2 (e.map Za)),(107,bx (Za a)),(109,bx (Za c))] [idxL (v1.map Za) f=some (Za c)] ⟨(Zs _ a3),trivial⟩ ?_
 refine WA.seq ?_
 refine Wd [] [(1,one (.sl (v1.map Za))),(5,ar 105 h),(7,pt 107),(10,oi (mx a.f_Lo c.f_Lo)),(11,oi (mn a.f_Hi c.f_Hi)),(12,one (.sl (v0.map Za))),(13,oi (v0.length:Int)),(14,oi v158),(18,one (.sl (v1.map Za))),(19,oi (v1.length:Int)),(20,oi f)] [(105,.arr 2 (e.map Za)),(107,bx (Za a))] [] trivial ?_
 refine Ws [] [(1,one (.sl (v1.map Za))),(5,ar 105 h),(7,pt 107),(10,oi (mx a.f_Lo c.f_Lo)),(11,oi (mn a.f_Hi c.f_Hi)),(12,one (.sl (v0.map Za))),(13,oi (v0.length:Int)),(14,oi v158),(18,one (.sl (v1.map Za))),(19,oi (v1.length:Int)),(20,oi f),(36,ob (decide ((mx a.f_Lo c.f_Lo)≤(mn a.f_Hi c.f_Hi))))] [(105,.arr 2 (e.map Za)),(107,bx (Za a))] ?_
 refine WA.cond (b:=(decide ((mx a.f_Lo c.f_Lo)≤(mn a.f_Hi c.f_Hi)))) rfl (fun u=>?_) (fun u=>?_)
 {
 have d:=Zk d u
 obtain ⟨a0,d⟩:=Zn d
 refine Wm (((e.map Za) ++ (([(⟨(mx a.f_Lo c.f_Lo),(mn a.f_Hi c.f_Hi)⟩:Zb)]:List Zb).map Za)):(List (List PV))) ((e ++ ([(⟨(mx a.f_Lo c.f_Lo),(mn a.f_Hi c.f_Hi)⟩:Zb)]:List Zb)).map Za) (fun m_=>([(1,one (.sl (v1.map Za))),(5,ar 105 (h+1)),(7,pt 107),(12,one (.sl (v0.map Za))),(13,oi (v0.length:Int)),(14,oi v158),(18,one (.sl (v1.map Za))),(19,oi (v1.length:Int)),(20,oi f)],[(105,.arr 2 m_),(107,bx (Za a))],[h=(e.map Za).length,(e.map Za).length+(([(⟨(mx a.f_Lo c.f_Lo),(mn a.f_Hi c.f_Hi)⟩:Zb)]:List Zb).map Za).length≤1073741824,∀es,es∈(([(⟨(mx a.f_Lo c.f_Lo),(mn a.f_Hi c.f_Hi)⟩:Zb)]:List Zb).map Za)→es.length=2])) (zm) [] ⟨zt,(by first | exact a0 | (simp only [List.length_map,Zi];exact a0)),(ZT ([(⟨(mx a.f_Lo c.f_Lo),(mn a.f_Hi c.f_Hi)⟩:Zb)]:List Zb)),trivial⟩ ?_
 exact ⟨(e ++ ([(⟨(mx a.f_Lo c.f_Lo),(mn a.f_Hi c.f_Hi)⟩:Zb)]:List Zb)),(h+1),jk,zt,d⟩ }
 {
 have d:=Zj d u
 refine WA.skip ?_
 exact ⟨e,h,jk,zt,d⟩ } } }
  {
 have d:=Zj d t
 refine WA.exit ?_
 refine Wr [] [(1,one (.sl (v1.map Za))),(5,ar 105 h),(12,one (.sl (v0.map Za))),(13,oi (v0.length:Int)),(14,oi (w64 (v158+1)))] [(105,.arr 2 (e.map Za))] ?_
 exact ⟨m8,zl_ _,e,h,(w64 (v158+1)),jk,zt,by rw [x] at d;exact d⟩ } }
  {
 have d:=Zj d q
 refine WA.exit ?_
 refine WA.seq ?_
 refine WA.freeze 105 5 (s:=2) (n:=j) (els:=(i.map Za)) rfl rfl zt ?_
 refine Wk [(5,one (.sl (i.map Za)))] [] ?_
 obtain ⟨v,a4,d⟩:=Zh d
 refine Wo [(1,.callR [] (one (.sl (v.map Za))))] [(4,one (.sl (v.map Za)))] [] [SM μ 77 [one (.sl (i.map Za))] [] (one (.sl (v.map Za))) [],([]:List Nat).Nodup] ⟨(ZiP k _ _ a4),nd,trivial⟩ ?_
 refine WA.ret ?_
 obtain rfl:=zj_ d
 exact Zo (one (.sl (v.map Za))) [] kr kr kr kr nd rfl rfl }
def ZgO (a:(List Zb)→Int→Int→Option (List Zb)) (b:Int) (d:Zb) (c:List Zb):Option (List Zb):=
  (a c (w64 (d.f_Hi+1)) (w64 (b+1)))
def Zen (k:Nat) (a:List Zb):Option (List Zb):=
  (F59 k).bind fun b=>(F76 k a b).bind fun c=>(some c)
def Zc1 (k:Nat) (e:(List Zb)→Int→Int→Option (List Zb)) (f:List Zb) (a:List Zb) (b:Int) (d:Int):Option (List Zb):=
  (cond (decide (d<(f.length:Int))) ((idxL f d).bind fun c=>((cond (decide (c.f_Lo > b)) (if a.length+([(⟨b,(w64 (c.f_Lo-1))⟩:Zb)]:List Zb).length≤1073741824 then (ZgO e d c (a ++ ([(⟨b,(w64 (c.f_Lo-1))⟩:Zb)]:List Zb))) else none) ((ZgO e d c a))))) (((cond (decide (b≤1114111)) (if a.length+([(⟨b,1114111⟩:Zb)]:List Zb).length≤1073741824 then (Zen k (a ++ ([(⟨b,1114111⟩:Zb)]:List Zb))) else none) ((Zen k a))))))
def Zc2 (k:Nat) (a:List Zb):Nat→(List Zb)→Int→Int→Option (List Zb)
  | 0,_,_,_=>none
  | e+1,b,c,d=>Zc1 k (Zc2 k a e) a b c d
def F109 (k:Nat) (v0:List Zb):Option (List Zb):=
  (((F77 k v0).bind fun a=>(Zc2 k a k ([]:List Zb) 0 0)))
theorem ZmL (k:Nat) (v0:List Zb) (r:List Zb) (e:F109 k v0=some r):SM μ 109 [one (.sl (v0.map Za))] [] (one (.sl (r.map Za))) []:=by
 refine Zz [] Tryz.func109 rfl kr kr ?_
 show WA _ _ 40 _ _ _
 refine Ws [] [(0,one (.sl (v0.map Za)))] [] ?_
 refine Ws [(0,.obj 103)] [(0,one (.sl (v0.map Za))),(3,ar 103 0)] [(103,.arr 2 (([]:List Zb).map Za))] ?_
 refine Ws [] [(0,one (.sl (v0.map Za))),(3,ar 103 0),(4,oi 0)] [(103,.arr 2 (([]:List Zb).map Za))] ?_
 refine WA.seq ?_
 refine WA.seq ?_
 obtain ⟨a,a4,e⟩:=Zh e
 refine Wm ((a.map Za).length:Int) (a.length:Int) (fun m_=>([(3,ar 103 0),(4,oi 0),(8,one (.sl (a.map Za))),(9,oi m_),(10,oi 0)],[(103,.arr 2 (([]:List Zb).map Za))],[SM μ 77 [one (.sl (v0.map Za))] [] (one (.sl (a.map Za))) [],([]:List Nat).Nodup])) ((by first | (simp only [zl,Zi];done) | (simp only [zl,Zi];omega) | omega)) [(1,.callR [] (one (.sl (a.map Za))))] ⟨(ZiP k _ _ a4),nd,trivial⟩ ?_
 refine WA.block ?_
 refine WA.loop (fun m y=>∃(d:List Zb) (i:Nat) (c:Int) (h:Int),J y [(3,ar 103 i),(4,oi c),(8,one (.sl (a.map Za))),(9,oi (a.length:Int)),(10,oi h)] [(103,.arr 2 (d.map Za))]∧i=(d:List _).length∧Zc2 k a m d c h=some r) k ⟨([]:List Zb),0,0,0,jk,zt,e⟩ ?_
 clear e
 rintro m2 y ⟨d,i,c,h,w,a8,e⟩
 refine Wj w ?_
 clear w
 cases m2 with
 | zero=>cases e
 | succ m2=>
  obtain ⟨a2,x⟩:∃g,g=Zc2 k a m2:=⟨_,rfl⟩
  have e:Zc1 k a2 a d c h=some r:=by first | (rw [x];exact e) | exact e
  refine Ws [] [(3,ar 103 i),(4,oi c),(8,one (.sl (a.map Za))),(9,oi (a.length:Int)),(10,oi h),(11,ob (decide (h<(a.length:Int))))] [(103,.arr 2 (d.map Za))] ?_
  refine WA.seq ?_
  refine WA.cond (b:=(decide (h<(a.length:Int)))) rfl (fun p=>?_) (fun p=>?_)
  {
 have e:=Zk e p
 refine WA.skip ?_
 refine WA.seq ?_
 refine WA.block ?_
 obtain ⟨f,a5,e⟩:=Zh e
 refine Wos [(0,.cells (Za f)),(2,.obj 106)] [(3,ar 103 i),(4,oi c),(6,pt 106),(8,one (.sl (a.map Za))),(9,oi (a.length:Int)),(10,oi h)] [(103,.arr 2 (d.map Za)),(106,bx (Za f))] [idxL (a.map Za) h=some (Za f)] ⟨(Zs _ a5),trivial⟩ ?_
 refine WA.join (fun y=>∃(j:List Zb) (o:Nat),J y [(3,ar 103 o),(6,pt 106),(8,one (.sl (a.map Za))),(9,oi (a.length:Int)),(10,oi h)] [(103,.arr 2 (j.map Za)),(106,bx (Za f))]∧o=(j:List _).length∧ZgO a2 h f j=some r) ?_ ?_
 {
 rintro y ⟨j,o,w,a9,e⟩
 refine Wj w ?_
 clear w
 refine Wr [] [(3,ar 103 o),(4,oi (w64 (f.f_Hi+1))),(8,one (.sl (a.map Za))),(9,oi (a.length:Int)),(10,oi h)] [(103,.arr 2 (j.map Za))] ?_
 refine Wr [] [(3,ar 103 o),(4,oi (w64 (f.f_Hi+1))),(8,one (.sl (a.map Za))),(9,oi (a.length:Int)),(10,oi (w64 (h+1)))] [(103,.arr 2 (j.map Za))] ?_
 exact ⟨m2,zl_ _,j,o,(w64 (f.f_Hi+1)),(w64 (h+1)),jk,zt,by rw [x] at e;exact e⟩ }
 {
 refine Ws [] [(3,ar 103 i),(4,oi c),(6,pt 106),(8,one (.sl (a.map Za))),(9,oi (a.length:Int)),(10,oi h),(17,ob (decide (f.f_Lo > c)))] [(103,.arr 2 (d.map Za)),(106,bx (Za f))] ?_
 refine WA.cond (b:=(decide (f.f_Lo > c))) rfl (fun q=>?_) (fun q=>?_)
 {
 have e:=Zk e q
 obtain ⟨a0,e⟩:=Zn e
 refine Wm (((d.map Za) ++ (([(⟨c,(w64 (f.f_Lo-1))⟩:Zb)]:List Zb).map Za)):(List (List PV))) ((d ++ ([(⟨c,(w64 (f.f_Lo-1))⟩:Zb)]:List Zb)).map Za) (fun m_=>([(3,ar 103 (i+1)),(6,pt 106),(8,one (.sl (a.map Za))),(9,oi (a.length:Int)),(10,oi h)],[(103,.arr 2 m_),(106,bx (Za f))],[i=(d.map Za).length,(d.map Za).length+(([(⟨c,(w64 (f.f_Lo-1))⟩:Zb)]:List Zb).map Za).length≤1073741824,∀es,es∈(([(⟨c,(w64 (f.f_Lo-1))⟩:Zb)]:List Zb).map Za)→es.length=2])) (zm) [] ⟨zt,(by first | exact a0 | (simp only [List.length_map,Zi];exact a0)),(ZT ([(⟨c,(w64 (f.f_Lo-1))⟩:Zb)]:List Zb)),trivial⟩ ?_
 exact ⟨(d ++ ([(⟨c,(w64 (f.f_Lo-1))⟩:Zb)]:List Zb)),(i+1),jk,zt,e⟩ }
 {
 have e:=Zj e q
 refine WA.skip ?_
 exact ⟨d,i,jk,zt,e⟩ } } }
  {
 have e:=Zj e p
 refine WA.exit ?_
 refine WA.join (fun y=>∃(l:List Zb) (u:Nat),J y [(3,ar 103 u)] [(103,.arr 2 (l.map Za))]∧u=(l:List _).length∧Zen k l=some r) ?_ ?_
 {
 rintro y ⟨l,u,w,b0,e⟩
 refine Wj w ?_
 clear w
 refine WA.seq ?_
 refine WA.freeze 103 3 (s:=2) (n:=u) (els:=(l.map Za)) rfl rfl zt ?_
 refine Wk [(3,one (.sl (l.map Za)))] [] ?_
 obtain ⟨z,a6,e⟩:=Zh e
 obtain ⟨v,a7,e⟩:=Zh e
 refine Wo [(1,.callR [] (one (.sl (z.map Za)))),(2,.callR [] (one (.sl (v.map Za))))] [(2,one (.sl (v.map Za)))] [] [SM μ 59 [] [] (one (.sl (z.map Za))) [],([]:List Nat).Nodup,SM μ 76 [one (.sl (l.map Za)),one (.sl (z.map Za))] [] (one (.sl (v.map Za))) [],([]:List Nat).Nodup] ⟨(ZeT k _ a6),nd,(Zlw k _ _ _ a7),nd,trivial⟩ ?_
 refine WA.ret ?_
 obtain rfl:=zj_ e
 exact Zo (one (.sl (v.map Za))) [] kr kr kr kr nd rfl rfl }
 {
 refine Ws [] [(3,ar 103 i),(4,oi c),(31,ob (decide (c≤1114111)))] [(103,.arr 2 (d.map Za))] ?_
 refine WA.cond (b:=(decide (c≤1114111))) rfl (fun t=>?_) (fun t=>?_)
 {
 have e:=Zk e t
 obtain ⟨a1,e⟩:=Zn e
 refine Wm (((d.map Za) ++ (([(⟨c,1114111⟩:Zb)]:List Zb).map Za)):(List (List PV))) ((d ++ ([(⟨c,1114111⟩:Zb)]:List Zb)).map Za) (fun m_=>([(3,ar 103 (i+1))],[(103,.arr 2 m_)],[i=(d.map Za).length,(d.map Za).length+(([(⟨c,1114111⟩:Zb)]:List Zb).map Za).length≤1073741824,∀es,es∈(([(⟨c,1114111⟩:Zb)]:List Zb).map Za)→es.length=2])) (zm) [] ⟨zt,(by first | exact a1 | (simp only [List.length_map,Zi];exact a1)),(ZT ([(⟨c,1114111⟩:Zb)]:List Zb)),trivial⟩ ?_
 exact ⟨(d ++ ([(⟨c,1114111⟩:Zb)]:List Zb)),(i+1),jk,zt,e⟩ }
 {
 have e:=Zj e t
 refine WA.skip ?_
 exact ⟨d,i,jk,zt,e⟩ } } }
def Zf3 (a:Bool):Option Bool:=
  some a
def Zf4 (a:Bool):Option Bool:=
  some a
def Zf5 (a:Bool):Option Bool:=
  some a
def Zb9 (a:Bool):Option Bool:=
  some a
def Zbu (k:Nat) (v0:Zd) (a:Bool):Option Bool:=
  ((cond (v0.f_Kind == 1) (cond a (cond ((v0.f_L.length:Int) == 0) ((F77 k v0.f_Set).bind fun b=>(F59 k).bind fun c=>(F76 k b c).bind fun d=>(F75 k d v0.f_Set).bind fun e=>(Zf3 e)) ((Zf3 false))) ((Zf3 false))) ((cond (v0.f_Kind == 2) (cond a (cond ((v0.f_L.length:Int) != 1) ((Zf4 ((v0.f_Set.length:Int) == 0))) ((Zf4 false))) ((Zf4 false))) ((cond (v0.f_Kind == 3) (cond a (cond (decide ((v0.f_L.length:Int) > 1)) ((Zf5 ((v0.f_Set.length:Int) == 0))) ((Zf5 false))) ((Zf5 false))) ((cond (v0.f_Kind == 4) (cond ((v0.f_L.length:Int) == 1) (cond ((v0.f_Set.length:Int) == 0) (cond (decide (v0.f_Min≥0)) (cond (decide (v0.f_Min≤20)) (cond (decide (v0.f_Max≤20)) (cond (v0.f_Max == (-1)) ((Zb9 true)) ((Zb9 (decide (v0.f_Max≥v0.f_Min))))) ((Zb9 false))) ((Zb9 false))) ((Zb9 false))) ((Zb9 false))) ((Zb9 false))) (((some false)))))))))))
def ZeQ (R52:Zd→Int→Option Bool) (k:Nat) (b:Int→Option Bool) (v0:Zd) (v1:Int) (a:Int):Option Bool:=
  (cond (decide (a<(v0.f_L.length:Int))) ((idxL v0.f_L a).bind fun c=>(R52 c (w64 (v1-1))).bind fun d=>(cond (!d) ((some false)) ((b (w64 (a+1)))))) ((cond (v0.f_Min == 0) ((Zbu k v0 (v0.f_Max == 0))) ((Zbu k v0 false)))))
def ZeR (R52:Zd→Int→Option Bool) (k:Nat) (v0:Zd) (v1:Int):Nat→Int→Option Bool
  | 0,_=>none
  | b+1,a=>ZeQ R52 k (ZeR R52 k v0 v1 b) v0 v1 a
def Zk4 (R52:Zd→Int→Option Bool) (k:Nat) (v0:Zd) (v1:Int):Option Bool:=
  ((cond (v1 == 0) ((some false)) (((ZeR R52 k v0 v1 k 0)))))
theorem Zpt (R52:Zd→Int→Option Bool) (IH52:∀(v0:Zd) (v1:Int) (r:Bool),R52 v0 v1=some r→SM μ 52 [tv (Zc v0),oi v1] [] (ob r) []) (k:Nat) (v0:Zd) (v1:Int) (r:Bool) (a:Zk4 R52 k v0 v1=some r):SM μ 52 [tv (Zc v0),oi v1] [] (ob r) []:=by
 refine Zz [] Tryz.func52 rfl kr kr ?_
 show WA _ _ 121 _ _ _
 refine Ws [(0,.obj 102)] [(1,oi v1),(2,pt 102)] [(102,bx (Zc v0))] ?_
 refine WA.seq ?_
 refine Ws [] [(1,oi v1),(2,pt 102),(9,ob (v1 == 0))] [(102,bx (Zc v0))] ?_
 refine WA.cond (b:=(v1 == 0)) rfl (fun y=>?_) (fun y=>?_)
 {
 have a:=Zk a y
 refine Ws [] [(4,ob false)] [] ?_
 refine WA.ret ?_
 obtain rfl:=zj_ a
 exact Zo (ob false) [] kr kr kr kr nd rfl rfl }
 {
 have a:=Zj a y
 refine WA.skip ?_
 refine WA.seq ?_
 refine WA.seq ?_
 refine Wm ((Zm v0.f_L).length:Int) (v0.f_L.length:Int) (fun d=>([(1,oi v1),(2,pt 102),(11,one (.sl (Zm v0.f_L))),(12,oi d),(13,oi 0)],[(102,bx (Zc v0))],[])) ((by first | (simp only [zl,Zi];done) | (simp only [zl,Zi];omega) | omega)) [] trivial ?_
 refine WA.block ?_
 refine WA.loop (fun m n=>∃(f:Int),J n [(1,oi v1),(2,pt 102),(11,one (.sl (Zm v0.f_L))),(12,oi (v0.f_L.length:Int)),(13,oi f)] [(102,bx (Zc v0))]∧ZeR R52 k v0 v1 m f=some r) k ⟨0,jk,a⟩ ?_
 clear a
 rintro m0 n ⟨f,l,a⟩
 refine Wj l ?_
 clear l
 cases m0 with
 | zero=>cases a
 | succ m0=>
  obtain ⟨c2,b2⟩:∃g,g=ZeR R52 k v0 v1 m0:=⟨_,rfl⟩
  have a:ZeQ R52 k c2 v0 v1 f=some r:=by first | (rw [b2];exact a) | exact a
  refine Ws [] [(1,oi v1),(2,pt 102),(11,one (.sl (Zm v0.f_L))),(12,oi (v0.f_L.length:Int)),(13,oi f),(14,ob (decide (f<(v0.f_L.length:Int))))] [(102,bx (Zc v0))] ?_
  refine WA.seq ?_
  refine WA.cond (b:=(decide (f<(v0.f_L.length:Int)))) rfl (fun z=>?_) (fun z=>?_)
  {
 have a:=Zk a z
 refine WA.skip ?_
 refine WA.seq ?_
 refine WA.block ?_
 obtain ⟨a9,b6,a⟩:=Zh a
 refine Wos [(0,.cells (Zc a9)),(2,.obj 106)] [(1,oi v1),(2,pt 102),(6,pt 106),(11,one (.sl (Zm v0.f_L))),(12,oi (v0.f_L.length:Int)),(13,oi f)] [(102,bx (Zc v0)),(106,bx (Zc a9))] [idxL (Zm v0.f_L) f=some (Zc a9)] ⟨(ZO b6),trivial⟩ ?_
 obtain ⟨b0,b7,a⟩:=Zh a
 refine Wos [(3,.callR [] (ob b0))] [(1,oi v1),(2,pt 102),(11,one (.sl (Zm v0.f_L))),(12,oi (v0.f_L.length:Int)),(13,oi f),(21,ob (!b0))] [(102,bx (Zc v0))] [SM μ 52 [tv (Zc a9),oi (w64 (v1-1))] [] (ob b0) [],([]:List Nat).Nodup] ⟨(IH52 _ _ _ b7),nd,trivial⟩ ?_
 refine WA.cond (b:=(!b0)) rfl (fun a0=>?_) (fun a0=>?_)
 {
 have a:=Zk a a0
 refine Ws [] [(4,ob false)] [] ?_
 refine WA.ret ?_
 obtain rfl:=zj_ a
 exact Zo (ob false) [] kr kr kr kr nd rfl rfl }
 {
 have a:=Zj a a0
 refine WA.skip ?_
 refine Wr [] [(1,oi v1),(2,pt 102),(11,one (.sl (Zm v0.f_L))),(12,oi (v0.f_L.length:Int)),(13,oi (w64 (f+1)))] [(102,bx (Zc v0))] ?_
 exact ⟨m0,zl_ _,(w64 (f+1)),jk,by rw [b2] at a;exact a⟩ } }
  {
 have a:=Zj a z
 refine WA.exit ?_
 refine WA.join (fun n=>∃(c:Bool),J n [(2,pt 102),(7,ob c)] [(102,bx (Zc v0))]∧Zbu k v0 c=some r) ?_ ?_
 {
 rintro n ⟨c,l,a⟩
 refine Wj l ?_
 clear l
 refine WA.seq ?_
 refine Ws [] [(2,pt 102),(7,ob c),(32,oi v0.f_Kind)] [(102,bx (Zc v0))] ?_
 refine WA.block ?_
 refine Ws [] [(2,pt 102),(7,ob c),(32,oi v0.f_Kind),(33,ob (v0.f_Kind == 1))] [(102,bx (Zc v0))] ?_
 refine WA.cond (b:=(v0.f_Kind == 1)) rfl (fun a1=>?_) (fun a1=>?_)
 {
 have a:=Zk a a1
 refine WA.join (fun n=>∃(a5:Bool),J n [(4,ob a5)] []∧Zf3 a5=some r) ?_ ?_
 {
 rintro n ⟨a5,l,a⟩
 refine Wj l ?_
 clear l
 refine WA.ret ?_
 obtain rfl:=zj_ a
 exact Zo (ob a5) [] kr kr kr kr nd rfl rfl }
 {
 rcases zo_ c with o | o
 {
 have a:=Zk a o
 rcases zo_ ((v0.f_L.length:Int) == 0) with u | u
 {
 have a:=Zk a u
 obtain ⟨b3,b8,a⟩:=Zh a
 obtain ⟨b4,b9,a⟩:=Zh a
 obtain ⟨b5,c0,a⟩:=Zh a
 obtain ⟨b1,c1,a⟩:=Zh a
 refine Wdm ((Zm v0.f_L).length:Int) (v0.f_L.length:Int) (fun d=>([(4,ob b1)],[],[c=true,(d == 0)=true,SM μ 77 [one (.sl (v0.f_Set.map Za))] [] (one (.sl (b3.map Za))) [],([]:List Nat).Nodup,SM μ 59 [] [] (one (.sl (b4.map Za))) [],([]:List Nat).Nodup,SM μ 76 [one (.sl (b3.map Za)),one (.sl (b4.map Za))] [] (one (.sl (b5.map Za))) [],([]:List Nat).Nodup,SM μ 75 [one (.sl (b5.map Za)),one (.sl (v0.f_Set.map Za))] [] (ob b1) [],([]:List Nat).Nodup])) ((by first | (simp only [zl,Zi];done) | (simp only [zl,Zi];omega) | omega)) [(1,.bool true),(7,.bool true),(10,.callR [] (one (.sl (b3.map Za)))),(11,.callR [] (one (.sl (b4.map Za)))),(12,.callR [] (one (.sl (b5.map Za)))),(15,.callR [] (ob b1))] ⟨o,u,(ZiP k _ _ b8),nd,(ZeT k _ b9),nd,(Zlw k _ _ _ c0),nd,(ZrH k _ _ _ c1),nd,trivial⟩ ?_
 exact ⟨b1,jk,a⟩ }
 {
 have a:=Zj a u
 refine Wdm ((Zm v0.f_L).length:Int) (v0.f_L.length:Int) (fun d=>([(4,ob false)],[],[c=true,(d == 0)=false])) ((by first | (simp only [zl,Zi];done) | (simp only [zl,Zi];omega) | omega)) [(1,.bool true),(7,.bool false),(10,.callR [] (.tup [])),(11,.callR [] (.tup [])),(12,.callR [] (.tup [])),(15,.callR [] (.tup []))] ⟨o,u,trivial⟩ ?_
 exact ⟨false,jk,a⟩ } }
 {
 have a:=Zj a o
 refine Wd [(1,.bool false),(10,.callR [] (.tup [])),(11,.callR [] (.tup [])),(12,.callR [] (.tup [])),(15,.callR [] (.tup []))] [(4,ob false)] [] [c=false] ⟨o,trivial⟩ ?_
 exact ⟨false,jk,a⟩ } } }
 {
 have a:=Zj a a1
 refine Ws [] [(2,pt 102),(7,ob c),(32,oi v0.f_Kind),(52,ob (v0.f_Kind == 2))] [(102,bx (Zc v0))] ?_
 refine WA.cond (b:=(v0.f_Kind == 2)) rfl (fun a2=>?_) (fun a2=>?_)
 {
 have a:=Zk a a2
 refine WA.join (fun n=>∃(a6:Bool),J n [(4,ob a6)] []∧Zf4 a6=some r) ?_ ?_
 {
 rintro n ⟨a6,l,a⟩
 refine Wj l ?_
 clear l
 refine WA.ret ?_
 obtain rfl:=zj_ a
 exact Zo (ob a6) [] kr kr kr kr nd rfl rfl }
 {
 rcases zo_ c with p | p
 {
 have a:=Zk a p
 rcases zo_ ((v0.f_L.length:Int) != 1) with v | v
 {
 have a:=Zk a v
 refine Wm ((((v0.f_Set.map Za).length:Int),((Zm v0.f_L).length:Int)):Int×Int) ((v0.f_Set.length:Int),(v0.f_L.length:Int)) (fun d=>([(4,ob (d.1 == 0))],[],[c=true,(d.2 != 1)=true])) (ZJ (by first | (simp only [zl,Zi];done) | (simp only [zl,Zi];omega) | omega) (by first | (simp only [zl,Zi];done) | (simp only [zl,Zi];omega) | omega)) [(1,.bool true),(7,.bool true)] ⟨p,v,trivial⟩ ?_
 exact ⟨((v0.f_Set.length:Int) == 0),jk,a⟩ }
 {
 have a:=Zj a v
 refine Wm ((Zm v0.f_L).length:Int) (v0.f_L.length:Int) (fun d=>([(4,ob false)],[],[c=true,(d != 1)=false])) ((by first | (simp only [zl,Zi];done) | (simp only [zl,Zi];omega) | omega)) [(1,.bool true),(7,.bool false)] ⟨p,v,trivial⟩ ?_
 exact ⟨false,jk,a⟩ } }
 {
 have a:=Zj a p
 refine Wo [(1,.bool false)] [(4,ob false)] [] [c=false] ⟨p,trivial⟩ ?_
 exact ⟨false,jk,a⟩ } } }
 {
 have a:=Zj a a2
 refine Ws [] [(2,pt 102),(7,ob c),(32,oi v0.f_Kind),(67,ob (v0.f_Kind == 3))] [(102,bx (Zc v0))] ?_
 refine WA.cond (b:=(v0.f_Kind == 3)) rfl (fun a3=>?_) (fun a3=>?_)
 {
 have a:=Zk a a3
 refine WA.join (fun n=>∃(a7:Bool),J n [(4,ob a7)] []∧Zf5 a7=some r) ?_ ?_
 {
 rintro n ⟨a7,l,a⟩
 refine Wj l ?_
 clear l
 refine WA.ret ?_
 obtain rfl:=zj_ a
 exact Zo (ob a7) [] kr kr kr kr nd rfl rfl }
 {
 rcases zo_ c with q | q
 {
 have a:=Zk a q
 rcases zo_ (decide ((v0.f_L.length:Int) > 1)) with w | w
 {
 have a:=Zk a w
 refine Wm ((((v0.f_Set.map Za).length:Int),((Zm v0.f_L).length:Int)):Int×Int) ((v0.f_Set.length:Int),(v0.f_L.length:Int)) (fun d=>([(4,ob (d.1 == 0))],[],[c=true,(decide (d.2 > 1))=true])) (ZJ (by first | (simp only [zl,Zi];done) | (simp only [zl,Zi];omega) | omega) (by first | (simp only [zl,Zi];done) | (simp only [zl,Zi];omega) | omega)) [(1,.bool true),(7,.bool true)] ⟨q,w,trivial⟩ ?_
 exact ⟨((v0.f_Set.length:Int) == 0),jk,a⟩ }
 {
 have a:=Zj a w
 refine Wm ((Zm v0.f_L).length:Int) (v0.f_L.length:Int) (fun d=>([(4,ob false)],[],[c=true,(decide (d > 1))=false])) ((by first | (simp only [zl,Zi];done) | (simp only [zl,Zi];omega) | omega)) [(1,.bool true),(7,.bool false)] ⟨q,w,trivial⟩ ?_
 exact ⟨false,jk,a⟩ } }
 {
 have a:=Zj a q
 refine Wo [(1,.bool false)] [(4,ob false)] [] [c=false] ⟨q,trivial⟩ ?_
 exact ⟨false,jk,a⟩ } } }
 {
 have a:=Zj a a3
 refine Ws [] [(2,pt 102),(82,ob (v0.f_Kind == 4))] [(102,bx (Zc v0))] ?_
 refine WA.cond (b:=(v0.f_Kind == 4)) rfl (fun a4=>?_) (fun a4=>?_)
 {
 have a:=Zk a a4
 refine WA.join (fun n=>∃(a8:Bool),J n [(4,ob a8)] []∧Zb9 a8=some r) ?_ ?_
 {
 rintro n ⟨a8,l,a⟩
 refine Wj l ?_
 clear l
 refine WA.ret ?_
 obtain rfl:=zj_ a
 exact Zo (ob a8) [] kr kr kr kr nd rfl rfl }
 {
 rcases zo_ ((v0.f_L.length:Int) == 1) with e | e
 {
 have a:=Zk a e
 rcases zo_ ((v0.f_Set.length:Int) == 0) with h | h
 {
 have a:=Zk a h
 rcases zo_ (decide (v0.f_Min≥0)) with i | i
 {
 have a:=Zk a i
 rcases zo_ (decide (v0.f_Min≤20)) with j | j
 {
 have a:=Zk a j
 rcases zo_ (decide (v0.f_Max≤20)) with s | s
 {
 have a:=Zk a s
 rcases zo_ (v0.f_Max == (-1)) with x | x
 {
 have a:=Zk a x
 refine Wm ((((Zm v0.f_L).length:Int),((v0.f_Set.map Za).length:Int)):Int×Int) ((v0.f_L.length:Int),(v0.f_Set.length:Int)) (fun d=>([(4,ob true)],[],[(d.1 == 1)=true,(d.2 == 0)=true,(decide (v0.f_Min≥0))=true,(decide (v0.f_Min≤20))=true,(decide (v0.f_Max≤20))=true,(v0.f_Max == (-1))=true])) (ZJ (by first | (simp only [zl,Zi];done) | (simp only [zl,Zi];omega) | omega) (by first | (simp only [zl,Zi];done) | (simp only [zl,Zi];omega) | omega)) [(4,.bool true),(10,.bool true),(15,.bool true),(20,.bool true),(25,.bool true),(29,.bool true)] ⟨e,h,i,j,s,x,trivial⟩ ?_
 exact ⟨true,jk,a⟩ }
 {
 have a:=Zj a x
 refine Wm ((((Zm v0.f_L).length:Int),((v0.f_Set.map Za).length:Int)):Int×Int) ((v0.f_L.length:Int),(v0.f_Set.length:Int)) (fun d=>([(4,ob (decide (v0.f_Max≥v0.f_Min)))],[],[(d.1 == 1)=true,(d.2 == 0)=true,(decide (v0.f_Min≥0))=true,(decide (v0.f_Min≤20))=true,(decide (v0.f_Max≤20))=true,(v0.f_Max == (-1))=false])) (ZJ (by first | (simp only [zl,Zi];done) | (simp only [zl,Zi];omega) | omega) (by first | (simp only [zl,Zi];done) | (simp only [zl,Zi];omega) | omega)) [(4,.bool true),(10,.bool true),(15,.bool true),(20,.bool true),(25,.bool true),(29,.bool false)] ⟨e,h,i,j,s,x,trivial⟩ ?_
 exact ⟨(decide (v0.f_Max≥v0.f_Min)),jk,a⟩ } }
 {
 have a:=Zj a s
 refine Wm ((((Zm v0.f_L).length:Int),((v0.f_Set.map Za).length:Int)):Int×Int) ((v0.f_L.length:Int),(v0.f_Set.length:Int)) (fun d=>([(4,ob false)],[],[(d.1 == 1)=true,(d.2 == 0)=true,(decide (v0.f_Min≥0))=true,(decide (v0.f_Min≤20))=true,(decide (v0.f_Max≤20))=false])) (ZJ (by first | (simp only [zl,Zi];done) | (simp only [zl,Zi];omega) | omega) (by first | (simp only [zl,Zi];done) | (simp only [zl,Zi];omega) | omega)) [(4,.bool true),(10,.bool true),(15,.bool true),(20,.bool true),(25,.bool false)] ⟨e,h,i,j,s,trivial⟩ ?_
 exact ⟨false,jk,a⟩ } }
 {
 have a:=Zj a j
 refine Wm ((((Zm v0.f_L).length:Int),((v0.f_Set.map Za).length:Int)):Int×Int) ((v0.f_L.length:Int),(v0.f_Set.length:Int)) (fun d=>([(4,ob false)],[],[(d.1 == 1)=true,(d.2 == 0)=true,(decide (v0.f_Min≥0))=true,(decide (v0.f_Min≤20))=false])) (ZJ (by first | (simp only [zl,Zi];done) | (simp only [zl,Zi];omega) | omega) (by first | (simp only [zl,Zi];done) | (simp only [zl,Zi];omega) | omega)) [(4,.bool true),(10,.bool true),(15,.bool true),(20,.bool false)] ⟨e,h,i,j,trivial⟩ ?_
 exact ⟨false,jk,a⟩ } }
 {
 have a:=Zj a i
 refine Wm ((((Zm v0.f_L).length:Int),((v0.f_Set.map Za).length:Int)):Int×Int) ((v0.f_L.length:Int),(v0.f_Set.length:Int)) (fun d=>([(4,ob false)],[],[(d.1 == 1)=true,(d.2 == 0)=true,(decide (v0.f_Min≥0))=false])) (ZJ (by first | (simp only [zl,Zi];done) | (simp only [zl,Zi];omega) | omega) (by first | (simp only [zl,Zi];done) | (simp only [zl,Zi];omega) | omega)) [(4,.bool true),(10,.bool true),(15,.bool false)] ⟨e,h,i,trivial⟩ ?_
 exact ⟨false,jk,a⟩ } }
 {
 have a:=Zj a h
 refine Wm ((((Zm v0.f_L).length:Int),((v0.f_Set.map Za).length:Int)):Int×Int) ((v0.f_L.length:Int),(v0.f_Set.length:Int)) (fun d=>([(4,ob false)],[],[(d.1 == 1)=true,(d.2 == 0)=false])) (ZJ (by first | (simp only [zl,Zi];done) | (simp only [zl,Zi];omega) | omega) (by first | (simp only [zl,Zi];done) | (simp only [zl,Zi];omega) | omega)) [(4,.bool true),(10,.bool false)] ⟨e,h,trivial⟩ ?_
 exact ⟨false,jk,a⟩ } }
 {
 have a:=Zj a e
 refine Wm ((Zm v0.f_L).length:Int) (v0.f_L.length:Int) (fun d=>([(4,ob false)],[],[(d == 1)=false])) ((by first | (simp only [zl,Zi];done) | (simp only [zl,Zi];omega) | omega)) [(4,.bool false)] ⟨e,trivial⟩ ?_
 exact ⟨false,jk,a⟩ } } }
 {
 have a:=Zj a a4
 refine WA.skip ?_
 refine Ws [] [(4,ob false)] [] ?_
 refine WA.ret ?_
 obtain rfl:=zj_ a
 exact Zo (ob false) [] kr kr kr kr nd rfl rfl } } } } }
 {
 rcases zo_ (v0.f_Min == 0) with t | t
 {
 have a:=Zk a t
 refine Wo [(3,.bool true)] [(2,pt 102),(7,ob (v0.f_Max == 0))] [(102,bx (Zc v0))] [(v0.f_Min == 0)=true] ⟨t,trivial⟩ ?_
 exact ⟨(v0.f_Max == 0),jk,a⟩ }
 {
 have a:=Zj a t
 refine Wo [(3,.bool false)] [(2,pt 102),(7,ob false)] [(102,bx (Zc v0))] [(v0.f_Min == 0)=false] ⟨t,trivial⟩ ?_
 exact ⟨false,jk,a⟩ } } } }
def F52:Nat→Zd→Int→Option Bool
  | 0,_,_=>none
  | k+1,v0,v1=>Zk4 (F52 k) k v0 v1
theorem Zlp:∀(k:Nat),∀(v0:Zd) (v1:Int) (r:Bool),F52 k v0 v1=some r→SM μ 52 [tv (Zc v0),oi v1] [] (ob r) []
  | 0=>fun _ _ _ a=>by cases a
  | k+1=>fun v0 v1 r a=>Zpt (F52 k) (Zlp k) k v0 v1 r a
def Zip (a:Bool):Option Bool:=
  some a
def F30 (k:Nat) (v0:Zd):Option Bool:=
  (F52 k v0 16).bind fun a=>cond a ((F32 k v0).bind fun b=>(Zip (decide (b≤200)))) ((Zip false))
theorem Zlf (k:Nat) (v0:Zd) (r:Bool) (c:F30 k v0=some r):SM μ 30 [tv (Zc v0)] [] (ob r) []:=by
 refine Zz [] Tryz.func30 rfl kr kr ?_
 show WA _ _ 10 _ _ _
 refine Ws [(0,.obj 101)] [(1,pt 101)] [(101,bx (Zc v0))] ?_
 refine WA.join (fun i=>∃(d:Bool),J i [(2,ob d)] []∧Zip d=some r) ?_ ?_
 {
 rintro i ⟨d,h,c⟩
 refine Wj h ?_
 clear h
 refine WA.ret ?_
 obtain rfl:=zj_ c
 exact Zo (ob d) [] kr kr kr kr nd rfl rfl }
 {
 obtain ⟨a,f,c⟩:=Zh c
 rcases zo_ a with b | b
 {
 have c:=Zk c b
 obtain ⟨e,g,c⟩:=Zh c
 refine Wo [(1,.callR [] (ob a)),(2,.bool true),(4,.callR [] (oi e))] [(2,ob (decide (e≤200)))] [] [SM μ 52 [tv (Zc v0),oi 16] [] (ob a) [],([]:List Nat).Nodup,a=true,SM μ 32 [tv (Zc v0)] [] (oi e) [],([]:List Nat).Nodup] ⟨(Zlp k _ _ _ f),nd,b,(Zir k _ _ g),nd,trivial⟩ ?_
 exact ⟨(decide (e≤200)),jk,c⟩ }
 {
 have c:=Zj c b
 refine Wo [(1,.callR [] (ob a)),(2,.bool false)] [(2,ob false)] [] [SM μ 52 [tv (Zc v0),oi 16] [] (ob a) [],([]:List Nat).Nodup,a=false] ⟨(Zlp k _ _ _ f),nd,b,trivial⟩ ?_
 exact ⟨false,jk,c⟩ } }
end Go.Proofs.YthilboheomikjaaGreatDoor
end
section
namespace Go.AL
variable {P:Program} {GL:List (Nat×List PV)} {w:World} {I:Nat→Prop} {G:Nat→Option Nat}
theorem Zeb {os:Objs} {id s n:Nat} {els:List (List PV)} {v:Value} (h3:Sr GL w I G os) (ho:look os id=some (.arr s els)) (hn:n=els.length) (hx:ATr w I G (shape os) (.val false [.arr id n]) v) :
    ∃I':Nat→Prop,Sr GL w I' G (ZQ os id)∧ATr w I' G (shape (ZQ os id)) (one (.sl els)) v∧ZN Any w w I I' G G (shape os) (shape (ZQ os id))∧∀k,I' k→I k∨G id=some k:=by
  have hsub:∀k o,look (ZQ os id) k=some o→look os k=some o:=fun k o h=>by
    rw [Zap] at h;split at h
    · cases h
    · exact h
  obtain ⟨s1,k1⟩:=h3.sub hsub
  let I':Nat→Prop:=fun b=>I b∨G id=some b
  have hI':∀k,I' k→k<w.heap.size:=fun k hk=>by
    rcases hk with hk | hk
    · exact h3.lt k hk
    · obtain ⟨_,cs,E,hh,_⟩:=h3.blk id _ k ho hk
      exact (Array.getElem?_eq_some_iff.1 hh).1
  have k2:ZN Any w w I I' G G (shape (ZQ os id)) (shape (ZQ os id)):=⟨fun _ _=>rfl,fun _ h=>.inl h,fun i s m _ hs=>⟨m,hs,Nat.le_refl _,fun _=>⟨rfl,fun _ _=>Nat.le_refl _⟩⟩⟩
  have s2:Sr GL w I' G (ZQ os id):=by
    refine ⟨fun g ps hg=>?_,s1.none_,fun k o b q1 q2=>?_,s1.inj,hI',h3.ge⟩
    · obtain ⟨r1,r2⟩:=h3.gl g ps hg
      exact ⟨.inl r1,fun j p hp=>by obtain ⟨u,hu,hr⟩:=r2 j p hp;exact ⟨u,hu,hr.mono (fun _ _=>rfl) (fun _ h=>.inl h)⟩⟩
    · obtain ⟨r1,cs,E,r2,r3,r4,r5⟩:=s1.blk k o b q1 q2
      refine ⟨fun h=>?_,cs,E,r2,r3,r4,fun i es j c e1 e2=>?_⟩
      · rcases h with h | h
        · exact r1 h
        · have:=h3.inj k id o _ b (hsub k o q1) ho q2 h
          subst this
          rw [Zap,if_pos rfl] at q1;cases q1
      · obtain ⟨v,hv,hr⟩:=r5 i es j c e1 e2
        exact ⟨v,hv,hr.mono k2 (AC.refs_any c)⟩
  refine ⟨I',s2,⟨_,rfl,?_⟩,k1.trans k2,fun k hk=>hk⟩
  show PVr w I' _ _
  have hv:=(ZH hx).2 _ _ (Z6 ho)
  have hv2:=hv.2 (by simp [Obj.els,hn])
  cases hb:G id with
  | none=>
    rw [hb] at hv2
    have:=h3.none_ id _ ho hb
    simp [Obj.els] at this
    subst this
    rw [hv2];exact .sl0 _ _
  | some b=>
    rw [hb] at hv2
    obtain ⟨c,e1,e2,e3⟩:=hv2
    obtain ⟨r1,cs,E,r2,r3,r4,r5⟩:=h3.blk id _ b ho hb
    rw [e1,hn]
    have hget:∀(i:Nat) (es:List PV),els[i]?=some es→(Obj.arr s els).els[i]?=some (pvL es):=fun i es h=>by simp [Obj.els,h]
    let vals:Nat→Nat→Value:=fun i j=>(cs[i*s+j]?).getD undef
    have hvv:∀(i:Nat) (es:List PV) (j:Nat) (p:PV),els[i]?=some es→es[j]?=some p→cs[i*s+j]?=some (vals i j)∧PVr w I p (vals i j):=by
      intro i es j p q1 q2
      obtain ⟨v,hv,hr⟩:=r5 i _ j (.pv p) (hget i es q1) (by simp [pvL,q2])
      have hv':cs[i*s+j]?=some v:=hv
      refine ⟨by simp [vals,hv'],?_⟩
      have:vals i j=v:=by simp [vals,hv']
      rw [this];exact hr
    refine .sl els b 0 c s vals (.inr hb) (by omega) (fun i es q=>by have:=r4 i _ (hget i es q);rw [Zba] at this;exact this) (fun i es j p q1 q2=>?_) (fun i es j p q1 q2=>(hvv i es j p q1 q2).2.mono (fun _ _=>rfl) (fun _ h=>.inl h))
    have:=(hvv i es j p q1 q2).1
    simp only [World.cell?,r2];simpa using this
theorem Zgt {os:List Obj} {o:Obj} (k:Nat):look (ZG os) k=look (ZQ (ZG (os ++ [o])) os.length) k:=by
  rw [Zap,ZK,ZK]
  by_cases h:k=os.length
  · subst h;simp
  · rw [if_neg h]
    rcases Nat.lt_or_ge k os.length with h' | h'
    · rw [List.getElem?_append_left h']
    · rw [List.getElem?_eq_none h',List.getElem?_append_right h',List.getElem?_eq_none (by simp;omega)]
theorem ZnD {f:FuncId} {args:List AT} {os os':List Obj} {m n s:Nat} {els:List (List PV)} (hm:os'.length=m) (hm2:os.length≤m) (hn:n=els.length) (h:Sim P GL f args os (.val false [.arr m n]) (os' ++ [.arr s els])):Sim P GL f args os (one (.sl els)) os':=by
  intro w I G vs hs ha
  refine Calls.imp (h w I G vs hs ha) ?_
  rintro e w' ⟨v,I',G',rfl,e1,s1,x1,k1⟩
  subst hm
  have hl:look (ZG (os' ++ [Obj.arr s els])) os'.length=some (.arr s els):=by rw [ZK];simp
  obtain ⟨I2,s2,x2,k2,hI⟩:=Zeb s1 hl hn x1
  have hlk:=fun k=>Zgt (os:=os') (o:=.arr s els) k
  have hsh:shape (ZG os')=shape (ZQ (ZG (os' ++ [Obj.arr s els])) os'.length):=by funext k;simp only [shape,hlk]
  refine ⟨v,I2,G',rfl,⟨e1.size,e1.os,e1.tape,e1.output,e1.keep,fun k hk=>k2.imm k (e1.imm k hk),fun k hk=>?_,fun b ⟨k,o,h1,h2⟩=>?_⟩,s2.congr hlk,by rw [hsh];exact x2,?_⟩
  · rcases hI k hk with h | h
    · exact e1.inew k h
    · rcases e1.mnew k ⟨os'.length,_,hl,h⟩ with h | h
      · exact .inr (.inl h)
      · exact .inr (.inr h)
  · have h3:=hlk k
    rw [h1,Zap] at h3
    split at h3
    · cases h3
    · exact e1.mnew b ⟨k,o,h3.symm,h2⟩
  · rw [hsh];exact k1.trans (k2.weaken fun _ _=>trivial)
end Go.AL
end
section
namespace Go.AL
variable {D:List Deferred}
variable {P:Program} {GL:List (Nat×List PV)} {st:S} {w:World} {I:Nat→Prop} {G:Nat→Option Nat} {N:Nat} {F:Exit→S→Prop} {code:Code}
theorem ZdZ {os:Objs} {id k:Nat} {o:Obj} (h:look (ZQ os id) k=some o):look os k=some o:=by
  rw [Zap] at h;split at h
  · cases h
  · exact h
theorem ZnU {os:Objs} {id:Nat} {o:Obj} (h3:Sr GL w I G os) (ho:look os id=some o) :
    Sr GL w (fun b=>I b∨G id=some b) G (ZQ os id)∧ZN Any w w I (fun b=>I b∨G id=some b) G G (shape os) (shape (ZQ os id)):=by
  obtain ⟨s1,k1⟩:=h3.sub (os':=ZQ os id) fun k o h=>ZdZ h
  have k2:ZN Any w w I (fun b=>I b∨G id=some b) G G (shape (ZQ os id)) (shape (ZQ os id)):=⟨fun _ _=>rfl,fun _ h=>.inl h,fun i s m _ hs=>⟨m,hs,Nat.le_refl _,fun _=>⟨rfl,fun _ _=>Nat.le_refl _⟩⟩⟩
  refine ⟨⟨fun g ps hg=>?_,s1.none_,fun k o b q1 q2=>?_,s1.inj,fun k hk=>?_,h3.ge⟩,k1.trans k2⟩
  · obtain ⟨r1,r2⟩:=h3.gl g ps hg
    exact ⟨.inl r1,fun j p hp=>by obtain ⟨u,hu,hr⟩:=r2 j p hp;exact ⟨u,hu,hr.mono (fun _ _=>rfl) (fun _ h=>.inl h)⟩⟩
  · obtain ⟨r1,cs,E,r2,r3,r4,r5⟩:=s1.blk k o b q1 q2
    refine ⟨fun h=>?_,cs,E,r2,r3,r4,fun i es j c e1 e2=>?_⟩
    · rcases h with h | h
      · exact r1 h
      · have:=h3.inj k id o _ b (ZdZ q1) ho q2 h
        subst this
        rw [Zap,if_pos rfl] at q1;cases q1
    · obtain ⟨v,hv,hr⟩:=r5 i es j c e1 e2
      exact ⟨v,hv,hr.mono k2 (AC.refs_any c)⟩
  · rcases hk with hk | hk
    · exact h3.lt k hk
    · obtain ⟨_,cs,E,hh,_⟩:=h3.blk id _ k ho hk
      exact (Array.getElem?_eq_some_iff.1 hh).1
theorem ZlX {os:Objs} {id a s n:Nat} {els:List (List PV)} {p:PV} {v:Value} (h3:Sr GL w I G os) (hne:id≠a) (hb:look os id=some (.box [.arr a n,.pv p])) (ha:look os a=some (.arr s els)) (hn:n=els.length)
    (hx:ATr w I G (shape os) (.val false [.ptr id 1 0 0]) v) :
    ∃I':Nat→Prop,Sr GL w I' G (ZQ (ZQ os a) id)∧ATr w I' G (shape (ZQ (ZQ os a) id)) (.val false [.vp [.sl els,p]]) v∧ZN Any w w I I' G G (shape os) (shape (ZQ (ZQ os a) id))∧∀k,I' k→I k∨G id=some k∨G a=some k:=by
  have hsh:=Z6 hb
  obtain ⟨⟨A,hA⟩,hp⟩:=ZH hx
  have hp:=(hp _ _ hsh).2 rfl
  cases hG:G id with
  | none=>have:=h3.none_ id _ hb hG;simp [Obj.els] at this
  | some b=>
    have hv:=hp b hG
    obtain ⟨q1,cs,E,q2,q3,q4,q5⟩:=h3.blk id _ b hb hG
    obtain ⟨u,hu,hur⟩:=q5 0 [.arr a n,.pv p] 0 (.arr a n) rfl rfl
    obtain ⟨u1,hu1,hur1⟩:=q5 0 [.arr a n,.pv p] 1 (.pv p) rfl rfl
    obtain ⟨I1,s1,x1,k1,hI1⟩:=Zeb h3 ha hn (v:=u) ⟨_,rfl,hur⟩
    have hb':look (ZQ os a) id=some (.box [.arr a n,.pv p]):=by rw [Zap,if_neg hne];exact hb
    obtain ⟨s2,k2⟩:=ZnU s1 hb'
    refine ⟨_,s2,⟨_,rfl,b,0,by simpa using hv,.inr hG,fun j q hq=>?_⟩,k1.trans k2,fun k hk=>?_⟩
    · match j,hq with
      | 0,hq=>
        cases hq
        refine ⟨u,?_,PVr.mono (ZH x1) k2.heap k2.imm⟩
        simp only [World.cell?,q2];simpa using hu
      | 1,hq=>
        cases hq
        refine ⟨u1,?_,PVr.mono hur1 (k1.trans k2).heap (k1.trans k2).imm⟩
        simp only [World.cell?,q2];simpa using hu1
    · rcases hk with hk | hk
      · rcases hI1 k hk with h | h
        · exact .inl h
        · exact .inr (.inr h)
      · exact .inr (.inl (hG.symm.trans hk))
theorem WA.freezeM (id a t:Nat) {s n:Nat} {els:List (List PV)} {p:PV} (ht:look st.env t=some (.val false [.ptr id 1 0 0])) (hb:look st.os id=some (.box [.arr a n,.pv p])) (ha:look st.os a=some (.arr s els)) (hn:n=els.length)
    (hne:id≠a) (h:WA P GL N code ⟨(t,.val false [.vp [.sl els,p]]) :: st.env,ZQ (ZQ st.os a) id⟩ F):WA P GL N code st F:=fun D w0 I0 G0 os0 w I G c h1 h2 h3 h4=>by
  obtain ⟨I',s2,x2,k3,hI⟩:=ZlX h3 hne hb ha hn (h4.slot t _ ht).2
  refine h D w0 I0 G0 os0 w I' G c ⟨h1.size,h1.os,h1.tape,h1.output,h1.keep,fun k hk=>k3.imm k (h1.imm k hk),fun k hk=>?_,fun b ⟨k,o,q1,q2⟩=>h1.mnew b ⟨k,o,ZdZ (ZdZ q1),q2⟩⟩ (h2.trans (k3.weaken fun _ _=>trivial)) s2
    ⟨h4.size,h4.defers,fun t' x hx=>?_⟩
  · have hm:∀k,Mine G st.os k→I0 k∨Mine G0 os0 k∨w0.heap.size≤k:=fun k hk=>by
      rcases h1.mnew k hk with h | h
      · exact .inr (.inl h)
      · exact .inr (.inr h)
    rcases hI k hk with hk | hk | hk
    · exact h1.inew k hk
    · exact hm k ⟨id,_,hb,hk⟩
    · exact hm k ⟨a,_,ha,hk⟩
  · rw [ZD] at hx
    split at hx
    · rename_i e;subst e;cases hx
      exact ⟨(h4.slot t _ ht).1,x2⟩
    · exact ⟨(h4.slot t' x hx).1,(h4.slot t' x hx).2.mono k3 (AT.refs_any x)⟩
def ZiY (_:Nat):Prop:=False
theorem ZcD {w':World} {I':Nat→Prop} {G':Nat→Option Nat} {sh sh':Sh} (hh:∀k,I k→w'.heap[k]?=w.heap[k]?) (hi:∀k,I k→I' k):ZN ZiY w w' I I' G G' sh sh':=⟨hh,hi,fun _ _ _ h=>h.elim⟩
theorem Zn8 {f:FuncId} {p0 p3:AT} {n m s1 s2:Nat} {els els' l':List (List PV)} (hm:m=l'.length) (h0:p0.refs ZiY) (h3:p3.refs ZiY)
    (h:Sim P GL f [p0,.val false [.arr 0 0],.val false [.arr 1 n],p3] [.arr s1 [],.arr s2 els] (.val false [.arr 0 m]) [.arr s1 l',.arr s2 els']) :
    Sim P GL f [p0,one .nils,.val false [.arr 0 n],p3] [.arr s2 els] (one (.sl l')) [.arr s2 els']:=by
  intro w I G vs hs ha
  obtain ⟨v0,_,rfl,a0,v1,_,rfl,a1,v2,_,rfl,a2,v3,_,rfl,a3,rfl⟩:=ha
  let G2:Nat→Option Nat:=fun k=>if k=1 then G 0 else none
  have l1:∀k,look (ZG [Obj.arr s2 els]) k=if k=0 then some (Obj.arr s2 els) else none:=fun k=>by
    rw [ZK];cases k with | zero=>rfl | succ k=>rfl
  have l2:∀(x y:Obj) k,look (ZG [x,y]) k=if k=0 then some x else if k=1 then some y else none:=fun x y k=>by
    rw [ZK];match k with | 0=>rfl | 1=>rfl | k+2=>rfl
  have sr2:Sr GL w I G2 (ZG [.arr s1 [],.arr s2 els]):=by
    refine ⟨hs.gl,fun k o q g=>?_,fun k o b q g=>?_,fun k k' o o' b q1 q2 g1 g2=>?_,hs.lt,hs.ge⟩
    · rw [l2] at q
      by_cases e:k=0
      · rw [if_pos e] at q;cases q;rfl
      · rw [if_neg e] at q
        by_cases e1:k=1
        · rw [if_pos e1] at q;cases q;subst e1
          exact hs.none_ 0 _ (by rw [l1];rfl) g
        · rw [if_neg e1] at q;cases q
    · rw [l2] at q
      by_cases e1:k=1
      · subst e1
        cases q
        obtain ⟨r1,cs,E,r2,r3,r4,r5⟩:=hs.blk 0 _ b (by rw [l1];rfl) g
        refine ⟨r1,cs,E,r2,r3,r4,fun i es j c z1 z2=>?_⟩
        obtain ⟨v,hv,hr⟩:=r5 i es j c z1 z2
        refine ⟨v,hv,?_⟩
        simp only [Obj.els,List.getElem?_map] at z1
        cases hq:els[i]? with
        | none=>rw [hq] at z1;cases z1
        | some ps=>rw [hq] at z1;cases z1;obtain ⟨p,_,rfl⟩:=Zhw z2;exact hr
      · simp only [G2,if_neg e1] at g;cases g
    · have e1:k=1:=by
        by_cases e:k=1
        · exact e
        · simp only [G2,if_neg e] at g1;cases g1
      have e2:k'=1:=by
        by_cases e:k'=1
        · exact e
        · simp only [G2,if_neg e] at g2;cases g2
      rw [e1,e2]
  have k0:∀{I' G' sh sh'},(∀k,I k→I' k)→ZN ZiY w w I I' G G' sh sh':=fun hi=>ZcD (fun _ _=>rfl) hi
  have nil1:v1 = .slice none 0 0:=by
    obtain ⟨c,hc,hr⟩:=a1;cases hc;cases hr;rfl
  subst nil1
  have as2:As w I G2 (shape (ZG [.arr s1 [],.arr s2 els])) [p0,.val false [.arr 0 0],.val false [.arr 1 n],p3] [v0,.slice none 0 0,v2,v3]:=by
    refine ⟨v0,_,rfl,a0.mono (k0 fun _ h=>h) h0,_,_,rfl,⟨_,rfl,⟨_,_,rfl⟩,fun s m hsm=>⟨Nat.zero_le _,fun _=>rfl⟩⟩,v2,_,rfl,⟨_,rfl,?_⟩,v3,_,rfl,a3.mono (k0 fun _ h=>h) h3,rfl⟩
    obtain ⟨x1,x2⟩:=ZH a2
    refine ⟨x1,fun s m hsm=>?_⟩
    have e:shape (ZG [Obj.arr s2 els]) 0=some (s,m):=by
      simp only [shape,l2,l1] at hsm ⊢;exact hsm
    exact x2 s m e
  refine Calls.imp (h w I G2 _ sr2 as2) ?_
  rintro e w' ⟨v,I',G',rfl,e1,t1,x1,c1⟩
  have hl0:look (ZG [Obj.arr s1 l',Obj.arr s2 els']) 0=some (.arr s1 l'):=by rw [l2];rfl
  have hl1:look (ZG [Obj.arr s1 l',Obj.arr s2 els']) 1=some (.arr s2 els'):=by rw [l2];rfl
  obtain ⟨I2,t2,x2,c2,hI⟩:=Zeb t1 hl0 hm x1
  let G3:Nat→Option Nat:=fun k=>if k=0 then G' 1 else none
  have hd1:look (ZQ (ZG [Obj.arr s1 l',Obj.arr s2 els']) 0) 1=some (.arr s2 els'):=by rw [Zap,if_neg (by omega)];exact hl1
  have m1:∀k,Mine G2 (ZG [.arr s1 [],.arr s2 els]) k→Mine G (ZG [.arr s2 els]) k:=fun k ⟨id,o,q1,q2⟩=>by
    by_cases e:id=1
    · subst e;exact ⟨0,_,by rw [l1];rfl,q2⟩
    · simp only [G2,if_neg e] at q2;cases q2
  have m2:∀k,Mine G (ZG [.arr s2 els]) k→Mine G2 (ZG [.arr s1 [],.arr s2 els]) k:=fun k ⟨id,o,q1,q2⟩=>by
    rw [l1] at q1
    by_cases e:id=0
    · subst e;exact ⟨1,_,by rw [l2];rfl,q2⟩
    · rw [if_neg e] at q1;cases q1
  have l3:∀k,look (ZG [Obj.arr s2 els']) k=if k=0 then some (Obj.arr s2 els') else none:=fun k=>by
    rw [ZK];cases k with | zero=>rfl | succ k=>rfl
  have m3:∀k,Mine G3 (ZG [.arr s2 els']) k→Mine G' (ZG [Obj.arr s1 l',Obj.arr s2 els']) k:=fun k ⟨id,o,q1,q2⟩=>by
    rw [l3] at q1
    by_cases e:id=0
    · subst e;exact ⟨1,_,hl1,q2⟩
    · rw [if_neg e] at q1;cases q1
  have mm:∀k,Mine G' (ZG [Obj.arr s1 l',Obj.arr s2 els']) k→Mine G (ZG [.arr s2 els]) k∨w.heap.size≤k:=fun k hk=>(e1.mnew k hk).elim (fun h=>.inl (m1 k h)) .inr
  refine ⟨v,I2,G3,rfl,⟨e1.size,e1.os,e1.tape,e1.output,fun k h h'=>e1.keep k h fun q=>h' (m1 k q),fun k hk=>c2.imm k (e1.imm k hk),fun k hk=>?_,fun k hk=>mm k (m3 k hk)⟩,?_,x2.mono (ZcD (fun _ _=>rfl) fun _ h=>h) ⟨trivial,trivial⟩,?_⟩
  · rcases hI k hk with h | h
    · rcases e1.inew k h with h | h | h
      · exact .inl h
      · exact .inr (.inl (m1 k h))
      · exact .inr (.inr h)
    · exact .inr (mm k ⟨0,_,hl0,h⟩)
  · refine ⟨t2.gl,fun k o q g=>?_,fun k o b q g=>?_,fun k k' o o' b q1 q2 g1 g2=>?_,t2.lt,t2.ge⟩
    · rw [l3] at q
      by_cases e:k=0
      · rw [if_pos e] at q;cases q;subst e
        exact t2.none_ 1 _ hd1 g
      · rw [if_neg e] at q;cases q
    · rw [l3] at q
      by_cases e:k=0
      · rw [if_pos e] at q;cases q;subst e
        obtain ⟨r1,cs,E,r2,r3,r4,r5⟩:=t2.blk 1 _ b hd1 g
        refine ⟨r1,cs,E,r2,r3,r4,fun i es j c z1 z2=>?_⟩
        obtain ⟨v,hv,hr⟩:=r5 i es j c z1 z2
        refine ⟨v,hv,?_⟩
        simp only [Obj.els,List.getElem?_map] at z1
        cases hq:els'[i]? with
        | none=>rw [hq] at z1;cases z1
        | some ps=>rw [hq] at z1;cases z1;obtain ⟨p,_,rfl⟩:=Zhw z2;exact hr
      · rw [if_neg e] at q;cases q
    · rw [l3] at q1 q2
      by_cases e:k=0
      · by_cases e':k'=0
        · rw [e,e']
        · rw [if_neg e'] at q2;cases q2
      · rw [if_neg e] at q1;cases q1
  · refine ⟨fun k hk=>c1.heap k hk,fun k hk=>c2.imm k (c1.imm k hk),fun k s m hk hsm=>?_⟩
    have hk0:k=0:=by simp only [List.length_cons,List.length_nil] at hk;omega
    subst hk0
    have e:shape (ZG [Obj.arr s1 l',Obj.arr s2 els']) 1=some (s,m):=by
      simp only [shape,l3,hl1] at hsm ⊢;exact hsm
    obtain ⟨m0,q1,q2,q3⟩:=c1.objs 1 s m (by simp) e
    refine ⟨m0,?_,q2,fun hm=>?_⟩
    · simp only [shape,l2,l1] at q1 ⊢;exact q1
    · exact q3 hm
end Go.AL
end
section
namespace Go.AL
section
variable {P:Program} {GL:List (Nat×List PV)} {N:Nat} {st:S} {F:Exit→S→Prop} {x:Code}
def NoGo (F:Exit→S→Prop):Exit→S→Prop
  | .goto _,_=>False
  | e,s=>F e s
theorem WA.scope (h:WA P GL N x st (NoGo F)):WA P GL N (.scope x) st F:=fun D w0 I0 G0 os0 w I G a h1 h2 h3 h4=>by
  refine wp_scope_straight (wp_mono (h D w0 I0 G0 os0 w I G a h1 h2 h3 h4) ?_)
  rintro e a' w' ⟨I',G',s,q1,q2,q3,q4,q5⟩
  cases e with
  | goto l=>exact q5.elim
  | _=>exact ⟨I',G',s,q1,q2,q3,q4,q5⟩
end
end Go.AL
end
section
namespace Go.Proofs.YthilboheomikjaaGreatDoor
open Go.AL
variable {μ:Int}
set_option maxRecDepth 100000
def ZgQ (v105:Bool):Option Bool:=
  cond v105 ((some true)) (((some false)))
def ZgP (v0:Int) (v102:Bool):Option Bool:=
  cond v102 ((some true)) (cond (decide (57343<v0)) ((ZgQ (decide (v0≤1114111)))) ((ZgQ false)))
def F115 (k:Nat) (v0:Int):Option Bool:=
  (cond (decide (0≤v0)) ((ZgP v0 (decide (v0<55296)))) ((ZgP v0 false)))
theorem ZmN (k:Nat) (v0:Int) (r:Bool) (hF:F115 k v0=some r):Sim Tryz.prog (GL0 μ) 115 [one (.int .i32 v0)] [] (one (.bool r)) []:=by
 refine Zz [] Tryz.func115 rfl kr kr ?_
 show WA _ _ 17 _ _ _
 refine WA.seq ?_
 refine WA.reg [0] [] [] (env':=[(0,one (.int .i32 v0))]) (os':=[]) (O:=[]) kr (sound _ _) trivial ?_
 refine WA.seq ?_
 refine WA.block ?_
 refine WA.join (fun s_=>∃(v102:Bool),ZI s_.env [0,3]=[(0,one (.int .i32 v0)),(3,one (.bool v102))]∧ZI s_.os []=[]∧ZgP v0 v102=some r) ?_ ?_
 {
 rintro s_ ⟨v102,he,ho,hF⟩
 refine WA.keep _ _ he ho ?_
 clear he ho
 refine WA.cond (b:=v102) rfl (fun hb103=>?_) (fun hb103=>?_)
 {
 have hF:=Zk hF hb103
 refine WA.seq ?_
 refine WA.reg [2] [] [] (env':=[(2,one (.bool true))]) (os':=[]) (O:=[]) kr (sound _ _) trivial ?_
 refine WA.ret ?_
 obtain rfl:=zj_ hF
 exact Zo (one (.bool true)) [] kr kr kr kr (by decide) rfl rfl }
 {
 have hF:=Zj hF hb103
 refine WA.join (fun s_=>∃(v105:Bool),ZI s_.env [10]=[(10,one (.bool v105))]∧ZI s_.os []=[]∧ZgQ v105=some r) ?_ ?_
 {
 rintro s_ ⟨v105,he,ho,hF⟩
 refine WA.keep _ _ he ho ?_
 clear he ho
 refine WA.cond (b:=v105) rfl (fun hb106=>?_) (fun hb106=>?_)
 {
 have hF:=Zk hF hb106
 refine WA.seq ?_
 refine WA.reg [2] [] [] (env':=[(2,one (.bool true))]) (os':=[]) (O:=[]) kr (sound _ _) trivial ?_
 refine WA.ret ?_
 obtain rfl:=zj_ hF
 exact Zo (one (.bool true)) [] kr kr kr kr (by decide) rfl rfl }
 {
 have hF:=Zj hF hb106
 refine WA.skip ?_
 refine WA.seq ?_
 refine WA.reg [2] [] [] (env':=[(2,one (.bool false))]) (os':=[]) (O:=[]) kr (sound _ _) trivial ?_
 refine WA.ret ?_
 obtain rfl:=zj_ hF
 exact Zo (one (.bool false)) [] kr kr kr kr (by decide) rfl rfl } }
 {
 rcases zo_ (decide (57343<v0)) with hb104 | hb104
 {
 have hF:=Zk hF hb104
 refine WA.reg [10] [] [(2,.bool true)] (env':=[(10,one (.bool (decide (v0≤1114111))))]) (os':=[]) (O:=[(decide (57343<v0))=true]) kr (sound _ _) ⟨hb104,trivial⟩ ?_
 exact ⟨(decide (v0≤1114111)),kr,kr,hF⟩ }
 {
 have hF:=Zj hF hb104
 refine WA.reg [10] [] [(2,.bool false)] (env':=[(10,one (.bool false))]) (os':=[]) (O:=[(decide (57343<v0))=false]) kr (sound _ _) ⟨hb104,trivial⟩ ?_
 exact ⟨false,kr,kr,hF⟩ } } } }
 {
 rcases zo_ (decide (0≤v0)) with hb101 | hb101
 {
 have hF:=Zk hF hb101
 refine WA.reg [0,3] [] [(2,.bool true)] (env':=[(0,one (.int .i32 v0)),(3,one (.bool (decide (v0<55296))))]) (os':=[]) (O:=[(decide (0≤v0))=true]) kr (sound _ _) ⟨hb101,trivial⟩ ?_
 exact ⟨(decide (v0<55296)),kr,kr,hF⟩ }
 {
 have hF:=Zj hF hb101
 refine WA.reg [0,3] [] [(2,.bool false)] (env':=[(0,one (.int .i32 v0)),(3,one (.bool false))]) (os':=[]) (O:=[(decide (0≤v0))=false]) kr (sound _ _) ⟨hb101,trivial⟩ ?_
 exact ⟨false,kr,kr,hF⟩ } }
def ZmY (self5:Int→Option Int) (v0:List UInt8) (v1:Int) (v139:Int) (v149:Int):Option Int:=
  (cond (decide (v149<(((Utf8.encode v1).data.toList).length:Int))) ((idxL v0 (w64 (v139-v149))).bind fun y151=>(idxL ((Utf8.encode v1).data.toList) (w64 ((w64 ((((Utf8.encode v1).data.toList).length:Int)-1))-v149))).bind fun y152=>(cond ((y151.toNat:Int) != (y152.toNat:Int)) (none) ((self5 (w64 (v149+1)))))) (((some (w64 (v139-(w64 ((((Utf8.encode v1).data.toList).length:Int)-1))))))))
def Zha (v0:List UInt8) (v1:Int) (v139:Int):Nat→Int→Option Int
  | 0,_=>none
  | m_+1,v149=>ZmY (Zha v0 v1 v139 m_) v0 v1 v139 v149
def ZjV (k:Nat) (v0:List UInt8) (v1:Int) (v139:Int):Option Int:=
  (Zha v0 v1 v139 k 1)
def ZmX (k:Nat) (v0:List UInt8) (v1:Int):Option Int:=
  (cond (decide ((w64 ((((Utf8.encode v1).data.toList).length:Int)-1))<(v0.length:Int))) ((idxL v0 (w64 ((((Utf8.encode v1).data.toList).length:Int)-1))).bind fun y132=>(idxL ((Utf8.encode v1).data.toList) (w64 ((((Utf8.encode v1).data.toList).length:Int)-1))).bind fun y133=>(cond ((y132.toNat:Int) != (y133.toNat:Int)) (if (0:Int)≤(w64 ((w64 ((((Utf8.encode v1).data.toList).length:Int)-1))+1))∧((w64 ((w64 ((((Utf8.encode v1).data.toList).length:Int)-1))+1)):Int)≤(v0.length:Int)∧(v0.length:Int)≤(v0.length:Int) then (idxL ((Utf8.encode v1).data.toList) (w64 ((((Utf8.encode v1).data.toList).length:Int)-1))).bind fun y136=>(F170 k ((v0.take (Int.toNat (v0.length:Int))).drop (Int.toNat (w64 ((w64 ((((Utf8.encode v1).data.toList).length:Int)-1))+1)))) (y136.toNat:Int)).bind fun y137=>((cond (decide (y137<0)) ((some (-1))) (((ZjV k v0 v1 (w64 ((w64 ((((Utf8.encode v1).data.toList).length:Int)-1))+(w64 (y137+1))))))))) else none) ((ZjV k v0 v1 (w64 ((((Utf8.encode v1).data.toList).length:Int)-1)))))) (((some (-1)))))
def ZjW (k:Nat) (v0:List UInt8) (v1:Int):Nat→Option Int
  | 0=>none
  | m_+1=>ZmX k v0 v1
def ZjU (k:Nat) (v0:List UInt8) (v1:Int) (v102:Bool):Option Int:=
  cond v102 ((F170 k v0 (IntKind.wrap .u8 v1)).bind fun y104=>(some y104)) ((cond (v1 == 65533) (none) ((F115 k v1).bind fun y106=>(cond (!y106) ((some (-1))) (((((ZjW k v0 v1 k)))))))))
def F171 (k:Nat) (v0:List UInt8) (v1:Int):Option Int:=
  (cond (decide (0≤v1)) ((ZjU k v0 v1 (decide (v1<128)))) ((ZjU k v0 v1 false)))
theorem ZqO (k:Nat) (v0:List UInt8) (v1:Int) (r:Int) (hF:F171 k v0 v1=some r):Sim Tryz.prog (GL0 μ) 171 [one (.str v0),one (.int .i32 v1)] [] (one (.int .i64 r)) []:=by
 refine Zz [] Tryz.func171 rfl kr kr ?_
 show WA _ _ 187 _ _ _
 refine WA.seq ?_
 refine WA.reg [0,1] [] [] (env':=[(0,one (.str v0)),(1,one (.int .i32 v1))]) (os':=[]) (O:=[]) kr (sound _ _) trivial ?_
 refine WA.block ?_
 refine WA.join (fun s_=>∃(v102:Bool),ZI s_.env [0,1,160]=[(0,one (.str v0)),(1,one (.int .i32 v1)),(160,one (.bool v102))]∧ZI s_.os []=[]∧ZjU k v0 v1 v102=some r) ?_ ?_
 {
 rintro s_ ⟨v102,he,ho,hF⟩
 refine WA.keep _ _ he ho ?_
 clear he ho
 refine WA.cond (b:=v102) rfl (fun hb103=>?_) (fun hb103=>?_)
 {
 have hF:=Zk hF hb103
 refine WA.seq ?_
 obtain ⟨y104,hy104,hF⟩:=Zh hF
 refine WA.reg [4] [] [(3,.callR [] (one (.int .i64 y104)))] (env':=[(4,one (.int .i64 y104))]) (os':=[]) (O:=[Sim Tryz.prog (GL0 μ) 170 [one (.str v0),one (.int .u8 (IntKind.wrap .u8 v1))] [] (one (.int .i64 y104)) [],([]:List Nat).Nodup]) kr (sound _ _) ⟨(ZjT k _ _ _ hy104),(by decide),trivial⟩ ?_
 refine WA.ret ?_
 obtain rfl:=zj_ hF
 exact Zo (one (.int .i64 y104)) [] kr kr kr kr (by decide) rfl rfl }
 {
 have hF:=Zj hF hb103
 refine WA.seq ?_
 refine WA.reg [0,1,171] [] [] (env':=[(0,one (.str v0)),(1,one (.int .i32 v1)),(171,one (.bool (v1 == 65533)))]) (os':=[]) (O:=[]) kr (sound _ _) trivial ?_
 refine WA.cond (b:=(v1 == 65533)) rfl (fun hb105=>?_) (fun hb105=>?_)
 {
 have hF:=Zk hF hb105
 cases hF }
 {
 have hF:=Zj hF hb105
 refine WA.seq ?_
 obtain ⟨y106,hy106,hF⟩:=Zh hF
 refine WA.reg [0,1,183] [] [(1,.callR [] (one (.bool y106)))] (env':=[(0,one (.str v0)),(1,one (.int .i32 v1)),(183,one (.bool (!y106)))]) (os':=[]) (O:=[Sim Tryz.prog (GL0 μ) 115 [one (.int .i32 v1)] [] (one (.bool y106)) [],([]:List Nat).Nodup]) kr (sound _ _) ⟨(ZmN k _ _ hy106),(by decide),trivial⟩ ?_
 refine WA.cond (b:=(!y106)) rfl (fun hb107=>?_) (fun hb107=>?_)
 {
 have hF:=Zk hF hb107
 refine WA.seq ?_
 refine WA.reg [4] [] [] (env':=[(4,one (.int .i64 (-1)))]) (os':=[]) (O:=[]) kr (sound _ _) trivial ?_
 refine WA.ret ?_
 obtain rfl:=zj_ hF
 exact Zo (one (.int .i64 (-1))) [] kr kr kr kr (by decide) rfl rfl }
 {
 have hF:=Zj hF hb107
 refine WA.scope ?_
 refine WA.seq ?_
 refine WA.reg [0,7] [] [] (env':=[(0,one (.str v0)),(7,one (.str ((Utf8.encode v1).data.toList)))]) (os':=[]) (O:=[]) kr (sound _ _) trivial ?_
 refine WA.seq ?_
 refine WA.reg [0,7,8] [] [] (env':=[(0,one (.str v0)),(7,one (.str ((Utf8.encode v1).data.toList))),(8,one (.int .i64 (w64 ((((Utf8.encode v1).data.toList).length:Int)-1))))]) (os':=[]) (O:=[]) kr (sound _ _) trivial ?_
 refine WA.seq ?_
 refine WA.reg [0,7,8,9] [] [] (env':=[(0,one (.str v0)),(7,one (.str ((Utf8.encode v1).data.toList))),(8,one (.int .i64 (w64 ((((Utf8.encode v1).data.toList).length:Int)-1)))),(9,one (.int .i64 (w64 ((((Utf8.encode v1).data.toList).length:Int)-1))))]) (os':=[]) (O:=[]) kr (sound _ _) trivial ?_
 refine WA.seq ?_
 refine WA.reg [0,7,8,9] [] [] (env':=[(0,one (.str v0)),(7,one (.str ((Utf8.encode v1).data.toList))),(8,one (.int .i64 (w64 ((((Utf8.encode v1).data.toList).length:Int)-1)))),(9,one (.int .i64 (w64 ((((Utf8.encode v1).data.toList).length:Int)-1))))]) (os':=[]) (O:=[]) kr (sound _ _) trivial ?_
 refine WA.seq ?_
 refine WA.block ?_
 refine WA.loop (fun m s_=>ZI s_.env [0,7,8,9]=[(0,one (.str v0)),(7,one (.str ((Utf8.encode v1).data.toList))),(8,one (.int .i64 (w64 ((((Utf8.encode v1).data.toList).length:Int)-1)))),(9,one (.int .i64 (w64 ((((Utf8.encode v1).data.toList).length:Int)-1))))]∧ZI s_.os []=[]∧ZjW k v0 v1 m=some r) k ⟨kr,kr,hF⟩ ?_
 clear hF
 rintro m3 s_ ⟨he,ho,hF⟩
 refine WA.keep _ _ he ho ?_
 clear he ho
 cases m3 with
 | zero=>cases hF
 | succ m3=>
  obtain ⟨self3,hself3⟩:∃g,g=ZjW k v0 v1 m3:=⟨_,rfl⟩
  have hF:ZmX k v0 v1=some r:=by first | (rw [hself3];exact hF) | exact hF
  refine WA.seq ?_
  refine WA.seq ?_
  refine WA.reg [0,7,8,9,26] [] [] (env':=[(0,one (.str v0)),(7,one (.str ((Utf8.encode v1).data.toList))),(8,one (.int .i64 (w64 ((((Utf8.encode v1).data.toList).length:Int)-1)))),(9,one (.int .i64 (w64 ((((Utf8.encode v1).data.toList).length:Int)-1)))),(26,one (.bool (decide ((w64 ((((Utf8.encode v1).data.toList).length:Int)-1))<(v0.length:Int)))))]) (os':=[]) (O:=[]) kr (sound _ _) trivial ?_
  refine WA.cond (b:=(decide ((w64 ((((Utf8.encode v1).data.toList).length:Int)-1))<(v0.length:Int)))) rfl (fun hb131=>?_) (fun hb131=>?_)
  {
 have hF:=Zk hF hb131
 refine WA.skip ?_
 refine WA.block ?_
 refine WA.scope ?_
 refine WA.join (fun s_=>∃(v139:Int),ZI s_.env [0,7,8,9]=[(0,one (.str v0)),(7,one (.str ((Utf8.encode v1).data.toList))),(8,one (.int .i64 (w64 ((((Utf8.encode v1).data.toList).length:Int)-1)))),(9,one (.int .i64 v139))]∧ZI s_.os []=[]∧ZjV k v0 v1 v139=some r) ?_ ?_
 {
 rintro s_ ⟨v139,he,ho,hF⟩
 refine WA.keep _ _ he ho ?_
 clear he ho
 refine WA.seq ?_
 refine WA.seq ?_
 refine WA.reg [0,7,8,9,12] [] [] (env':=[(0,one (.str v0)),(7,one (.str ((Utf8.encode v1).data.toList))),(8,one (.int .i64 (w64 ((((Utf8.encode v1).data.toList).length:Int)-1)))),(9,one (.int .i64 v139)),(12,one (.int .i64 1))]) (os':=[]) (O:=[]) kr (sound _ _) trivial ?_
 refine WA.block ?_
 refine WA.loop (fun m s_=>∃(v149:Int),ZI s_.env [0,7,8,9,12]=[(0,one (.str v0)),(7,one (.str ((Utf8.encode v1).data.toList))),(8,one (.int .i64 (w64 ((((Utf8.encode v1).data.toList).length:Int)-1)))),(9,one (.int .i64 v139)),(12,one (.int .i64 v149))]∧ZI s_.os []=[]∧Zha v0 v1 v139 m v149=some r) k ⟨1,kr,kr,hF⟩ ?_
 clear hF
 rintro m5 s_ ⟨v149,he,ho,hF⟩
 refine WA.keep _ _ he ho ?_
 clear he ho
 cases m5 with
 | zero=>cases hF
 | succ m5=>
  obtain ⟨self5,hself5⟩:∃g,g=Zha v0 v1 v139 m5:=⟨_,rfl⟩
  have hF:ZmY self5 v0 v1 v139 v149=some r:=by first | (rw [hself5];exact hF) | exact hF
  refine WA.seq ?_
  refine WA.seq ?_
  refine WA.reg [0,7,8,9,12,51] [] [] (env':=[(0,one (.str v0)),(7,one (.str ((Utf8.encode v1).data.toList))),(8,one (.int .i64 (w64 ((((Utf8.encode v1).data.toList).length:Int)-1)))),(9,one (.int .i64 v139)),(12,one (.int .i64 v149)),(51,one (.bool (decide (v149<(((Utf8.encode v1).data.toList).length:Int)))))]) (os':=[]) (O:=[]) kr (sound _ _) trivial ?_
  refine WA.cond (b:=(decide (v149<(((Utf8.encode v1).data.toList).length:Int)))) rfl (fun hb150=>?_) (fun hb150=>?_)
  {
 have hF:=Zk hF hb150
 refine WA.skip ?_
 refine WA.seq ?_
 refine WA.block ?_
 refine WA.seq ?_
 obtain ⟨y151,hy151,hF⟩:=Zh hF
 obtain ⟨y152,hy152,hF⟩:=Zh hF
 refine WA.regD kr [0,7,8,9,12,64] [] [(4,.num (y151.toNat:Int)),(9,.num (y152.toNat:Int))] (env':=[(0,one (.str v0)),(7,one (.str ((Utf8.encode v1).data.toList))),(8,one (.int .i64 (w64 ((((Utf8.encode v1).data.toList).length:Int)-1)))),(9,one (.int .i64 v139)),(12,one (.int .i64 v149)),(64,one (.bool ((y151.toNat:Int) != (y152.toNat:Int))))]) (os':=[]) (O:=[(idxL v0 (w64 (v139-v149))).map (fun b=>(b.toNat:Int))=some (y151.toNat:Int),(idxL ((Utf8.encode v1).data.toList) (w64 ((w64 ((((Utf8.encode v1).data.toList).length:Int)-1))-v149))).map (fun b=>(b.toNat:Int))=some (y152.toNat:Int)]) kr kr (sound _ _) ⟨(by rw [hy151];rfl),(by rw [hy152];rfl),trivial⟩ ?_
 refine WA.cond (b:=((y151.toNat:Int) != (y152.toNat:Int))) rfl (fun hb153=>?_) (fun hb153=>?_)
 {
 have hF:=Zk hF hb153
 cases hF }
 {
 have hF:=Zj hF hb153
 refine WA.skip ?_
 refine WA.reg [0,7,8,9,12] [] [] (env':=[(0,one (.str v0)),(7,one (.str ((Utf8.encode v1).data.toList))),(8,one (.int .i64 (w64 ((((Utf8.encode v1).data.toList).length:Int)-1)))),(9,one (.int .i64 v139)),(12,one (.int .i64 (w64 (v149+1))))]) (os':=[]) (O:=[]) kr (sound _ _) trivial ?_
 exact ⟨m5,zl_ _,(w64 (v149+1)),kr,kr,by rw [hself5] at hF;exact hF⟩ } }
  {
 have hF:=Zj hF hb150
 refine WA.exit ?_
 refine WA.seq ?_
 refine WA.seq ?_
 refine WA.reg [4] [] [] (env':=[(4,one (.int .i64 (w64 (v139-(w64 ((((Utf8.encode v1).data.toList).length:Int)-1))))))]) (os':=[]) (O:=[]) kr (sound _ _) trivial ?_
 refine WA.ret ?_
 obtain rfl:=zj_ hF
 exact Zo (one (.int .i64 (w64 (v139-(w64 ((((Utf8.encode v1).data.toList).length:Int)-1)))))) [] kr kr kr kr (by decide) rfl rfl } }
 {
 refine WA.seq ?_
 obtain ⟨y132,hy132,hF⟩:=Zh hF
 obtain ⟨y133,hy133,hF⟩:=Zh hF
 refine WA.regD kr [0,7,8,9,33] [] [(2,.num (y132.toNat:Int)),(5,.num (y133.toNat:Int))] (env':=[(0,one (.str v0)),(7,one (.str ((Utf8.encode v1).data.toList))),(8,one (.int .i64 (w64 ((((Utf8.encode v1).data.toList).length:Int)-1)))),(9,one (.int .i64 (w64 ((((Utf8.encode v1).data.toList).length:Int)-1)))),(33,one (.bool ((y132.toNat:Int) != (y133.toNat:Int))))]) (os':=[]) (O:=[(idxL v0 (w64 ((((Utf8.encode v1).data.toList).length:Int)-1))).map (fun b=>(b.toNat:Int))=some (y132.toNat:Int),(idxL ((Utf8.encode v1).data.toList) (w64 ((((Utf8.encode v1).data.toList).length:Int)-1))).map (fun b=>(b.toNat:Int))=some (y133.toNat:Int)]) kr kr (sound _ _) ⟨(by rw [hy132];rfl),(by rw [hy133];rfl),trivial⟩ ?_
 refine WA.cond (b:=((y132.toNat:Int) != (y133.toNat:Int))) rfl (fun hb134=>?_) (fun hb134=>?_)
 {
 have hF:=Zk hF hb134
 refine WA.seq ?_
 obtain ⟨hc135,hF⟩:=Zn hF
 obtain ⟨y136,hy136,hF⟩:=Zh hF
 obtain ⟨y137,hy137,hF⟩:=Zh hF
 refine WA.regD kr [0,7,8,9,11] [] [(6,.num (y136.toNat:Int)),(7,.callR [] (one (.int .i64 y137)))] (env':=[(0,one (.str v0)),(7,one (.str ((Utf8.encode v1).data.toList))),(8,one (.int .i64 (w64 ((((Utf8.encode v1).data.toList).length:Int)-1)))),(9,one (.int .i64 (w64 ((((Utf8.encode v1).data.toList).length:Int)-1)))),(11,one (.int .i64 y137))]) (os':=[]) (O:=[(0:Int)≤(w64 ((w64 ((((Utf8.encode v1).data.toList).length:Int)-1))+1)),((w64 ((w64 ((((Utf8.encode v1).data.toList).length:Int)-1))+1)):Int)≤(v0.length:Int),(v0.length:Int)≤(v0.length:Int),(idxL ((Utf8.encode v1).data.toList) (w64 ((((Utf8.encode v1).data.toList).length:Int)-1))).map (fun b=>(b.toNat:Int))=some (y136.toNat:Int),Sim Tryz.prog (GL0 μ) 170 [one (.str ((v0.take (Int.toNat (v0.length:Int))).drop (Int.toNat (w64 ((w64 ((((Utf8.encode v1).data.toList).length:Int)-1))+1))))),one (.int .u8 (y136.toNat:Int))] [] (one (.int .i64 y137)) [],([]:List Nat).Nodup]) kr kr (sound _ _) ⟨hc135.1,hc135.2.1,hc135.2.2,(by rw [hy136];rfl),(ZjT k _ _ _ hy137),(by decide),trivial⟩ ?_
 refine WA.seq ?_
 refine WA.seq ?_
 refine WA.reg [0,7,8,9,11,43] [] [] (env':=[(0,one (.str v0)),(7,one (.str ((Utf8.encode v1).data.toList))),(8,one (.int .i64 (w64 ((((Utf8.encode v1).data.toList).length:Int)-1)))),(9,one (.int .i64 (w64 ((((Utf8.encode v1).data.toList).length:Int)-1)))),(11,one (.int .i64 y137)),(43,one (.bool (decide (y137<0))))]) (os':=[]) (O:=[]) kr (sound _ _) trivial ?_
 refine WA.cond (b:=(decide (y137<0))) rfl (fun hb138=>?_) (fun hb138=>?_)
 {
 have hF:=Zk hF hb138
 refine WA.seq ?_
 refine WA.reg [4] [] [] (env':=[(4,one (.int .i64 (-1)))]) (os':=[]) (O:=[]) kr (sound _ _) trivial ?_
 refine WA.ret ?_
 obtain rfl:=zj_ hF
 exact Zo (one (.int .i64 (-1))) [] kr kr kr kr (by decide) rfl rfl }
 {
 have hF:=Zj hF hb138
 refine WA.skip ?_
 refine WA.reg [0,7,8,9] [] [] (env':=[(0,one (.str v0)),(7,one (.str ((Utf8.encode v1).data.toList))),(8,one (.int .i64 (w64 ((((Utf8.encode v1).data.toList).length:Int)-1)))),(9,one (.int .i64 (w64 ((w64 ((((Utf8.encode v1).data.toList).length:Int)-1))+(w64 (y137+1))))))]) (os':=[]) (O:=[]) kr (sound _ _) trivial ?_
 exact ⟨(w64 ((w64 ((((Utf8.encode v1).data.toList).length:Int)-1))+(w64 (y137+1)))),kr,kr,hF⟩ } }
 {
 have hF:=Zj hF hb134
 refine WA.skip ?_
 exact ⟨(w64 ((((Utf8.encode v1).data.toList).length:Int)-1)),kr,kr,hF⟩ } } }
  {
 have hF:=Zj hF hb131
 refine WA.exit ?_
 refine WA.seq ?_
 refine WA.seq ?_
 refine WA.reg [4] [] [] (env':=[(4,one (.int .i64 (-1)))]) (os':=[]) (O:=[]) kr (sound _ _) trivial ?_
 refine WA.ret ?_
 obtain rfl:=zj_ hF
 exact Zo (one (.int .i64 (-1))) [] kr kr kr kr (by decide) rfl rfl } } } } }
 {
 rcases zo_ (decide (0≤v1)) with hb101 | hb101
 {
 have hF:=Zk hF hb101
 refine WA.reg [0,1,160] [] [(2,.bool true)] (env':=[(0,one (.str v0)),(1,one (.int .i32 v1)),(160,one (.bool (decide (v1<128))))]) (os':=[]) (O:=[(decide (0≤v1))=true]) kr (sound _ _) ⟨hb101,trivial⟩ ?_
 exact ⟨(decide (v1<128)),kr,kr,hF⟩ }
 {
 have hF:=Zj hF hb101
 refine WA.reg [0,1,160] [] [(2,.bool false)] (env':=[(0,one (.str v0)),(1,one (.int .i32 v1)),(160,one (.bool false))]) (os':=[]) (O:=[(decide (0≤v1))=false]) kr (sound _ _) ⟨hb101,trivial⟩ ?_
 exact ⟨false,kr,kr,hF⟩ } }
def Zqa (k:Nat) (v0:List UInt8) (v1:Int):Option Bool:=
  (F171 k v0 v1).bind fun y101=>(some (decide (y101≥0)))
theorem Zpj (k:Nat) (v0:List UInt8) (v1:Int) (r:Bool) (hF:Zqa k v0 v1=some r):Sim Tryz.prog (GL0 μ) 141 [one (.str v0),one (.int .i32 v1)] [] (one (.bool r)) []:=by
 refine Zz [] Tryz.func141 rfl kr kr ?_
 show WA _ _ 9 _ _ _
 refine WA.seq ?_
 refine WA.reg [0,1] [] [] (env':=[(0,one (.str v0)),(1,one (.int .i32 v1))]) (os':=[]) (O:=[]) kr (sound _ _) trivial ?_
 refine WA.seq ?_
 obtain ⟨y101,hy101,hF⟩:=Zh hF
 refine WA.reg [4] [] [(2,.callR [] (one (.int .i64 y101)))] (env':=[(4,one (.bool (decide (y101≥0))))]) (os':=[]) (O:=[Sim Tryz.prog (GL0 μ) 171 [one (.str v0),one (.int .i32 v1)] [] (one (.int .i64 y101)) [],([]:List Nat).Nodup]) kr (sound _ _) ⟨(ZqO k _ _ _ hy101),(by decide),trivial⟩ ?_
 refine WA.ret ?_
 obtain rfl:=zj_ hF
 exact Zo (one (.bool (decide (y101≥0)))) [] kr kr kr kr (by decide) rfl rfl
end Go.Proofs.YthilboheomikjaaGreatDoor
end
section
namespace Go.Proofs.YthilboheomikjaaGreatDoor
open Go.AL
variable {μ:Int}
set_option maxRecDepth 100000
def Zf9 (v0:Int) (a:Bool):Option (List UInt8):=
  cond a ((some ([]:List UInt8))) (((some ((Utf8.encode (IntKind.wrap .i32 v0)).data.toList))))
def F94 (k:Nat) (v0:Int):Option (List UInt8):=
  (cond (decide (v0<0)) ((Zf9 v0 true)) (cond (decide (v0 > 1114111)) ((Zf9 v0 true)) ((F115 k (IntKind.wrap .i32 v0)).bind fun a=>(Zf9 v0 (!a)))))
theorem ZrL (k:Nat) (v0:Int) (r:List UInt8) (a:F94 k v0=some r):SM μ 94 [oi v0] [] (one (.str r)) []:=by
 refine Zz [] Tryz.func94 rfl kr kr ?_
 show WA _ _ 18 _ _ _
 refine Ws [] [(0,oi v0)] [] ?_
 refine WA.seq ?_
 refine WA.join (fun j=>∃(f:Bool),J j [(0,oi v0),(14,ob f)] []∧Zf9 v0 f=some r) ?_ ?_
 {
 rintro j ⟨f,i,a⟩
 refine Wj i ?_
 clear i
 refine WA.cond (b:=f) rfl (fun e=>?_) (fun e=>?_)
 {
 have a:=Zk a e
 refine Ws [] [(2,one (.str ([]:List UInt8)))] [] ?_
 refine WA.ret ?_
 obtain rfl:=zj_ a
 exact Zo (one (.str ([]:List UInt8))) [] kr kr kr kr nd rfl rfl }
 {
 have a:=Zj a e
 refine WA.skip ?_
 refine Ws [] [(2,one (.str ((Utf8.encode (IntKind.wrap .i32 v0)).data.toList)))] [] ?_
 refine WA.ret ?_
 obtain rfl:=zj_ a
 exact Zo (one (.str ((Utf8.encode (IntKind.wrap .i32 v0)).data.toList))) [] kr kr kr kr nd rfl rfl } }
 {
 rcases zo_ (decide (v0<0)) with c | c
 {
 have a:=Zk a c
 refine Wo [(2,.bool true)] [(0,oi v0),(14,ob true)] [] [(decide (v0<0))=true] ⟨c,trivial⟩ ?_
 exact ⟨true,jk,a⟩ }
 {
 have a:=Zj a c
 rcases zo_ (decide (v0 > 1114111)) with d | d
 {
 have a:=Zk a d
 refine Wo [(2,.bool false),(6,.bool true)] [(0,oi v0),(14,ob true)] [] [(decide (v0<0))=false,(decide (v0 > 1114111))=true] ⟨c,d,trivial⟩ ?_
 exact ⟨true,jk,a⟩ }
 {
 have a:=Zj a d
 obtain ⟨g,h,a⟩:=Zh a
 refine Wo [(2,.bool false),(6,.bool false),(9,.callR [] (ob g))] [(0,oi v0),(14,ob (!g))] [] [(decide (v0<0))=false,(decide (v0 > 1114111))=false,SM μ 115 [one (.int .i32 (IntKind.wrap .i32 v0))] [] (ob g) [],([]:List Nat).Nodup] ⟨c,d,(ZmN k _ _ h),nd,trivial⟩ ?_
 exact ⟨(!g),jk,a⟩ } } }
def F107 (k:Nat) (v0:Int):Option (List UInt8):=
  (F94 k v0).bind fun a=>((cond (v0 == 10) ((some ([92,110]:List UInt8))) ((cond (v0 == 9) ((some ([92,116]:List UInt8))) ((F122 k ([92,46,91,93,40,41,123,125,42,43,63,124,94,36,45,47]:List UInt8) a).bind fun b=>(cond b (if ([92]:List UInt8).length+a.length≤4611686018427387904 then (some (([92]:List UInt8) ++ a)) else none) ((some a))))))))
theorem Zel (k:Nat) (v0:Int) (r:List UInt8) (c:F107 k v0=some r):SM μ 107 [oi v0] [] (one (.str r)) []:=by
 refine Zz [] Tryz.func107 rfl kr kr ?_
 show WA _ _ 18 _ _ _
 refine Ws [] [(0,oi v0)] [] ?_
 obtain ⟨a,i,c⟩:=Zh c
 refine Wos [(1,.callR [] (one (.str a)))] [(0,oi v0),(3,one (.str a))] [] [SM μ 94 [oi v0] [] (one (.str a)) [],([]:List Nat).Nodup] ⟨(ZrL k _ _ i),nd,trivial⟩ ?_
 refine WA.block ?_
 refine Ws [] [(0,oi v0),(3,one (.str a)),(7,ob (v0 == 10))] [] ?_
 refine WA.cond (b:=(v0 == 10)) rfl (fun d=>?_) (fun d=>?_)
 {
 have c:=Zk c d
 refine Ws [] [(2,one (.str ([92,110]:List UInt8)))] [] ?_
 refine WA.ret ?_
 obtain rfl:=zj_ c
 exact Zo (one (.str ([92,110]:List UInt8))) [] kr kr kr kr nd rfl rfl }
 {
 have c:=Zj c d
 refine Ws [] [(3,one (.str a)),(10,ob (v0 == 9))] [] ?_
 refine WA.cond (b:=(v0 == 9)) rfl (fun e=>?_) (fun e=>?_)
 {
 have c:=Zk c e
 refine Ws [] [(2,one (.str ([92,116]:List UInt8)))] [] ?_
 refine WA.ret ?_
 obtain rfl:=zj_ c
 exact Zo (one (.str ([92,116]:List UInt8))) [] kr kr kr kr nd rfl rfl }
 {
 have c:=Zj c e
 obtain ⟨g,j,c⟩:=Zh c
 refine Wos [(1,.callR [] (ob g))] [(3,one (.str a)),(13,ob g)] [] [SM μ 122 [one (.str ([92,46,91,93,40,41,123,125,42,43,63,124,94,36,45,47]:List UInt8)),one (.str a)] [] (ob g) [],([]:List Nat).Nodup] ⟨(ZqC k _ _ _ j),nd,trivial⟩ ?_
 refine WA.cond (b:=g) rfl (fun f=>?_) (fun f=>?_)
 {
 have c:=Zk c f
 obtain ⟨h,c⟩:=Zn c
 refine Wos [] [(2,one (.str (([92]:List UInt8) ++ a)))] [] [([92]:List UInt8).length+a.length≤4611686018427387904] ⟨h,trivial⟩ ?_
 refine WA.ret ?_
 obtain rfl:=zj_ c
 exact Zo (one (.str (([92]:List UInt8) ++ a))) [] kr kr kr kr nd rfl rfl }
 {
 have c:=Zj c f
 refine Ws [] [(2,one (.str a))] [] ?_
 refine WA.ret ?_
 obtain rfl:=zj_ c
 exact Zo (one (.str a)) [] kr kr kr kr nd rfl rfl } } }
def ZgN (a:(List UInt8)→Int→Option (List UInt8)) (b:Int) (c:List UInt8):Option (List UInt8):=
  a c (w64 (b+1))
def Zc0 (k:Nat) (e:(List UInt8)→Int→Option (List UInt8)) (v0:List Zb) (a:List UInt8) (c:Int):Option (List UInt8):=
  (cond (decide (c<(v0.length:Int))) ((idxL v0 c).bind fun d=>(F107 k d.f_Lo).bind fun b=>if a.length+b.length≤4611686018427387904 then ((cond (decide (d.f_Hi > d.f_Lo)) (if (a ++ b).length+([45]:List UInt8).length≤4611686018427387904 then (F107 k d.f_Hi).bind fun f=>if ((a ++ b) ++ ([45]:List UInt8)).length+f.length≤4611686018427387904 then (ZgN e c (((a ++ b) ++ ([45]:List UInt8)) ++ f)) else none else none) ((ZgN e c (a ++ b))))) else none) (((some a))))
def Zem (k:Nat) (v0:List Zb):Nat→(List UInt8)→Int→Option (List UInt8)
  | 0,_,_=>none
  | c+1,a,b=>Zc0 k (Zem k v0 c) v0 a b
def F108 (k:Nat) (v0:List Zb):Option (List UInt8):=
  (((Zem k v0 k ([]:List UInt8) 0)))
theorem ZmK (k:Nat) (v0:List Zb) (r:List UInt8) (a:F108 k v0=some r):SM μ 108 [one (.sl (v0.map Za))] [] (one (.str r)) []:=by
 refine Zz [] Tryz.func108 rfl kr kr ?_
 show WA _ _ 30 _ _ _
 refine Ws [] [(0,one (.sl (v0.map Za)))] [] ?_
 refine Ws [] [(0,one (.sl (v0.map Za))),(3,one (.str ([]:List UInt8)))] [] ?_
 refine WA.seq ?_
 refine WA.seq ?_
 refine Wm ((v0.map Za).length:Int) (v0.length:Int) (fun y=>([(3,one (.str ([]:List UInt8))),(6,one (.sl (v0.map Za))),(7,oi y),(8,oi 0)],[],[])) ((by first | (simp only [zl,Zi];done) | (simp only [zl,Zi];omega) | omega)) [] trivial ?_
 refine WA.block ?_
 refine WA.loop (fun m q=>∃(c:List UInt8) (d:Int),J q [(3,one (.str c)),(6,one (.sl (v0.map Za))),(7,oi (v0.length:Int)),(8,oi d)] []∧Zem k v0 m c d=some r) k ⟨([]:List UInt8),0,jk,a⟩ ?_
 clear a
 rintro m2 q ⟨c,d,p,a⟩
 refine Wj p ?_
 clear p
 cases m2 with
 | zero=>cases a
 | succ m2=>
  obtain ⟨o,n⟩:∃g,g=Zem k v0 m2:=⟨_,rfl⟩
  have a:Zc0 k o v0 c d=some r:=by first | (rw [n];exact a) | exact a
  refine Ws [] [(3,one (.str c)),(6,one (.sl (v0.map Za))),(7,oi (v0.length:Int)),(8,oi d),(9,ob (decide (d<(v0.length:Int))))] [] ?_
  refine WA.seq ?_
  refine WA.cond (b:=(decide (d<(v0.length:Int)))) rfl (fun j=>?_) (fun j=>?_)
  {
 have a:=Zk a j
 refine WA.skip ?_
 refine WA.join (fun q=>∃(h:List UInt8),J q [(3,one (.str h)),(6,one (.sl (v0.map Za))),(7,oi (v0.length:Int)),(8,oi d)] []∧ZgN o d h=some r) ?_ ?_
 {
 rintro q ⟨h,p,a⟩
 refine Wj p ?_
 clear p
 refine Wr [] [(3,one (.str h)),(6,one (.sl (v0.map Za))),(7,oi (v0.length:Int)),(8,oi (w64 (d+1)))] [] ?_
 exact ⟨m2,zl_ _,h,(w64 (d+1)),jk,by rw [n] at a;exact a⟩ }
 {
 refine WA.block ?_
 obtain ⟨e,v,a⟩:=Zh a
 refine Wos [(0,.cells (Za e)),(2,.obj 105)] [(3,one (.str c)),(5,pt 105),(6,one (.sl (v0.map Za))),(7,oi (v0.length:Int)),(8,oi d)] [(105,bx (Za e))] [idxL (v0.map Za) d=some (Za e)] ⟨(Zs _ v),trivial⟩ ?_
 obtain ⟨f,w,a⟩:=Zh a
 obtain ⟨s,a⟩:=Zn a
 refine Wos [(3,.callR [] (one (.str f)))] [(3,one (.str (c ++ f))),(5,pt 105),(6,one (.sl (v0.map Za))),(7,oi (v0.length:Int)),(8,oi d)] [(105,bx (Za e))] [SM μ 107 [oi e.f_Lo] [] (one (.str f)) [],([]:List Nat).Nodup,c.length+f.length≤4611686018427387904] ⟨(Zel k _ _ w),nd,s,trivial⟩ ?_
 refine Ws [] [(3,one (.str (c ++ f))),(5,pt 105),(6,one (.sl (v0.map Za))),(7,oi (v0.length:Int)),(8,oi d),(21,ob (decide (e.f_Hi > e.f_Lo)))] [(105,bx (Za e))] ?_
 refine WA.cond (b:=(decide (e.f_Hi > e.f_Lo))) rfl (fun l=>?_) (fun l=>?_)
 {
 have a:=Zk a l
 obtain ⟨t,a⟩:=Zn a
 obtain ⟨i,x,a⟩:=Zh a
 obtain ⟨u,a⟩:=Zn a
 refine Wo [(4,.callR [] (one (.str i)))] [(3,one (.str (((c ++ f) ++ ([45]:List UInt8)) ++ i))),(6,one (.sl (v0.map Za))),(7,oi (v0.length:Int)),(8,oi d)] [] [(c ++ f).length+([45]:List UInt8).length≤4611686018427387904,SM μ 107 [oi e.f_Hi] [] (one (.str i)) [],([]:List Nat).Nodup,((c ++ f) ++ ([45]:List UInt8)).length+i.length≤4611686018427387904] ⟨t,(Zel k _ _ x),nd,u,trivial⟩ ?_
 exact ⟨(((c ++ f) ++ ([45]:List UInt8)) ++ i),jk,a⟩ }
 {
 have a:=Zj a l
 refine WA.skip ?_
 exact ⟨(c ++ f),jk,a⟩ } } }
  {
 have a:=Zj a j
 refine WA.exit ?_
 refine Ws [] [(2,one (.str c))] [] ?_
 refine WA.ret ?_
 obtain rfl:=zj_ a
 exact Zo (one (.str c)) [] kr kr kr kr nd rfl rfl }
def ZiX (v0:Int) (v1:Int) (a:List UInt8) (b:List UInt8) (c:Bool):Option (List UInt8):=
  cond c ((some ([63]:List UInt8))) ((cond (v1 == (-1)) (if ([123]:List UInt8).length+a.length≤4611686018427387904 then if (([123]:List UInt8) ++ a).length+([44,125]:List UInt8).length≤4611686018427387904 then (some ((([123]:List UInt8) ++ a) ++ ([44,125]:List UInt8))) else none else none) ((cond (v0 == v1) (if ([123]:List UInt8).length+a.length≤4611686018427387904 then if (([123]:List UInt8) ++ a).length+([125]:List UInt8).length≤4611686018427387904 then (some ((([123]:List UInt8) ++ a) ++ ([125]:List UInt8))) else none else none) ((if ([123]:List UInt8).length+a.length≤4611686018427387904 then if (([123]:List UInt8) ++ a).length+([44]:List UInt8).length≤4611686018427387904 then if ((([123]:List UInt8) ++ a) ++ ([44]:List UInt8)).length+b.length≤4611686018427387904 then if (((([123]:List UInt8) ++ a) ++ ([44]:List UInt8)) ++ b).length+([125]:List UInt8).length≤4611686018427387904 then (some ((((([123]:List UInt8) ++ a) ++ ([44]:List UInt8)) ++ b) ++ ([125]:List UInt8))) else none else none else none else none))))))
def ZiW (v0:Int) (v1:Int) (a:List UInt8) (b:List UInt8) (c:Bool):Option (List UInt8):=
  cond c ((some ([43]:List UInt8))) (cond (v0 == 0) ((ZiX v0 v1 a b (v1 == 1))) ((ZiX v0 v1 a b false)))
def ZiV (v0:Int) (v1:Int) (a:List UInt8) (b:List UInt8) (c:Bool):Option (List UInt8):=
  cond c ((some ([42]:List UInt8))) (cond (v0 == 1) ((ZiW v0 v1 a b (v1 == (-1)))) ((ZiW v0 v1 a b false)))
def F83 (k:Nat) (v0:Int) (v1:Int):Option (List UInt8):=
  (F88 k v0).bind fun a=>(F88 k v1).bind fun b=>(cond (v0 == 0) ((ZiV v0 v1 a b (v1 == (-1)))) ((ZiV v0 v1 a b false)))
theorem ZrK (k:Nat) (v0:Int) (v1:Int) (r:List UInt8) (a:F83 k v0 v1=some r):SM μ 83 [oi v0,oi v1] [] (one (.str r)) []:=by
 refine Zz [] Tryz.func83 rfl kr kr ?_
 show WA _ _ 51 _ _ _
 refine Ws [] [(0,oi v0),(1,oi v1)] [] ?_
 obtain ⟨c,a1,a⟩:=Zh a
 obtain ⟨d,a2,a⟩:=Zh a
 refine Wos [(1,.callR [] (one (.str c))),(3,.callR [] (one (.str d)))] [(0,oi v0),(1,oi v1),(5,one (.str c)),(6,one (.str d))] [] [SM μ 88 [oi v0] [] (one (.str c)) [],([]:List Nat).Nodup,SM μ 88 [oi v1] [] (one (.str d)) [],([]:List Nat).Nodup] ⟨(Zoy k _ _ a1),nd,(Zoy k _ _ a2),nd,trivial⟩ ?_
 refine WA.seq ?_
 refine WA.block ?_
 refine WA.join (fun s=>∃(n:Bool),J s [(0,oi v0),(1,oi v1),(5,one (.str c)),(6,one (.str d)),(11,ob n)] []∧ZiV v0 v1 c d n=some r) ?_ ?_
 {
 rintro s ⟨n,q,a⟩
 refine Wj q ?_
 clear q
 refine WA.cond (b:=n) rfl (fun h=>?_) (fun h=>?_)
 {
 have a:=Zk a h
 refine Ws [] [(4,one (.str ([42]:List UInt8)))] [] ?_
 refine WA.ret ?_
 obtain rfl:=zj_ a
 exact Zo (one (.str ([42]:List UInt8))) [] kr kr kr kr nd rfl rfl }
 {
 have a:=Zj a h
 refine WA.join (fun s=>∃(o:Bool),J s [(0,oi v0),(1,oi v1),(5,one (.str c)),(6,one (.str d)),(18,ob o)] []∧ZiW v0 v1 c d o=some r) ?_ ?_
 {
 rintro s ⟨o,q,a⟩
 refine Wj q ?_
 clear q
 refine WA.cond (b:=o) rfl (fun i=>?_) (fun i=>?_)
 {
 have a:=Zk a i
 refine Ws [] [(4,one (.str ([43]:List UInt8)))] [] ?_
 refine WA.ret ?_
 obtain rfl:=zj_ a
 exact Zo (one (.str ([43]:List UInt8))) [] kr kr kr kr nd rfl rfl }
 {
 have a:=Zj a i
 refine WA.join (fun s=>∃(p:Bool),J s [(0,oi v0),(1,oi v1),(5,one (.str c)),(6,one (.str d)),(25,ob p)] []∧ZiX v0 v1 c d p=some r) ?_ ?_
 {
 rintro s ⟨p,q,a⟩
 refine Wj q ?_
 clear q
 refine WA.cond (b:=p) rfl (fun j=>?_) (fun j=>?_)
 {
 have a:=Zk a j
 refine Ws [] [(4,one (.str ([63]:List UInt8)))] [] ?_
 refine WA.ret ?_
 obtain rfl:=zj_ a
 exact Zo (one (.str ([63]:List UInt8))) [] kr kr kr kr nd rfl rfl }
 {
 have a:=Zj a j
 refine Ws [] [(0,oi v0),(1,oi v1),(5,one (.str c)),(6,one (.str d)),(32,ob (v1 == (-1)))] [] ?_
 refine WA.cond (b:=(v1 == (-1))) rfl (fun l=>?_) (fun l=>?_)
 {
 have a:=Zk a l
 obtain ⟨t,a⟩:=Zn a
 obtain ⟨u,a⟩:=Zn a
 refine Wos [] [(4,one (.str ((([123]:List UInt8) ++ c) ++ ([44,125]:List UInt8))))] [] [([123]:List UInt8).length+c.length≤4611686018427387904,(([123]:List UInt8) ++ c).length+([44,125]:List UInt8).length≤4611686018427387904] ⟨t,u,trivial⟩ ?_
 refine WA.ret ?_
 obtain rfl:=zj_ a
 exact Zo (one (.str ((([123]:List UInt8) ++ c) ++ ([44,125]:List UInt8)))) [] kr kr kr kr nd rfl rfl }
 {
 have a:=Zj a l
 refine Ws [] [(5,one (.str c)),(6,one (.str d)),(38,ob (v0 == v1))] [] ?_
 refine WA.cond (b:=(v0 == v1)) rfl (fun m=>?_) (fun m=>?_)
 {
 have a:=Zk a m
 obtain ⟨v,a⟩:=Zn a
 obtain ⟨w,a⟩:=Zn a
 refine Wos [] [(4,one (.str ((([123]:List UInt8) ++ c) ++ ([125]:List UInt8))))] [] [([123]:List UInt8).length+c.length≤4611686018427387904,(([123]:List UInt8) ++ c).length+([125]:List UInt8).length≤4611686018427387904] ⟨v,w,trivial⟩ ?_
 refine WA.ret ?_
 obtain rfl:=zj_ a
 exact Zo (one (.str ((([123]:List UInt8) ++ c) ++ ([125]:List UInt8)))) [] kr kr kr kr nd rfl rfl }
 {
 have a:=Zj a m
 refine WA.skip ?_
 obtain ⟨x,a⟩:=Zn a
 obtain ⟨y,a⟩:=Zn a
 obtain ⟨z,a⟩:=Zn a
 obtain ⟨a0,a⟩:=Zn a
 refine Wos [] [(4,one (.str ((((([123]:List UInt8) ++ c) ++ ([44]:List UInt8)) ++ d) ++ ([125]:List UInt8))))] [] [([123]:List UInt8).length+c.length≤4611686018427387904,(([123]:List UInt8) ++ c).length+([44]:List UInt8).length≤4611686018427387904,((([123]:List UInt8) ++ c) ++ ([44]:List UInt8)).length+d.length≤4611686018427387904,(((([123]:List UInt8) ++ c) ++ ([44]:List UInt8)) ++ d).length+([125]:List UInt8).length≤4611686018427387904] ⟨x,y,z,a0,trivial⟩ ?_
 refine WA.ret ?_
 obtain rfl:=zj_ a
 exact Zo (one (.str ((((([123]:List UInt8) ++ c) ++ ([44]:List UInt8)) ++ d) ++ ([125]:List UInt8)))) [] kr kr kr kr nd rfl rfl } } } }
 {
 rcases zo_ (v0 == 0) with g | g
 {
 have a:=Zk a g
 refine Wo [(2,.bool true)] [(0,oi v0),(1,oi v1),(5,one (.str c)),(6,one (.str d)),(25,ob (v1 == 1))] [] [(v0 == 0)=true] ⟨g,trivial⟩ ?_
 exact ⟨(v1 == 1),jk,a⟩ }
 {
 have a:=Zj a g
 refine Wo [(2,.bool false)] [(0,oi v0),(1,oi v1),(5,one (.str c)),(6,one (.str d)),(25,ob false)] [] [(v0 == 0)=false] ⟨g,trivial⟩ ?_
 exact ⟨false,jk,a⟩ } } } }
 {
 rcases zo_ (v0 == 1) with f | f
 {
 have a:=Zk a f
 refine Wo [(2,.bool true)] [(0,oi v0),(1,oi v1),(5,one (.str c)),(6,one (.str d)),(18,ob (v1 == (-1)))] [] [(v0 == 1)=true] ⟨f,trivial⟩ ?_
 exact ⟨(v1 == (-1)),jk,a⟩ }
 {
 have a:=Zj a f
 refine Wo [(2,.bool false)] [(0,oi v0),(1,oi v1),(5,one (.str c)),(6,one (.str d)),(18,ob false)] [] [(v0 == 1)=false] ⟨f,trivial⟩ ?_
 exact ⟨false,jk,a⟩ } } } }
 {
 rcases zo_ (v0 == 0) with e | e
 {
 have a:=Zk a e
 refine Wo [(2,.bool true)] [(0,oi v0),(1,oi v1),(5,one (.str c)),(6,one (.str d)),(11,ob (v1 == (-1)))] [] [(v0 == 0)=true] ⟨e,trivial⟩ ?_
 exact ⟨(v1 == (-1)),jk,a⟩ }
 {
 have a:=Zj a e
 refine Wo [(2,.bool false)] [(0,oi v0),(1,oi v1),(5,one (.str c)),(6,one (.str d)),(11,ob false)] [] [(v0 == 0)=false] ⟨e,trivial⟩ ?_
 exact ⟨false,jk,a⟩ } }
def ZdF (a:List UInt8):Option (List UInt8):=
  if ([91]:List UInt8).length+a.length≤4611686018427387904 then if (([91]:List UInt8) ++ a).length+([93]:List UInt8).length≤4611686018427387904 then (some ((([91]:List UInt8) ++ a) ++ ([93]:List UInt8))) else none else none
def ZbN (k:Nat) (v0:List Zb) (e:Bool):Option (List UInt8):=
  cond e ((idxL v0 0).bind fun f=>(F107 k f.f_Lo).bind fun g=>(some g)) ((cond ((v0.length:Int) == 0) ((F107 k 0).bind fun a=>if ([91,94]:List UInt8).length+a.length≤4611686018427387904 then if (([91,94]:List UInt8) ++ a).length+([45]:List UInt8).length≤4611686018427387904 then (F107 k 1114111).bind fun b=>if ((([91,94]:List UInt8) ++ a) ++ ([45]:List UInt8)).length+b.length≤4611686018427387904 then if (((([91,94]:List UInt8) ++ a) ++ ([45]:List UInt8)) ++ b).length+([93]:List UInt8).length≤4611686018427387904 then (some ((((([91,94]:List UInt8) ++ a) ++ ([45]:List UInt8)) ++ b) ++ ([93]:List UInt8))) else none else none else none else none) ((F108 k v0).bind fun d=>(F109 k v0).bind fun h=>(F108 k h).bind fun c=>if ([94]:List UInt8).length+c.length≤4611686018427387904 then ((cond (decide (((([94]:List UInt8) ++ c).length:Int)<(d.length:Int))) ((ZdF (([94]:List UInt8) ++ c))) ((ZdF d)))) else none)))
def Zcd (k:Nat) (v0:List Zb) (a:Bool):Option (List UInt8):=
  cond a ((some ([46]:List UInt8))) (cond ((v0.length:Int) == 1) ((idxL v0 0).bind fun b=>(idxL v0 0).bind fun c=>(ZbN k v0 (b.f_Lo == c.f_Hi))) ((ZbN k v0 false)))
def F81 (k:Nat) (v0:List Zb):Option (List UInt8):=
  (F59 k).bind fun a=>(cond ((v0.length:Int) == 2) ((idxL v0 0).bind fun b=>(idxL a 0).bind fun c=>cond ((b.f_Lo == c.f_Lo) && ((b.f_Hi == c.f_Hi) && true)) ((idxL v0 1).bind fun d=>(idxL a 1).bind fun e=>(Zcd k v0 ((d.f_Lo == e.f_Lo) && ((d.f_Hi == e.f_Hi) && true)))) ((Zcd k v0 false))) ((Zcd k v0 false)))
theorem ZrJ (k:Nat) (v0:List Zb) (r:List UInt8) (a:F81 k v0=some r):SM μ 81 [one (.sl (v0.map Za))] [] (one (.str r)) []:=by
 refine Zz [] Tryz.func81 rfl kr kr ?_
 show WA _ _ 74 _ _ _
 refine Ws [] [(0,one (.sl (v0.map Za)))] [] ?_
 obtain ⟨m,b4,a⟩:=Zh a
 refine Wos [(0,.callR [] (one (.sl (m.map Za))))] [(0,one (.sl (v0.map Za))),(3,one (.sl (m.map Za)))] [] [SM μ 59 [] [] (one (.sl (m.map Za))) [],([]:List Nat).Nodup] ⟨(ZeT k _ b4),nd,trivial⟩ ?_
 refine WA.seq ?_
 refine WA.block ?_
 refine WA.join (fun s_=>∃(w:Bool),J s_ [(0,one (.sl (v0.map Za))),(7,ob w)] []∧Zcd k v0 w=some r) ?_ ?_
 {
 rintro s_ ⟨w,he,a⟩
 refine Wj he ?_
 clear he
 refine WA.cond (b:=w) rfl (fun s=>?_) (fun s=>?_)
 {
 have a:=Zk a s
 refine Ws [] [(2,one (.str ([46]:List UInt8)))] [] ?_
 refine WA.ret ?_
 obtain rfl:=zj_ a
 exact Zo (one (.str ([46]:List UInt8))) [] kr kr kr kr nd rfl rfl }
 {
 have a:=Zj a s
 refine WA.join (fun s_=>∃(x:Bool),J s_ [(0,one (.sl (v0.map Za))),(29,ob x)] []∧ZbN k v0 x=some r) ?_ ?_
 {
 rintro s_ ⟨x,he,a⟩
 refine Wj he ?_
 clear he
 refine WA.cond (b:=x) rfl (fun t=>?_) (fun t=>?_)
 {
 have a:=Zk a t
 obtain ⟨a3,b9,a⟩:=Zh a
 obtain ⟨a0,c0,a⟩:=Zh a
 refine Wos [(1,.cells (Za a3)),(4,.callR [] (one (.str a0)))] [(2,one (.str a0))] [] [idxL (v0.map Za) 0=some (Za a3),SM μ 107 [oi a3.f_Lo] [] (one (.str a0)) [],([]:List Nat).Nodup] ⟨(Zs _ b9),(Zel k _ _ c0),nd,trivial⟩ ?_
 refine WA.ret ?_
 obtain rfl:=zj_ a
 exact Zo (one (.str a0)) [] kr kr kr kr nd rfl rfl }
 {
 have a:=Zj a t
 refine WA.seq ?_
 refine Wm ((v0.map Za).length:Int) (v0.length:Int) (fun q=>([(0,one (.sl (v0.map Za))),(49,ob (q == 0))],[],[])) ((by first | (simp only [zl,Zi];done) | (simp only [zl,Zi];omega) | omega)) [] trivial ?_
 refine WA.cond (b:=((v0.length:Int) == 0)) rfl (fun u=>?_) (fun u=>?_)
 {
 have a:=Zk a u
 obtain ⟨f,c1,a⟩:=Zh a
 obtain ⟨a7,a⟩:=Zn a
 obtain ⟨a8,a⟩:=Zn a
 obtain ⟨p,c2,a⟩:=Zh a
 obtain ⟨a9,a⟩:=Zn a
 obtain ⟨b0,a⟩:=Zn a
 refine Wos [(0,.callR [] (one (.str f))),(3,.callR [] (one (.str p)))] [(2,one (.str ((((([91,94]:List UInt8) ++ f) ++ ([45]:List UInt8)) ++ p) ++ ([93]:List UInt8))))] [] [SM μ 107 [oi 0] [] (one (.str f)) [],([]:List Nat).Nodup,([91,94]:List UInt8).length+f.length≤4611686018427387904,(([91,94]:List UInt8) ++ f).length+([45]:List UInt8).length≤4611686018427387904,SM μ 107 [oi 1114111] [] (one (.str p)) [],([]:List Nat).Nodup,((([91,94]:List UInt8) ++ f) ++ ([45]:List UInt8)).length+p.length≤4611686018427387904,(((([91,94]:List UInt8) ++ f) ++ ([45]:List UInt8)) ++ p).length+([93]:List UInt8).length≤4611686018427387904] ⟨(Zel k _ _ c1),nd,a7,a8,(Zel k _ _ c2),nd,a9,b0,trivial⟩ ?_
 refine WA.ret ?_
 obtain rfl:=zj_ a
 exact Zo (one (.str ((((([91,94]:List UInt8) ++ f) ++ ([45]:List UInt8)) ++ p) ++ ([93]:List UInt8)))) [] kr kr kr kr nd rfl rfl }
 {
 have a:=Zj a u
 refine WA.skip ?_
 obtain ⟨i,c3,a⟩:=Zh a
 obtain ⟨a4,c4,a⟩:=Zh a
 obtain ⟨e,c5,a⟩:=Zh a
 obtain ⟨b1,a⟩:=Zn a
 refine Wos [(1,.callR [] (one (.str i))),(3,.callR [] (one (.sl (a4.map Za)))),(4,.callR [] (one (.str e)))] [(4,one (.str i)),(5,one (.str (([94]:List UInt8) ++ e)))] [] [SM μ 108 [one (.sl (v0.map Za))] [] (one (.str i)) [],([]:List Nat).Nodup,SM μ 109 [one (.sl (v0.map Za))] [] (one (.sl (a4.map Za))) [],([]:List Nat).Nodup,SM μ 108 [one (.sl (a4.map Za))] [] (one (.str e)) [],([]:List Nat).Nodup,([94]:List UInt8).length+e.length≤4611686018427387904] ⟨(ZmK k _ _ c3),nd,(ZmL k _ _ c4),nd,(ZmK k _ _ c5),nd,b1,trivial⟩ ?_
 refine WA.join (fun s_=>∃(h:List UInt8),J s_ [(4,one (.str h))] []∧ZdF h=some r) ?_ ?_
 {
 rintro s_ ⟨h,he,a⟩
 refine Wj he ?_
 clear he
 obtain ⟨b2,a⟩:=Zn a
 obtain ⟨b3,a⟩:=Zn a
 refine Wos [] [(2,one (.str ((([91]:List UInt8) ++ h) ++ ([93]:List UInt8))))] [] [([91]:List UInt8).length+h.length≤4611686018427387904,(([91]:List UInt8) ++ h).length+([93]:List UInt8).length≤4611686018427387904] ⟨b2,b3,trivial⟩ ?_
 refine WA.ret ?_
 obtain rfl:=zj_ a
 exact Zo (one (.str ((([91]:List UInt8) ++ h) ++ ([93]:List UInt8)))) [] kr kr kr kr nd rfl rfl }
 {
 refine Ws [] [(4,one (.str i)),(5,one (.str (([94]:List UInt8) ++ e))),(69,ob (decide (((([94]:List UInt8) ++ e).length:Int)<(i.length:Int))))] [] ?_
 refine WA.cond (b:=(decide (((([94]:List UInt8) ++ e).length:Int)<(i.length:Int)))) rfl (fun v=>?_) (fun v=>?_)
 {
 have a:=Zk a v
 refine Wr [] [(4,one (.str (([94]:List UInt8) ++ e)))] [] ?_
 exact ⟨(([94]:List UInt8) ++ e),jk,a⟩ }
 {
 have a:=Zj a v
 refine WA.skip ?_
 exact ⟨i,jk,a⟩ } } } } }
 {
 rcases zo_ ((v0.length:Int) == 1) with l | l
 {
 have a:=Zk a l
 obtain ⟨y,b7,a⟩:=Zh a
 obtain ⟨z,b8,a⟩:=Zh a
 refine Wdm ((v0.map Za).length:Int) (v0.length:Int) (fun q=>([(0,one (.sl (v0.map Za))),(29,ob (y.f_Lo == z.f_Hi))],[],[(q == 1)=true,idxL (v0.map Za) 0=some (Za y),idxL (v0.map Za) 0=some (Za z)])) ((by first | (simp only [zl,Zi];done) | (simp only [zl,Zi];omega) | omega)) [(3,.bool true),(5,.cells (Za y)),(9,.cells (Za z))] ⟨l,(Zs _ b7),(Zs _ b8),trivial⟩ ?_
 exact ⟨(y.f_Lo == z.f_Hi),jk,a⟩ }
 {
 have a:=Zj a l
 refine Wdm ((v0.map Za).length:Int) (v0.length:Int) (fun q=>([(0,one (.sl (v0.map Za))),(29,ob false)],[],[(q == 1)=false])) ((by first | (simp only [zl,Zi];done) | (simp only [zl,Zi];omega) | omega)) [(3,.bool false)] ⟨l,trivial⟩ ?_
 exact ⟨false,jk,a⟩ } } } }
 {
 rcases zo_ ((v0.length:Int) == 2) with g | g
 {
 have a:=Zk a g
 obtain ⟨c,a5,a⟩:=Zh a
 obtain ⟨d,a6,a⟩:=Zh a
 rcases zo_ ((c.f_Lo == d.f_Lo) && ((c.f_Hi == d.f_Hi) && true)) with j | j
 {
 have a:=Zk a j
 obtain ⟨n,b5,a⟩:=Zh a
 obtain ⟨o,b6,a⟩:=Zh a
 refine Wdm ((v0.map Za).length:Int) (v0.length:Int) (fun q=>([(0,one (.sl (v0.map Za))),(7,ob ((n.f_Lo == o.f_Lo) && ((n.f_Hi == o.f_Hi) && true)))],[],[(q == 2)=true,idxL (v0.map Za) 0=some (Za c),idxL (m.map Za) 0=some (Za d),((c.f_Lo == d.f_Lo) && ((c.f_Hi == d.f_Hi) && true))=true,idxL (v0.map Za) 1=some (Za n),idxL (m.map Za) 1=some (Za o)])) ((by first | (simp only [zl,Zi];done) | (simp only [zl,Zi];omega) | omega)) [(3,.bool true),(5,.cells (Za c)),(8,.cells (Za d)),(12,.bool true),(14,.cells (Za n)),(17,.cells (Za o))] ⟨g,(Zs _ a5),(Zs _ a6),j,(Zs _ b5),(Zs _ b6),trivial⟩ ?_
 exact ⟨((n.f_Lo == o.f_Lo) && ((n.f_Hi == o.f_Hi) && true)),jk,a⟩ }
 {
 have a:=Zj a j
 refine Wdm ((v0.map Za).length:Int) (v0.length:Int) (fun q=>([(0,one (.sl (v0.map Za))),(7,ob false)],[],[(q == 2)=true,idxL (v0.map Za) 0=some (Za c),idxL (m.map Za) 0=some (Za d),((c.f_Lo == d.f_Lo) && ((c.f_Hi == d.f_Hi) && true))=false])) ((by first | (simp only [zl,Zi];done) | (simp only [zl,Zi];omega) | omega)) [(3,.bool true),(5,.cells (Za c)),(8,.cells (Za d)),(12,.bool false)] ⟨g,(Zs _ a5),(Zs _ a6),j,trivial⟩ ?_
 exact ⟨false,jk,a⟩ } }
 {
 have a:=Zj a g
 refine Wdm ((v0.map Za).length:Int) (v0.length:Int) (fun q=>([(0,one (.sl (v0.map Za))),(7,ob false)],[],[(q == 2)=false])) ((by first | (simp only [zl,Zi];done) | (simp only [zl,Zi];omega) | omega)) [(3,.bool false)] ⟨g,trivial⟩ ?_
 exact ⟨false,jk,a⟩ } }
def Zf6 (k:Nat) (v0:Zd) (a:List (List UInt8)):Option (List UInt8):=
  if (0:Int)≤0∧0<(a.length:Int) then (idxL a 0).bind fun b=>(F83 k v0.f_Min v0.f_Max).bind fun c=>if b.length+c.length≤4611686018427387904 then (some (b ++ c)) else none else none
def ZiI (a:(List (List UInt8))→Int→Option (List UInt8)) (b:Int) (c:List (List UInt8)):Option (List UInt8):=
  a c (w64 (b+1))
def ZiH (d:(List (List UInt8))→Int→Option (List UInt8)) (b:List (List UInt8)) (a:Int) (e:Bool):Option (List UInt8):=
  cond e (if (0:Int)≤a∧a<(b.length:Int) then (idxL b a).bind fun c=>if ([40]:List UInt8).length+c.length≤4611686018427387904 then if (([40]:List UInt8) ++ c).length+([41]:List UInt8).length≤4611686018427387904 then if (0:Int)≤a∧a<(b.length:Int) then (idxL b a).bind fun f=>(ZiI d a (b.set (Int.toNat a) ((([40]:List UInt8) ++ c) ++ ([41]:List UInt8)))) else none else none else none else none) ((ZiI d a b))
def ZeU (k:Nat) (c:(List (List UInt8))→Int→Option (List UInt8)) (v0:Zd) (b:List (List UInt8)) (a:Int):Option (List UInt8):=
  (cond (decide (a<(v0.f_L.length:Int))) ((idxL v0.f_L a).bind fun d=>(cond (d.f_Kind == 3) ((ZiH c b a true)) ((ZiH c b a (d.f_Kind == 2))))) ((F82 k b ([]:List UInt8)).bind fun e=>(some e)))
def ZdD (k:Nat) (v0:Zd):Nat→(List (List UInt8))→Int→Option (List UInt8)
  | 0,_,_=>none
  | c+1,a,b=>ZeU k (ZdD k v0 c) v0 a b
def ZdC (R60:Zd→Option (List UInt8)) (k:Nat) (e:(List (List UInt8))→Int→Option (List UInt8)) (v0:Zd) (a:List (List UInt8)) (b:Int):Option (List UInt8):=
  (cond (decide (b<(v0.f_L.length:Int))) ((idxL v0.f_L b).bind fun f=>(R60 f).bind fun d=>if a.length+([d]:List (List UInt8)).length≤1073741824 then (e (a ++ ([d]:List (List UInt8))) (w64 (b+1))) else none) ((((cond (v0.f_Kind == 1) ((F81 k v0.f_Set).bind fun g=>(some g)) ((cond (v0.f_Kind == 3) ((F82 k a ([124]:List UInt8)).bind fun h=>(some h)) ((cond (v0.f_Kind == 2) ((ZdD k v0 k a 0)) ((idxL v0.f_L 0).bind fun i=>(cond (i.f_Kind != 1) (if (0:Int)≤0∧0<(a.length:Int) then (idxL a 0).bind fun c=>if ([40]:List UInt8).length+c.length≤4611686018427387904 then if (([40]:List UInt8) ++ c).length+([41]:List UInt8).length≤4611686018427387904 then if (0:Int)≤0∧0<(a.length:Int) then (idxL a 0).bind fun j=>(Zf6 k v0 (a.set (Int.toNat 0) ((([40]:List UInt8) ++ c) ++ ([41]:List UInt8)))) else none else none else none else none) ((Zf6 k v0 a)))))))))))))
def ZcJ (R60:Zd→Option (List UInt8)) (k:Nat) (v0:Zd):Nat→(List (List UInt8))→Int→Option (List UInt8)
  | 0,_,_=>none
  | c+1,a,b=>ZdC R60 k (ZcJ R60 k v0 c) v0 a b
def Zk5 (R60:Zd→Option (List UInt8)) (k:Nat) (v0:Zd):Option (List UInt8):=
  (((ZcJ R60 k v0 k ([]:List (List UInt8)) 0)))
theorem Zpu (R60:Zd→Option (List UInt8)) (IH60:∀(v0:Zd) (r:List UInt8),R60 v0=some r→SM μ 60 [tv (Zc v0)] [] (one (.str r)) []) (k:Nat) (v0:Zd) (r:List UInt8) (a:Zk5 R60 k v0=some r):SM μ 60 [tv (Zc v0)] [] (one (.str r)) []:=by
 refine Zz [] Tryz.func60 rfl kr kr ?_
 show WA _ _ 84 _ _ _
 refine Ws [(0,.obj 101)] [(1,pt 101)] [(101,bx (Zc v0))] ?_
 refine Ws [(0,.obj 103)] [(1,pt 101),(3,ar 103 0)] [(101,bx (Zc v0)),(103,.arr 1 (([]:List (List UInt8)).map eStr))] ?_
 refine WA.seq ?_
 refine WA.seq ?_
 refine Wm ((Zm v0.f_L).length:Int) (v0.f_L.length:Int) (fun m_=>([(1,pt 101),(3,ar 103 0),(9,one (.sl (Zm v0.f_L))),(10,oi m_),(11,oi 0)],[(101,bx (Zc v0)),(103,.arr 1 (([]:List (List UInt8)).map eStr))],[])) ((by first | (simp only [zl,Zi];done) | (simp only [zl,Zi];omega) | omega)) [] trivial ?_
 refine WA.block ?_
 refine WA.loop (fun m v=>∃(c:List (List UInt8)) (e:Nat) (i:Int),J v [(1,pt 101),(3,ar 103 e),(9,one (.sl (Zm v0.f_L))),(10,oi (v0.f_L.length:Int)),(11,oi i)] [(101,bx (Zc v0)),(103,.arr 1 (c.map eStr))]∧e=(c:List _).length∧ZcJ R60 k v0 m c i=some r) k ⟨([]:List (List UInt8)),0,0,jk,zt,a⟩ ?_
 clear a
 rintro m0 v ⟨c,e,i,u,e5,a⟩
 refine Wj u ?_
 clear u
 cases m0 with
 | zero=>cases a
 | succ m0=>
  obtain ⟨e4,b6⟩:∃g,g=ZcJ R60 k v0 m0:=⟨_,rfl⟩
  have a:ZdC R60 k e4 v0 c i=some r:=by first | (rw [b6];exact a) | exact a
  refine Ws [] [(1,pt 101),(3,ar 103 e),(9,one (.sl (Zm v0.f_L))),(10,oi (v0.f_L.length:Int)),(11,oi i),(12,ob (decide (i<(v0.f_L.length:Int))))] [(101,bx (Zc v0)),(103,.arr 1 (c.map eStr))] ?_
  refine WA.seq ?_
  refine WA.cond (b:=(decide (i<(v0.f_L.length:Int)))) rfl (fun a1=>?_) (fun a1=>?_)
  {
 have a:=Zk a a1
 refine WA.skip ?_
 refine WA.seq ?_
 refine WA.block ?_
 obtain ⟨b1,d1,a⟩:=Zh a
 refine Wos [(0,.cells (Zc b1)),(2,.obj 105)] [(1,pt 101),(3,ar 103 e),(5,pt 105),(9,one (.sl (Zm v0.f_L))),(10,oi (v0.f_L.length:Int)),(11,oi i)] [(101,bx (Zc v0)),(103,.arr 1 (c.map eStr)),(105,bx (Zc b1))] [idxL (Zm v0.f_L) i=some (Zc b1)] ⟨(ZO d1),trivial⟩ ?_
 obtain ⟨j,d2,a⟩:=Zh a
 obtain ⟨b8,a⟩:=Zn a
 refine Wm (((c.map eStr) ++ (([j]:List (List UInt8)).map eStr)):(List (List PV))) ((c ++ ([j]:List (List UInt8))).map eStr) (fun m_=>([(1,pt 101),(3,ar 103 (e+1)),(9,one (.sl (Zm v0.f_L))),(10,oi (v0.f_L.length:Int)),(11,oi i)],[(101,bx (Zc v0)),(103,.arr 1 m_)],[SM μ 60 [tv (Zc b1)] [] (one (.str j)) [],([]:List Nat).Nodup,e=(c.map eStr).length,(c.map eStr).length+(([j]:List (List UInt8)).map eStr).length≤1073741824,∀es,es∈(([j]:List (List UInt8)).map eStr)→es.length=1])) (zm) [(2,.callR [] (one (.str j)))] ⟨(IH60 _ _ d2),nd,zt,(by first | exact b8 | (simp only [List.length_map,Zi];exact b8)),(Zb2 _ _ _ (fun _=>rfl)),trivial⟩ ?_
 refine Wr [] [(1,pt 101),(3,ar 103 (e+1)),(9,one (.sl (Zm v0.f_L))),(10,oi (v0.f_L.length:Int)),(11,oi (w64 (i+1)))] [(101,bx (Zc v0)),(103,.arr 1 ((c ++ ([j]:List (List UInt8))).map eStr))] ?_
 exact ⟨m0,zl_ _,(c ++ ([j]:List (List UInt8))),(e+1),(w64 (i+1)),jk,zt,by rw [b6] at a;exact a⟩ }
  {
 have a:=Zj a a1
 refine WA.exit ?_
 refine WA.seq ?_
 refine Ws [] [(1,pt 101),(3,ar 103 e),(22,oi v0.f_Kind)] [(101,bx (Zc v0)),(103,.arr 1 (c.map eStr))] ?_
 refine WA.block ?_
 refine Ws [] [(1,pt 101),(3,ar 103 e),(22,oi v0.f_Kind),(23,ob (v0.f_Kind == 1))] [(101,bx (Zc v0)),(103,.arr 1 (c.map eStr))] ?_
 refine WA.cond (b:=(v0.f_Kind == 1)) rfl (fun a2=>?_) (fun a2=>?_)
 {
 have a:=Zk a a2
 obtain ⟨b2,d3,a⟩:=Zh a
 refine Wos [(2,.callR [] (one (.str b2)))] [(2,one (.str b2))] [] [SM μ 81 [one (.sl (v0.f_Set.map Za))] [] (one (.str b2)) [],([]:List Nat).Nodup] ⟨(ZrJ k _ _ d3),nd,trivial⟩ ?_
 refine WA.ret ?_
 obtain rfl:=zj_ a
 exact Zo (one (.str b2)) [] kr kr kr kr nd rfl rfl }
 {
 have a:=Zj a a2
 refine Ws [] [(1,pt 101),(3,ar 103 e),(22,oi v0.f_Kind),(28,ob (v0.f_Kind == 3))] [(101,bx (Zc v0)),(103,.arr 1 (c.map eStr))] ?_
 refine WA.cond (b:=(v0.f_Kind == 3)) rfl (fun a3=>?_) (fun a3=>?_)
 {
 have a:=Zk a a3
 refine WA.seq ?_
 refine WA.freeze 103 3 (s:=1) (n:=e) (els:=(c.map eStr)) rfl rfl zt ?_
 refine Wk [(1,pt 101),(3,one (.sl (c.map eStr))),(22,oi v0.f_Kind),(28,ob (v0.f_Kind == 3))] [(101,bx (Zc v0))] ?_
 obtain ⟨b3,d4,a⟩:=Zh a
 refine Wo [(1,.callR [] (one (.str b3)))] [(2,one (.str b3))] [] [SM μ 82 [one (.sl (c.map eStr)),one (.str ([124]:List UInt8))] [] (one (.str b3)) [],([]:List Nat).Nodup] ⟨(Zox k _ _ _ d4),nd,trivial⟩ ?_
 refine WA.ret ?_
 obtain rfl:=zj_ a
 exact Zo (one (.str b3)) [] kr kr kr kr nd rfl rfl }
 {
 have a:=Zj a a3
 refine Ws [] [(1,pt 101),(3,ar 103 e),(32,ob (v0.f_Kind == 2))] [(101,bx (Zc v0)),(103,.arr 1 (c.map eStr))] ?_
 refine WA.cond (b:=(v0.f_Kind == 2)) rfl (fun a4=>?_) (fun a4=>?_)
 {
 have a:=Zk a a4
 refine WA.seq ?_
 refine WA.seq ?_
 refine Wm ((Zm v0.f_L).length:Int) (v0.f_L.length:Int) (fun m_=>([(3,ar 103 e),(35,one (.sl (Zm v0.f_L))),(36,oi m_),(37,oi 0)],[(103,.arr 1 (c.map eStr))],[])) ((by first | (simp only [zl,Zi];done) | (simp only [zl,Zi];omega) | omega)) [] trivial ?_
 refine WA.block ?_
 refine WA.loop (fun m v=>∃(f:List (List UInt8)) (h:Nat) (d:Int),J v [(3,ar 103 h),(35,one (.sl (Zm v0.f_L))),(36,oi (v0.f_L.length:Int)),(37,oi d)] [(103,.arr 1 (f.map eStr))]∧h=(f:List _).length∧ZdD k v0 m f d=some r) k ⟨c,e,0,jk,zt,a⟩ ?_
 clear a
 rintro m5 v ⟨f,h,d,u,e6,a⟩
 refine Wj u ?_
 clear u
 cases m5 with
 | zero=>cases a
 | succ m5=>
  obtain ⟨a9,b7⟩:∃g,g=ZdD k v0 m5:=⟨_,rfl⟩
  have a:ZeU k a9 v0 f d=some r:=by first | (rw [b7];exact a) | exact a
  refine Ws [] [(3,ar 103 h),(35,one (.sl (Zm v0.f_L))),(36,oi (v0.f_L.length:Int)),(37,oi d),(38,ob (decide (d<(v0.f_L.length:Int))))] [(103,.arr 1 (f.map eStr))] ?_
  refine WA.seq ?_
  refine WA.cond (b:=(decide (d<(v0.f_L.length:Int)))) rfl (fun a5=>?_) (fun a5=>?_)
  {
 have a:=Zk a a5
 refine WA.skip ?_
 refine WA.join (fun v=>∃(w:List (List UInt8)) (y:Nat),J v [(3,ar 103 y),(35,one (.sl (Zm v0.f_L))),(36,oi (v0.f_L.length:Int)),(37,oi d)] [(103,.arr 1 (w.map eStr))]∧y=(w:List _).length∧ZiI a9 d w=some r) ?_ ?_
 {
 rintro v ⟨w,y,u,e7,a⟩
 refine Wj u ?_
 clear u
 refine Wr [] [(3,ar 103 y),(35,one (.sl (Zm v0.f_L))),(36,oi (v0.f_L.length:Int)),(37,oi (w64 (d+1)))] [(103,.arr 1 (w.map eStr))] ?_
 exact ⟨m5,zl_ _,w,y,(w64 (d+1)),jk,zt,by rw [b7] at a;exact a⟩ }
 {
 refine WA.block ?_
 obtain ⟨l,d5,a⟩:=Zh a
 refine Wos [(1,.cells (Zc l)),(3,.obj 107)] [(3,ar 103 h),(6,oi d),(7,pt 107),(35,one (.sl (Zm v0.f_L))),(36,oi (v0.f_L.length:Int)),(37,oi d)] [(103,.arr 1 (f.map eStr)),(107,bx (Zc l))] [idxL (Zm v0.f_L) d=some (Zc l)] ⟨(ZO d5),trivial⟩ ?_
 refine WA.join (fun v=>∃(b0:Bool),J v [(3,ar 103 h),(6,oi d),(35,one (.sl (Zm v0.f_L))),(36,oi (v0.f_L.length:Int)),(37,oi d),(49,ob b0)] [(103,.arr 1 (f.map eStr))]∧ZiH a9 f d b0=some r) ?_ ?_
 {
 rintro v ⟨b0,u,a⟩
 refine Wj u ?_
 clear u
 refine WA.cond (b:=b0) rfl (fun a6=>?_) (fun a6=>?_)
 {
 have a:=Zk a a6
 obtain ⟨b9,a⟩:=Zn a
 obtain ⟨p,d6,a⟩:=Zh a
 obtain ⟨c4,a⟩:=Zn a
 obtain ⟨c5,a⟩:=Zn a
 obtain ⟨c6,a⟩:=Zn a
 obtain ⟨c2,d7,a⟩:=Zh a
 have z0:d<((h:Nat):Int):=(by have h_:=b9.2;(try simp only [zl,Zi] at h_ ⊢);omega)
 refine Wm (((f.map eStr).set (Int.toNat d) (eStr ((([40]:List UInt8) ++ p) ++ ([41]:List UInt8)))):(List (List PV))) ((f.set (Int.toNat d) ((([40]:List UInt8) ++ p) ++ ([41]:List UInt8))).map eStr) (fun m_=>([(3,ar 103 h),(35,one (.sl (Zm v0.f_L))),(36,oi (v0.f_L.length:Int)),(37,oi d)],[(103,.arr 1 m_)],[h=(f.map eStr).length,(0:Int)≤d,d<((h:Nat):Int),h=(f.map eStr).length,(f.map eStr)[Int.toNat d]?=some [.str p],([40]:List UInt8).length+p.length≤4611686018427387904,(([40]:List UInt8) ++ p).length+([41]:List UInt8).length≤4611686018427387904,h=(f.map eStr).length,(0:Int)≤d,d<((h:Nat):Int),h=(f.map eStr).length,(f.map eStr)[Int.toNat d]?=some [.str c2]])) (zm) [(5,.cells [.str p]),(9,.cells [.str c2])] ⟨zt,b9.1,z0,zt,(Zr (Zs _ d6)),c4,c5,zt,c6.1,z0,zt,(Zr (Zs _ d7)),trivial⟩ ?_
 exact ⟨(f.set (Int.toNat d) ((([40]:List UInt8) ++ p) ++ ([41]:List UInt8))),h,jk,zt,a⟩ }
 {
 have a:=Zj a a6
 refine WA.skip ?_
 exact ⟨f,h,jk,zt,a⟩ } }
 {
 rcases zo_ (l.f_Kind == 3) with t | t
 {
 have a:=Zk a t
 refine Wo [(3,.bool true)] [(3,ar 103 h),(6,oi d),(35,one (.sl (Zm v0.f_L))),(36,oi (v0.f_L.length:Int)),(37,oi d),(49,ob true)] [(103,.arr 1 (f.map eStr))] [(l.f_Kind == 3)=true] ⟨t,trivial⟩ ?_
 exact ⟨true,jk,a⟩ }
 {
 have a:=Zj a t
 refine Wo [(3,.bool false)] [(3,ar 103 h),(6,oi d),(35,one (.sl (Zm v0.f_L))),(36,oi (v0.f_L.length:Int)),(37,oi d),(49,ob (l.f_Kind == 2))] [(103,.arr 1 (f.map eStr))] [(l.f_Kind == 3)=false] ⟨t,trivial⟩ ?_
 exact ⟨(l.f_Kind == 2),jk,a⟩ } } } }
  {
 have a:=Zj a a5
 refine WA.exit ?_
 refine WA.seq ?_
 refine WA.freeze 103 3 (s:=1) (n:=h) (els:=(f.map eStr)) rfl rfl zt ?_
 refine Wk [(3,one (.sl (f.map eStr)))] [] ?_
 obtain ⟨b4,d8,a⟩:=Zh a
 refine Wo [(1,.callR [] (one (.str b4)))] [(2,one (.str b4))] [] [SM μ 82 [one (.sl (f.map eStr)),one (.str ([]:List UInt8))] [] (one (.str b4)) [],([]:List Nat).Nodup] ⟨(Zox k _ _ _ d8),nd,trivial⟩ ?_
 refine WA.ret ?_
 obtain rfl:=zj_ a
 exact Zo (one (.str b4)) [] kr kr kr kr nd rfl rfl } }
 {
 have a:=Zj a a4
 refine WA.skip ?_
 refine WA.join (fun v=>∃(o:List (List UInt8)) (x:Nat),J v [(1,pt 101),(3,ar 103 x)] [(101,bx (Zc v0)),(103,.arr 1 (o.map eStr))]∧x=(o:List _).length∧Zf6 k v0 o=some r) ?_ ?_
 {
 rintro v ⟨o,x,u,e8,a⟩
 refine Wj u ?_
 clear u
 refine WA.seq ?_
 obtain ⟨c1,a⟩:=Zn a
 obtain ⟨z,e2,a⟩:=Zh a
 obtain ⟨a0,e3,a⟩:=Zh a
 obtain ⟨d0,a⟩:=Zn a
 refine Wd [(2,.cells [.str z]),(7,.callR [] (one (.str a0)))] [(2,one (.str (z ++ a0)))] [] [x=(o.map eStr).length,(0:Int)≤0,0<((x:Nat):Int),x=(o.map eStr).length,(o.map eStr)[Int.toNat 0]?=some [.str z],SM μ 83 [oi v0.f_Min,oi v0.f_Max] [] (one (.str a0)) [],([]:List Nat).Nodup,z.length+a0.length≤4611686018427387904] ⟨zt,c1.1,(by have h_:=c1.2;(try simp only [zl,Zi] at h_ ⊢);omega),zt,(Zr (Zs _ e2)),(ZrK k _ _ _ e3),nd,d0,trivial⟩ ?_
 refine WA.ret ?_
 obtain rfl:=zj_ a
 exact Zo (one (.str (z ++ a0))) [] kr kr kr kr nd rfl rfl }
 {
 obtain ⟨b5,d9,a⟩:=Zh a
 refine Wos [(2,.cells (Zc b5))] [(1,pt 101),(3,ar 103 e),(67,ob (b5.f_Kind != 1))] [(101,bx (Zc v0)),(103,.arr 1 (c.map eStr))] [idxL (Zm v0.f_L) 0=some (Zc b5)] ⟨(ZO d9),trivial⟩ ?_
 refine WA.cond (b:=(b5.f_Kind != 1)) rfl (fun a7=>?_) (fun a7=>?_)
 {
 have a:=Zk a a7
 obtain ⟨c0,a⟩:=Zn a
 obtain ⟨q,e0,a⟩:=Zh a
 obtain ⟨c7,a⟩:=Zn a
 obtain ⟨c8,a⟩:=Zn a
 obtain ⟨c9,a⟩:=Zn a
 obtain ⟨c3,e1,a⟩:=Zh a
 have z0:0<((e:Nat):Int):=(by have h_:=c0.2;(try simp only [zl,Zi] at h_ ⊢);omega)
 refine Wm (((c.map eStr).set (Int.toNat 0) (eStr ((([40]:List UInt8) ++ q) ++ ([41]:List UInt8)))):(List (List PV))) ((c.set (Int.toNat 0) ((([40]:List UInt8) ++ q) ++ ([41]:List UInt8))).map eStr) (fun m_=>([(1,pt 101),(3,ar 103 e)],[(101,bx (Zc v0)),(103,.arr 1 m_)],[e=(c.map eStr).length,(0:Int)≤0,0<((e:Nat):Int),e=(c.map eStr).length,(c.map eStr)[Int.toNat 0]?=some [.str q],([40]:List UInt8).length+q.length≤4611686018427387904,(([40]:List UInt8) ++ q).length+([41]:List UInt8).length≤4611686018427387904,e=(c.map eStr).length,(0:Int)≤0,0<((e:Nat):Int),e=(c.map eStr).length,(c.map eStr)[Int.toNat 0]?=some [.str c3]])) (zm) [(3,.cells [.str q]),(7,.cells [.str c3])] ⟨zt,c0.1,z0,zt,(Zr (Zs _ e0)),c7,c8,zt,c9.1,z0,zt,(Zr (Zs _ e1)),trivial⟩ ?_
 exact ⟨(c.set (Int.toNat 0) ((([40]:List UInt8) ++ q) ++ ([41]:List UInt8))),e,jk,zt,a⟩ }
 {
 have a:=Zj a a7
 refine WA.skip ?_
 exact ⟨c,e,jk,zt,a⟩ } } } } } }
def F60:Nat→Zd→Option (List UInt8)
  | 0,_=>none
  | k+1,v0=>Zk5 (F60 k) k v0
theorem Zoo:∀(k:Nat),∀(v0:Zd) (r:List UInt8),F60 k v0=some r→SM μ 60 [tv (Zc v0)] [] (one (.str r)) []
  | 0=>fun _ _ a=>by cases a
  | k+1=>fun v0 r a=>Zpu (F60 k) (Zoo k) k v0 r a
def Zit (b:List UInt8) (a:Bool):Option ((List UInt8)×Int):=
  cond a ((some (([]:List UInt8),8))) (((some (b,0))))
def F36 (k:Nat) (v0:Zd):Option ((List UInt8)×Int):=
  (F30 k v0).bind fun b=>(cond (!b) ((some (([]:List UInt8),1))) ((F60 k v0).bind fun a=>(cond (decide ((a.length:Int) > 400)) ((Zit a true)) ((F50 k v0).bind fun c=>(Zit a (decide (c > 14)))))))
theorem Zrz (k:Nat) (v0:Zd) (r:(List UInt8)×Int) (c:F36 k v0=some r):SM μ 36 [tv (Zc v0)] [] (.tup [(false,[.pv (.str r.1)]),(false,[.pv (.int .i64 r.2)])]) []:=by
 refine Zz [] Tryz.func36 rfl kr kr ?_
 show WA _ _ 19 _ _ _
 refine Ws [(0,.obj 101)] [(1,pt 101)] [(101,bx (Zc v0))] ?_
 refine WA.seq ?_
 obtain ⟨h,j,c⟩:=Zh c
 refine Wos [(1,.callR [] (ob h))] [(1,pt 101),(7,ob (!h))] [(101,bx (Zc v0))] [SM μ 30 [tv (Zc v0)] [] (ob h) [],([]:List Nat).Nodup] ⟨(Zlf k _ _ j),nd,trivial⟩ ?_
 refine WA.cond (b:=(!h)) rfl (fun e=>?_) (fun e=>?_)
 {
 have c:=Zk c e
 refine Ws [] [(2,one (.str ([]:List UInt8))),(3,oi 1)] [] ?_
 refine WA.ret ?_
 obtain rfl:=zj_ c
 exact Zo (.tup [(false,[.pv (.str ([]:List UInt8))]),(false,[.pv (.int .i64 1)])]) [] kr kr kr kr nd rfl rfl }
 {
 have c:=Zj c e
 refine WA.skip ?_
 obtain ⟨a,l,c⟩:=Zh c
 refine Wos [(1,.callR [] (one (.str a)))] [(1,pt 101),(4,one (.str a))] [(101,bx (Zc v0))] [SM μ 60 [tv (Zc v0)] [] (one (.str a)) [],([]:List Nat).Nodup] ⟨(Zoo k _ _ l),nd,trivial⟩ ?_
 refine WA.seq ?_
 refine WA.join (fun o=>∃(g:Bool),J o [(4,one (.str a)),(17,ob g)] []∧Zit a g=some r) ?_ ?_
 {
 rintro o ⟨g,n,c⟩
 refine Wj n ?_
 clear n
 refine WA.cond (b:=g) rfl (fun f=>?_) (fun f=>?_)
 {
 have c:=Zk c f
 refine Ws [] [(2,one (.str ([]:List UInt8))),(3,oi 8)] [] ?_
 refine WA.ret ?_
 obtain rfl:=zj_ c
 exact Zo (.tup [(false,[.pv (.str ([]:List UInt8))]),(false,[.pv (.int .i64 8)])]) [] kr kr kr kr nd rfl rfl }
 {
 have c:=Zj c f
 refine WA.skip ?_
 refine Ws [] [(2,one (.str a)),(3,oi 0)] [] ?_
 refine WA.ret ?_
 obtain rfl:=zj_ c
 exact Zo (.tup [(false,[.pv (.str a)]),(false,[.pv (.int .i64 0)])]) [] kr kr kr kr nd rfl rfl } }
 {
 rcases zo_ (decide ((a.length:Int) > 400)) with d | d
 {
 have c:=Zk c d
 refine Wo [(3,.bool true)] [(4,one (.str a)),(17,ob true)] [] [(decide ((a.length:Int) > 400))=true] ⟨d,trivial⟩ ?_
 exact ⟨true,jk,c⟩ }
 {
 have c:=Zj c d
 obtain ⟨i,m,c⟩:=Zh c
 refine Wo [(3,.bool false),(5,.callR [] (oi i))] [(4,one (.str a)),(17,ob (decide (i > 14)))] [] [(decide ((a.length:Int) > 400))=false,SM μ 50 [tv (Zc v0)] [] (oi i) [],([]:List Nat).Nodup] ⟨d,(Zlo k _ _ m),nd,trivial⟩ ?_
 exact ⟨(decide (i > 14)),jk,c⟩ } } }
end Go.Proofs.YthilboheomikjaaGreatDoor
end
section
namespace Go.Proofs.YthilboheomikjaaGreatDoor
open Go.AL Go.Lib
set_option maxRecDepth 100000
theorem Zv {x:Int} (h:-9223372036854775808≤x) (h':x≤9223372036854775807):w64 x=x:=by
  simp only [w64,IntKind.wrap,IntKind.bits,IntKind.signed];simp;omega
theorem Zx {α:Type} (l:List α) (i:Nat):idxL l (i:Int)=l[i]?:=by simp [idxL]
theorem dt {p:Prop} [Decidable p] (h:p):decide p=true:=decide_eq_true h
theorem df {p:Prop} [Decidable p] (h:¬p):decide p=false:=decide_eq_false h
def bad (l:List UInt8):Prop:=(decodeL l).1=65533∧(decodeL l).2=1
instance (l:List UInt8):Decidable (bad l):=by unfold bad;infer_instance
def ptsF:Nat→List UInt8→List Int
  | 0,_=>[]
  | n+1,l=>if l=[] then [] else ((decodeL l).1:Int) :: ptsF n (l.drop (decodeL l).2)
def pts (l:List UInt8):List Int:=ptsF l.length l
theorem ZfI (n:Nat):ptsF n []=[]:=by cases n <;> simp [ptsF]
theorem ZkJ:∀(n m:Nat) (l:List UInt8),l.length≤n→l.length≤m→ptsF n l=ptsF m l
  | 0,m,l,hn,_=>by
    have:l=[]:=List.eq_nil_of_length_eq_zero (by omega)
    subst this;rw [ZfI,ZfI]
  | n+1,0,l,_,hm=>by
    have:l=[]:=List.eq_nil_of_length_eq_zero (by omega)
    subst this;rw [ZfI,ZfI]
  | n+1,m+1,l,hn,hm=>by
    unfold ptsF
    by_cases hne:l=[]
    · simp [hne]
    · have hw:=decodeL_width l
      have hl:0<l.length:=List.length_pos_iff.2 hne
      rw [if_neg hne,if_neg hne,ZkJ n m (l.drop (decodeL l).2) (by rw [List.length_drop];omega) (by rw [List.length_drop];omega)]
theorem Zhv:pts []=[]:=rfl
theorem ZdQ {l:List UInt8} (hne:l≠[]):pts l=((decodeL l).1:Int) :: pts (l.drop (decodeL l).2):=by
  have hl:0<l.length:=List.length_pos_iff.2 hne
  have hw:=decodeL_width l
  obtain ⟨n,hn⟩:∃n,l.length=n+1:=⟨l.length-1,by omega⟩
  unfold pts
  rw [hn]
  show (if l=[] then [] else _)=_
  rw [if_neg hne,ZkJ n (l.drop (decodeL l).2).length _ (by rw [List.length_drop];omega) (Nat.le_refl _)]
theorem ZjJ {l:List UInt8} (hne:l≠[]) (h:validD l=true):¬bad l∧validD (l.drop (decodeL l).2)=true:=by
  rw [validD_step l hne] at h
  by_cases hb:(decodeL l).1=65533∧(decodeL l).2=1
  · rw [if_pos hb] at h;cases h
  · rw [if_neg hb] at h;exact ⟨hb,h⟩
theorem Zph {l:List UInt8} (hne:l≠[]) (h:bad l):validD l=false:=by rw [validD_step l hne];exact if_pos h
theorem ZcZ {l:List UInt8} (hne:l≠[]) (h:¬bad l):validD l=validD (l.drop (decodeL l).2):=by rw [validD_step l hne];exact if_neg h
def nxt (l:List UInt8):Int×Int:=if bad l then (-1,1) else (((decodeL l).1:Nat),((decodeL l).2:Nat))
def ZC (c:Int):Prop:=0≤c∧c≤1114111∧(c<55296∨57343<c)
instance (c:Int):Decidable (ZC c):=by unfold ZC;infer_instance
theorem Ze3 (l:List UInt8) (i:Nat):(l.getD i 0).toNat<256:=(l.getD i 0).toNat_lt
theorem ZrW {c:Nat} (h:ZC (c:Int)):(Utf8.encode (c:Int)).data.toList=if c<128 then [UInt8.ofNat c] else if c<2048 then [UInt8.ofNat (192+c / 64),UInt8.ofNat (128+c % 64)]
    else if c<65536 then [UInt8.ofNat (224+c / 4096),UInt8.ofNat (128+c / 64 % 64),UInt8.ofNat (128+c % 64)] else [UInt8.ofNat (240+c / 262144),UInt8.ofNat (128+c / 4096 % 64),UInt8.ofNat (128+c / 64 % 64),UInt8.ofNat (128+c % 64)]:=by
  have hv:Utf8.valid (c:Int)=true:=by
    unfold ZC at h
    simp only [Utf8.valid,Bool.or_eq_true,Bool.and_eq_true,decide_eq_true_eq];omega
  unfold Utf8.encode
  simp only [hv,if_true,Int.toNat_natCast]
  repeat' split
  all_goals first | rfl | omega
end Go.Proofs.YthilboheomikjaaGreatDoor
end
section
namespace Go.Proofs.YthilboheomikjaaGreatDoor
open Go.AL Go.Lib
set_option maxRecDepth 100000
def Small (l:List Zb):Prop:=∀r∈l,-4611686018427387904≤r.f_Lo∧r.f_Lo≤4611686018427387903
def ZS (l:List Zb) (a b:Nat):Prop:=∀p q x y,a≤p→p<q→q<b→l[p]?=some x→l[q]?=some y→x.f_Lo≤y.f_Lo
def ZaO (l l':List Zb) (a b:Nat):Prop:=∀p,(p<a∨b≤p)→l'[p]?=l[p]?
theorem Small.perm {l l':List Zb} (h:Small l) (p:List.Perm l' l):Small l':=fun r hr=>h r (p.mem_iff.1 hr)
theorem Small.at {l:List Zb} (h:Small l) {p:Nat} {x:Zb} (e:l[p]?=some x):-4611686018427387904≤x.f_Lo∧x.f_Lo≤4611686018427387903:=h x (List.mem_of_getElem? e)
def swp (l:List Zb) (i j:Nat) (x y:Zb):List Zb:=(l.set i y).set j x
theorem ZdS {l:List Zb} {i j:Nat} {x y:Zb} (hi:l[i]?=some x) (hj:l[j]?=some y):List.Perm (swp l i j x y) l:=by
  obtain ⟨h1,rfl⟩:=List.getElem?_eq_some_iff.1 hi
  obtain ⟨h2,rfl⟩:=List.getElem?_eq_some_iff.1 hj
  exact List.set_set_perm h1 h2
theorem Z5 {l:List Zb} {i j:Nat} {x y:Zb} (hi:l[i]?=some x) (hj:l[j]?=some y) (p:Nat):(swp l i j x y)[p]?=if p=j then some x else if p=i then some y else l[p]?:=by
  have h1:=(List.getElem?_eq_some_iff.1 hi).1
  have h2:=(List.getElem?_eq_some_iff.1 hj).1
  unfold swp
  rw [List.getElem?_set,List.length_set,List.getElem?_set]
  by_cases e1:p=j
  · rw [if_pos e1,if_pos e1.symm,if_pos (by omega)]
  · rw [if_neg e1,if_neg (fun h=>e1 h.symm)]
    by_cases e2:p=i
    · rw [if_pos e2,if_pos e2.symm,if_pos (by omega)]
    · rw [if_neg e2,if_neg (fun h=>e2 h.symm)]
theorem ZX (l:List Zb) (i j:Nat) (x y:Zb):(swp l i j x y).length=l.length:=by simp [swp]
theorem Ze6 {x y:Zb} (hx:-4611686018427387904≤x.f_Lo∧x.f_Lo≤4611686018427387903) (hy:-4611686018427387904≤y.f_Lo∧y.f_Lo≤4611686018427387903):w64 (x.f_Lo-y.f_Lo)=x.f_Lo-y.f_Lo:=Zv (by omega) (by omega)
theorem ZoO {k:Nat} {self8:List Zb→Int→Option (List Zb)} {a i:Nat}:∀(m j:Nat) (v:List Zb),a≤j→j≤i→i<v.length→v.length≤1073741824→j<m+a→
    ∃v',Zbo k self8 (a:Int) (i:Int) m v (j:Int)=self8 v' ((i+1:Nat):Int)∧List.Perm v' v∧ZaO v v' a (i+1)∧
      (Small v→(∀p q x y,a≤p→p<q→q≤i→q≠j→v[p]?=some x→v[q]?=some y→x.f_Lo≤y.f_Lo)→ZS v' a (i+1))
  | 0,j,v,ha,hj,hi,hv,hm=>by omega
  | m+1,j,v,ha,hj,hi,hv,hm=>by
    have stop:∀b:Bool,b=false→(Small v→(∀p q x y,a≤p→p<q→q≤i→q≠j→v[p]?=some x→v[q]?=some y→x.f_Lo≤y.f_Lo)→ZS v a (i+1))→
        ∃v',Zcp self8 (Zbo k self8 (a:Int) (i:Int) m) (i:Int) v (j:Int) b=self8 v' ((i+1:Nat):Int)∧List.Perm v' v∧ZaO v v' a (i+1)∧
          (Small v→(∀p q x y,a≤p→p<q→q≤i→q≠j→v[p]?=some x→v[q]?=some y→x.f_Lo≤y.f_Lo)→ZS v' a (i+1)):=fun b hb hs=>by
      subst hb
      refine ⟨v,?_,List.Perm.refl _,fun p _=>rfl,hs⟩
      unfold Zcp
      simp only [cond]
      rw [Zv (by omega) (by omega)];rfl
    have e:Zbo k self8 (a:Int) (i:Int) (m+1) v (j:Int)=Zfh k self8 (Zbo k self8 (a:Int) (i:Int) m) (a:Int) (i:Int) v (j:Int):=rfl
    rw [e]
    unfold Zfh
    by_cases hja:a<j
    · obtain ⟨x,hx⟩:∃x,v[j]?=some x:=⟨_,List.getElem?_eq_getElem (by omega)⟩
      obtain ⟨y,hy⟩:∃y,v[j-1]?=some y:=⟨_,List.getElem?_eq_getElem (by omega)⟩
      have ew:w64 ((j:Int)-1)=((j-1:Nat):Int):=by rw [Zv (by omega) (by omega)];omega
      rw [dt (by omega),ew]
      simp only [cond]
      rw [if_pos ⟨by omega,by omega⟩,Zx,hx]
      simp only [zb_]
      rw [if_pos ⟨by omega,by omega⟩,Zx,hy]
      simp only [zb_,F104]
      by_cases hc:w64 (x.f_Lo-y.f_Lo)<0
      · rw [dt hc]
        unfold Zcp
        simp only [cond]
        rw [ew,if_pos ⟨by omega,by omega⟩,Zx,hy]
        simp only [zb_]
        rw [if_pos ⟨by omega,by omega⟩,Zx,hx]
        simp only [zb_]
        rw [if_pos ⟨by omega,by omega⟩]
        rw [if_pos ⟨by omega,by rw [List.length_set];omega⟩]
        have hset:idxL (v.set (Int.toNat (j:Int)) y) ((j-1:Nat):Int)=some y:=by
          rw [Zx,List.getElem?_set,if_neg (by omega)];exact hy
        rw [hset]
        simp only [zb_,Int.toNat_natCast]
        have hget:=Z5 hx hy
        obtain ⟨v',e1,e2,e3,e4⟩:=ZoO (k:=k) (self8:=self8) (a:=a) (i:=i) m (j-1) (swp v j (j-1) x y) (by omega) (by omega) (by rw [ZX];exact hi) (by rw [ZX];exact hv) (by omega)
        refine ⟨v',e1,e2.trans (ZdS hx hy),fun p hp=>by rw [e3 p hp,hget,if_neg (by omega),if_neg (by omega)],fun hsm hs=>e4 (hsm.perm (ZdS hx hy)) ?_⟩
        have hxy:x.f_Lo≤y.f_Lo:=by
          have:=Ze6 (hsm.at hx) (hsm.at hy)
          omega
        intro p q x1 y1 hap hpq hqi hqj h1 h2
        rw [hget] at h1 h2
        rw [if_neg hqj] at h2
        by_cases e5:p=j-1
        · rw [if_pos e5] at h1
          obtain rfl:=zj_ h1
          by_cases e6:q=j
          · rw [if_pos e6] at h2
            obtain rfl:=zj_ h2
            exact hxy
          · rw [if_neg e6] at h2
            have:=hs (j-1) q y y1 (by omega) (by omega) hqi (by omega) hy h2
            omega
        · rw [if_neg e5] at h1
          by_cases e6:p=j
          · rw [if_pos e6] at h1
            obtain rfl:=zj_ h1
            rw [if_neg (by omega)] at h2
            exact hs (j-1) q _ _ (by omega) (by omega) hqi (by omega) hy h2
          · rw [if_neg e6] at h1
            by_cases e7:q=j
            · rw [if_pos e7] at h2
              obtain rfl:=zj_ h2
              exact hs p (j-1) _ _ hap (by omega) (by omega) (by omega) h1 hy
            · rw [if_neg e7] at h2
              exact hs p q _ _ hap hpq hqi e7 h1 h2
      · rw [df hc]
        refine stop _ rfl fun hsm hs=>?_
        have hyx:y.f_Lo≤x.f_Lo:=by
          have:=Ze6 (hsm.at hx) (hsm.at hy)
          omega
        intro p q x1 y1 hap hpq hqi h1 h2
        by_cases e5:q=j
        · subst e5
          rw [hx] at h2
          obtain rfl:=zj_ h2
          by_cases e6:p=q-1
          · subst e6
            rw [hy] at h1
            obtain rfl:=zj_ h1
            exact hyx
          · have:=hs p (q-1) _ _ hap (by omega) (by omega) (by omega) h1 hy
            omega
        · exact hs p q _ _ hap hpq (by omega) e5 h1 h2
    · rw [df (by omega)]
      simp only [cond]
      refine stop _ rfl fun hsm hs=>?_
      intro p q x1 y1 hap hpq hqi h1 h2
      exact hs p q _ _ hap hpq (by omega) (by omega) h1 h2
theorem Znj {k a b:Nat} (hk:b-a<k):∀(m i:Nat) (v:List Zb),a≤i→i≤b→b≤v.length→v.length≤1073741824→b-i<m→
    ∃v',Zb0 k (a:Int) (b:Int) m v (i:Int)=some v'∧List.Perm v' v∧ZaO v v' a b∧(Small v→ZS v a i→ZS v' a b)
  | 0,i,v,_,_,_,_,hm=>by omega
  | m+1,i,v,ha,hi,hb,hv,hm=>by
    have e:Zb0 k (a:Int) (b:Int) (m+1) v (i:Int)=Zdc k (Zb0 k (a:Int) (b:Int) m) (a:Int) (b:Int) v (i:Int):=rfl
    rw [e]
    unfold Zdc
    by_cases hib:i<b
    · rw [dt (by omega)]
      simp only [cond]
      obtain ⟨v1,e1,p1,o1,s1⟩:=ZoO (k:=k) (self8:=Zb0 k (a:Int) (b:Int) m) (a:=a) (i:=i) k i v ha (Nat.le_refl _) (by omega) hv (by omega)
      rw [e1]
      have hl:=p1.length_eq
      obtain ⟨v2,e2,p2,o2,s2⟩:=Znj (k:=k) (a:=a) (b:=b) hk m (i+1) v1 (by omega) (by omega) (by omega) (by omega) (by omega)
      refine ⟨v2,e2,p2.trans p1,fun p hp=>by rw [o2 p hp,o1 p (by omega)],fun hsm hs=>s2 (hsm.perm p1) (s1 hsm fun p q x y hap hpq hqi hq=>hs p q x y hap hpq (by omega))⟩
    · rw [df (by omega)]
      simp only [cond]
      obtain rfl:i=b:=by omega
      exact ⟨v,rfl,List.Perm.refl _,fun _ _=>rfl,fun _ h=>h⟩
theorem ZrZ {k a b:Nat} {v:List Zb} (hk:b-a<k) (hab:a≤b) (hb:b≤v.length) (hv:v.length≤1073741824) :
    ∃v',F149 k v (a:Int) (b:Int)=some v'∧List.Perm v' v∧ZaO v v' a b∧(Small v→ZS v' a b):=by
  unfold F149
  rw [Zv (by omega) (by omega)]
  by_cases h:a<b
  · obtain ⟨v',e,p,o,s⟩:=Znj (a:=a) hk k (a+1) v (by omega) (by omega) hb hv (by omega)
    exact ⟨v',e,p,o,fun hs=>s hs fun p q x y hp hq hq2=>by omega⟩
  · obtain rfl:a=b:=by omega
    obtain ⟨k,rfl⟩:∃q,k=q+1:=⟨k-1,by omega⟩
    refine ⟨v,?_,List.Perm.refl _,fun _ _=>rfl,fun _ p q x y hp hq hq2=>by omega⟩
    show Zdc _ _ _ _ _ _=_
    unfold Zdc
    rw [df (by omega)]
    rfl
end Go.Proofs.YthilboheomikjaaGreatDoor
end
section
namespace Go.Proofs.YthilboheomikjaaGreatDoor
open Go.AL Go.Lib
set_option maxRecDepth 100000
def sw {β:Type} (v:List Zb) (i j:Int) (K:List Zb→Option β):Option β:=
  if (0:Int)≤j∧j<(v.length:Int) then (idxL v j).bind fun y1=>if (0:Int)≤i∧i<(v.length:Int) then (idxL v i).bind fun y2=>if (0:Int)≤i∧i<(v.length:Int) then (idxL v i).bind fun y3=>
    if (0:Int)≤j∧j<((v.set (Int.toNat i) y1).length:Int) then (idxL (v.set (Int.toNat i) y1) j).bind fun y4=>K ((v.set (Int.toNat i) y1).set (Int.toNat j) y2) else none else none else none else none
theorem ZbJ {β:Type} {v:List Zb} {i j:Nat} {x y:Zb} (hi:v[i]?=some x) (hj:v[j]?=some y) (K:List Zb→Option β):sw v (i:Int) (j:Int) K=K (swp v i j x y):=by
  have h1:=(List.getElem?_eq_some_iff.1 hi).1
  have h2:=(List.getElem?_eq_some_iff.1 hj).1
  unfold sw
  rw [if_pos ⟨by omega,by omega⟩,Zx,hj]
  simp only [zb_]
  rw [if_pos ⟨by omega,by omega⟩,Zx,hi]
  simp only [zb_]
  rw [if_pos ⟨by omega,by omega⟩,if_pos ⟨by omega,by rw [List.length_set];omega⟩,Zx,Int.toNat_natCast,Int.toNat_natCast]
  have:(v.set i y)[j]?=some ((v.set i y)[j]'(by rw [List.length_set];exact h2)):=List.getElem?_eq_getElem _
  rw [this]
  rfl
theorem ZU {v:List Zb} {i:Nat} (h:i<v.length):∃x,v[i]?=some x:=⟨_,List.getElem?_eq_getElem h⟩
structure Kept (v v':List Zb) (a b:Nat):Prop where
  perm:List.Perm v' v
  out:ZaO v v' a b
theorem Kept.refl (v:List Zb) (a b:Nat):Kept v v a b:=⟨List.Perm.refl _,fun _ _=>rfl⟩
theorem Kept.trans {u v w:List Zb} {a b:Nat} (h:Kept u v a b) (h2:Kept v w a b):Kept u w a b:=⟨h2.perm.trans h.perm,fun p hp=>(h2.out p hp).trans (h.out p hp)⟩
theorem Kept.mono {u v:List Zb} {a b c d:Nat} (h:Kept u v a b) (h1:c≤a) (h2:b≤d):Kept u v c d:=⟨h.perm,fun p hp=>h.out p (by omega)⟩
theorem Kept.len {u v:List Zb} {a b:Nat} (h:Kept u v a b):v.length=u.length:=h.perm.length_eq
theorem Kept.swp {v:List Zb} {i j a b:Nat} {x y:Zb} (hi:v[i]?=some x) (hj:v[j]?=some y) (h1:a≤i) (h2:i<b) (h3:a≤j) (h4:j<b):Kept v (swp v i j x y) a b:=
  ⟨ZdS hi hj,fun p hp=>by rw [Z5 hi hj,if_neg (by omega),if_neg (by omega)]⟩
theorem Zmp:∀(m i j:Nat) (v:List Zb),i≤j+1→j<v.length→v.length≤1073741824→j-i<m→(j=0→i=0)→
    ∃v',ZbE m v (i:Int) (j:Int)=some v'∧Kept v v' i (j+1)
  | 0,i,j,v,_,_,_,hm,_=>by omega
  | m+1,i,j,v,hij,hj,hv,hm,h0=>by
    have e:ZbE (m+1) v (i:Int) (j:Int)=Zdf (ZbE m) v (i:Int) (j:Int):=rfl
    rw [e]
    unfold Zdf
    by_cases h:i<j
    · obtain ⟨x,hx⟩:=ZU (v:=v) (i:=i) (by omega)
      obtain ⟨y,hy⟩:=ZU (v:=v) (i:=j) (by omega)
      rw [dt (by omega)]
      simp only [cond]
      have e2:=ZbJ hx hy (fun l=>ZbE m l (w64 ((i:Int)+1)) (w64 ((j:Int)-1)))
      unfold sw at e2
      rw [e2,Zv (by omega) (by omega),Zv (by omega) (by omega),show (j:Int)-1=((j-1:Nat):Int) by omega]
      by_cases h1:i+1≤j-1+1∧(j-1=0→i+1=0)
      · obtain ⟨v',e3,k3⟩:=Zmp m (i+1) (j-1) (swp v i j x y) h1.1 (by rw [ZX];omega) (by rw [ZX];exact hv) (by omega) h1.2
        exact ⟨v',e3,(Kept.swp hx hy (by omega) (by omega) (by omega) (by omega)).trans (k3.mono (by omega) (by omega))⟩
      · obtain ⟨m,rfl⟩:∃q,m=q+1:=⟨m-1,by omega⟩
        refine ⟨swp v i j x y,?_,Kept.swp hx hy (by omega) (by omega) (by omega) (by omega)⟩
        show Zdf (ZbE m) _ _ _=_
        unfold Zdf
        rw [df (by omega)]
        rfl
    · rw [df (by omega)]
      exact ⟨v,rfl,Kept.refl _ _ _⟩
theorem Zsc {k a b:Nat} {v:List Zb} (hk:b-a<k) (hab:a<b) (hb:b≤v.length) (hv:v.length≤1073741824):∃v',F153 k v (a:Int) (b:Int)=some v'∧Kept v v' a b:=by
  unfold F153
  rw [Zv (by omega) (by omega),show (b:Int)-1=((b-1:Nat):Int) by omega]
  obtain ⟨v',e,h⟩:=Zmp k a (b-1) v (by omega) (by omega) hv (by omega) (by omega)
  exact ⟨v',e,by rw [show b-1+1=b by omega] at h;exact h⟩
theorem Zgx {k i j:Nat} {v:List Zb} {s:Int} (hi:i<v.length) (hj:j<v.length):∃p q s',F191 k v (i:Int) (j:Int) s=some (((p:Nat):Int),((q:Nat):Int),v,s')∧((p=i∧q=j)∨(p=j∧q=i)):=by
  obtain ⟨x,hx⟩:=ZU hi
  obtain ⟨y,hy⟩:=ZU hj
  unfold F191
  rw [if_pos ⟨by omega,by omega⟩,Zx,hy]
  simp only [zb_]
  rw [if_pos ⟨by omega,by omega⟩,Zx,hx]
  simp only [zb_,F104]
  by_cases h:w64 (y.f_Lo-x.f_Lo)<0
  · rw [dt h];exact ⟨j,i,_,rfl,.inr ⟨rfl,rfl⟩⟩
  · rw [df h];exact ⟨i,j,_,rfl,.inl ⟨rfl,rfl⟩⟩
theorem Zkz {k i j l:Nat} {v:List Zb} {s:Int} (hi:i<v.length) (hj:j<v.length) (hl:l<v.length):∃p s',F178 k v (i:Int) (j:Int) (l:Int) s=some (((p:Nat):Int),v,s')∧(p=i∨p=j∨p=l):=by
  unfold F178
  obtain ⟨p1,q1,s1,e1,h1⟩:=Zgx (k:=k) (s:=s) hi hj
  rw [e1]
  simp only [zb_]
  rw [if_pos trivial]
  have hp1:p1<v.length:=by rcases h1 with ⟨a,b⟩ | ⟨a,b⟩ <;> omega
  have hq1:q1<v.length:=by rcases h1 with ⟨a,b⟩ | ⟨a,b⟩ <;> omega
  obtain ⟨p2,q2,s2,e2,h2⟩:=Zgx (k:=k) (s:=s1) hq1 hl
  rw [e2]
  simp only [zb_]
  rw [if_pos trivial]
  have hp2:p2<v.length:=by rcases h2 with ⟨a,b⟩ | ⟨a,b⟩ <;> omega
  obtain ⟨p3,q3,s3,e3,h3⟩:=Zgx (k:=k) (s:=s2) hp1 hp2
  rw [e3]
  simp only [zb_]
  rw [if_pos trivial]
  exact ⟨q3,s3,rfl,by omega⟩
theorem Zd9 {k i:Nat} {v:List Zb} {s:Int} (h0:0<i) (hi:i+1<v.length) (hv:v.length≤1073741824):∃p s',F177 k v (i:Int) s=some (((p:Nat):Int),v,s')∧i≤p+1∧p≤i+1:=by
  unfold F177
  rw [Zv (by omega) (by omega),Zv (by omega) (by omega),show (i:Int)-1=((i-1:Nat):Int) by omega,show (i:Int)+1=((i+1:Nat):Int) by omega]
  obtain ⟨p,s',e,h⟩:=Zkz (k:=k) (v:=v) (i:=i-1) (j:=i) (l:=i+1) (s:=s) (by omega) (by omega) hi
  rw [e]
  simp only [zb_]
  rw [if_pos trivial]
  exact ⟨p,s',rfl,by omega,by omega⟩
theorem Zq8 (v:List Zb) (s:Int) (p:Int):∃h,Zeu v s p=some (p,h,v):=by
  unfold Zeu
  cases s == 0
  · cases s == 12
    · exact ⟨_,rfl⟩
    · exact ⟨_,rfl⟩
  · exact ⟨_,rfl⟩
theorem Zoa (n:Nat):Int.tdiv (n:Int) 4=((n / 4:Nat):Int):=by
  rw [Int.tdiv_eq_ediv_of_nonneg (by omega)];rfl
theorem ZpZ {k a b:Nat} {v:List Zb} (hab:a+12<b) (hb:b≤v.length) (hv:v.length≤1073741824):∃p h,F152 k v (a:Int) (b:Int)=some (((p:Nat):Int),h,v)∧a≤p∧p<b:=by
  unfold F152
  rw [if_pos (by decide),if_pos (by decide),if_pos (by decide)]
  have e0:w64 ((b:Int)-(a:Int))=((b-a:Nat):Int):=by rw [Zv (by omega) (by omega)];omega
  rw [e0,Zoa]
  have eq:w64 ((((b-a) / 4:Nat)):Int)=(((b-a) / 4:Nat):Int):=Zv (by omega) (by omega)
  rw [eq]
  have e1:w64 ((a:Int)+w64 ((((b-a) / 4:Nat):Int)*1))=((a+(b-a) / 4:Nat):Int):=by rw [Zv (x:=_*1) (by omega) (by omega),Zv (by omega) (by omega)];omega
  have e2:w64 ((a:Int)+w64 ((((b-a) / 4:Nat):Int)*2))=((a+(b-a) / 4*2:Nat):Int):=by rw [Zv (x:=_*2) (by omega) (by omega),Zv (by omega) (by omega)];omega
  have e3:w64 ((a:Int)+w64 ((((b-a) / 4:Nat):Int)*3))=((a+(b-a) / 4*3:Nat):Int):=by rw [Zv (x:=_*3) (by omega) (by omega),Zv (by omega) (by omega)];omega
  rw [e1,e2,e3,dt (by omega)]
  simp only [cond]
  have fin:∀(s:Int) (i j l:Nat),a≤i→i<b→a≤j→j<b→a≤l→l<b→∃p h,Zet k v s (i:Int) (j:Int) (l:Int)=some (((p:Nat):Int),h,v)∧a≤p∧p<b:=fun s i j l h1 h2 h3 h4 h5 h6=>by
    unfold Zet
    obtain ⟨p,s',e,hp⟩:=Zkz (k:=k) (v:=v) (i:=i) (j:=j) (l:=l) (s:=s) (by omega) (by omega) (by omega)
    rw [e]
    simp only [zb_]
    rw [if_pos trivial]
    obtain ⟨h,e4⟩:=Zq8 v s' (p:Int)
    exact ⟨p,h,e4,by omega,by omega⟩
  by_cases h50:50≤b-a
  · rw [dt (by omega)]
    simp only
    obtain ⟨p1,s1,f1,g1⟩:=Zd9 (k:=k) (v:=v) (i:=a+(b-a) / 4) (s:=0) (by omega) (by omega) hv
    rw [f1]
    simp only [zb_]
    rw [if_pos trivial]
    obtain ⟨p2,s2,f2,g2⟩:=Zd9 (k:=k) (v:=v) (i:=a+(b-a) / 4*2) (s:=s1) (by omega) (by omega) hv
    rw [f2]
    simp only [zb_]
    rw [if_pos trivial]
    obtain ⟨p3,s3,f3,g3⟩:=Zd9 (k:=k) (v:=v) (i:=a+(b-a) / 4*3) (s:=s2) (by omega) (by omega) hv
    rw [f3]
    simp only [zb_]
    rw [if_pos trivial]
    exact fin s3 p1 p2 p3 (by omega) (by omega) (by omega) (by omega) (by omega) (by omega)
  · rw [df (by omega)]
    exact fin 0 _ _ _ (by omega) (by omega) (by omega) (by omega) (by omega) (by omega)
end Go.Proofs.YthilboheomikjaaGreatDoor
end
