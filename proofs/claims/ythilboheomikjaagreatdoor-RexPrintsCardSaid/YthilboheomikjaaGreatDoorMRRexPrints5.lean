/- G4, P10, P2, G7, G9, P5, P6, P7, G13, Q9, N5, N6, N7, N8, N9, G3, G5, N10 -/
import Derived.Test.YthilboheomikjaaGreatDoorMRRexPrints4
import Derived.Shelf.Strings.Runes
import Derived.Shelf.Strings.IndexAny
import Derived.Below
import Derived.WalkKit
import Derived.Defers
import Derived.Recover
set_option linter.unusedVariables false
set_option linter.unusedSimpArgs false
section
namespace Go.Proofs.YthilboheomikjaaGreatDoor
open Go.AL
variable {μ:Int}
set_option maxRecDepth 100000
def Zf0 (a:(List Bool)→Int→Option (List Bool)) (b:Int) (c:List Bool):Option (List Bool):=
  a c (w64 (b+1))
def Ziv (k:Nat) (c:(List Bool)→Int→Option (List Bool)) (v0:Zd) (v1:List Int) (g:List Bool) (b:List Bool) (a:Int):Option (List Bool):=
  (cond (decide (a<(v1.length:Int))) ((idxL g a).bind fun d=>cond d ((idxL v1 a).bind fun e=>(F68 k v0.f_Set e).bind fun f=>if (0:Int)≤(w64 (a+1))∧(w64 (a+1))<(b.length:Int) then (idxL b (w64 (a+1))).bind fun h=>(Zf0 c a (b.set (Int.toNat (w64 (a+1))) f)) else none) (if (0:Int)≤(w64 (a+1))∧(w64 (a+1))<(b.length:Int) then (idxL b (w64 (a+1))).bind fun i=>(Zf0 c a (b.set (Int.toNat (w64 (a+1))) false)) else none)) (((some b))))
def Zb8 (k:Nat) (v0:Zd) (v1:List Int) (c:List Bool):Nat→(List Bool)→Int→Option (List Bool)
  | 0,_,_=>none
  | d+1,a,b=>Ziv k (Zb8 k v0 v1 c d) v0 v1 c a b
def ZeH (R45:Zd→(List Int)→(List Bool)→Option (List Bool)) (k:Nat) (c:(List Bool)→Int→Option (List Bool)) (v0:Zd) (v1:List Int) (f:List Bool) (a:List Bool) (v158:Int):Option (List Bool):=
  (cond (decide (v158<(v0.f_L.length:Int))) ((idxL v0.f_L v158).bind fun d=>(R45 d v1 f).bind fun e=>(F69 k a e).bind fun b=>if b.2.length=a.length then (c b.2 (w64 (v158+1))) else none) (((some a))))
def ZeJ (R45:Zd→(List Int)→(List Bool)→Option (List Bool)) (k:Nat) (v0:Zd) (v1:List Int) (b:List Bool):Nat→(List Bool)→Int→Option (List Bool)
  | 0,_,_=>none
  | c+1,a,v158=>ZeH R45 k (ZeJ R45 k v0 v1 b c) v0 v1 b a v158
def ZeI (R45:Zd→(List Int)→(List Bool)→Option (List Bool)) (c:(List Bool)→Int→Option (List Bool)) (v0:Zd) (v1:List Int) (d:List Bool) (a:List Bool) (b:Int):Option (List Bool):=
  (cond (decide (b<(v0.f_L.length:Int))) ((idxL v0.f_L b).bind fun e=>(R45 e v1 a).bind fun f=>(c f (w64 (b+1)))) ((if (0:Int)≤0∧0≤((List.replicate (Int.toNat (d.length:Int)) false).length:Int) then if ((List.replicate (Int.toNat (d.length:Int)) false).take (Int.toNat 0)).length+a.length≤1073741824 then (some (((List.replicate (Int.toNat (d.length:Int)) false).take (Int.toNat 0)) ++ a)) else none else none)))
def ZeK (R45:Zd→(List Int)→(List Bool)→Option (List Bool)) (v0:Zd) (v1:List Int) (c:List Bool):Nat→(List Bool)→Int→Option (List Bool)
  | 0,_,_=>none
  | d+1,a,b=>ZeI R45 (ZeK R45 v0 v1 c d) v0 v1 c a b
def Ziy (a:List Bool):Option (List Bool):=
  (some a)
def Zix (R45:Zd→(List Int)→(List Bool)→Option (List Bool)) (k:Nat) (e:(List Bool)→(List Bool)→Int→Option (List Bool)) (v0:Zd) (v1:List Int) (b:List Bool) (f:List Bool) (c:Int):Option (List Bool):=
  (cond (c != v0.f_Max) ((idxL v0.f_L 0).bind fun g=>(R45 g v1 f).bind fun d=>(F69 k b d).bind fun a=>if a.2.length=b.length then (cond (!a.1) ((Ziy a.2)) ((e a.2 d (w64 (c+1))))) else none) ((Ziy b)))
def ZeM (R45:Zd→(List Int)→(List Bool)→Option (List Bool)) (k:Nat) (v0:Zd) (v1:List Int):Nat→(List Bool)→(List Bool)→Int→Option (List Bool)
  | 0,_,_,_=>none
  | d+1,a,b,c=>Zix R45 k (ZeM R45 k v0 v1 d) v0 v1 a b c
def Ziw (R45:Zd→(List Int)→(List Bool)→Option (List Bool)) (k:Nat) (d:(List Bool)→Int→Option (List Bool)) (v0:Zd) (v1:List Int) (g:List Bool) (a:List Bool) (b:Int):Option (List Bool):=
  (cond (decide (b<v0.f_Min)) ((idxL v0.f_L 0).bind fun e=>(R45 e v1 a).bind fun f=>(d f (w64 (b+1)))) ((F69 k (List.replicate (Int.toNat (g.length:Int)) false) a).bind fun c=>if c.2.length=(List.replicate (Int.toNat (g.length:Int)) false).length then ((ZeM R45 k v0 v1 k c.2 a v0.f_Min)) else none))
def ZeL (R45:Zd→(List Int)→(List Bool)→Option (List Bool)) (k:Nat) (v0:Zd) (v1:List Int) (c:List Bool):Nat→(List Bool)→Int→Option (List Bool)
  | 0,_,_=>none
  | d+1,a,b=>Ziw R45 k (ZeL R45 k v0 v1 c d) v0 v1 c a b
def Zk2 (R45:Zd→(List Int)→(List Bool)→Option (List Bool)) (k:Nat) (v0:Zd) (v1:List Int) (a:List Bool):Option (List Bool):=
  (if (0:Int)≤(a.length:Int)∧((a.length:Int):Int)≤1073741824 then (((cond (v0.f_Kind == 1) ((Zb8 k v0 v1 a k (List.replicate (Int.toNat (a.length:Int)) false) 0)) ((cond (v0.f_Kind == 3) ((ZeJ R45 k v0 v1 a k (List.replicate (Int.toNat (a.length:Int)) false) 0)) ((cond (v0.f_Kind == 2) (((ZeK R45 v0 v1 a k a 0))) ((if ([]:List Bool).length+a.length≤1073741824 then ((ZeL R45 k v0 v1 a k (([]:List Bool) ++ a) 0)) else none))))))))) else none)
theorem Zpp (R45:Zd→(List Int)→(List Bool)→Option (List Bool)) (IH45:∀(v0:Zd) (v1:List Int) (c:List Bool) (r:List Bool),R45 v0 v1 c=some r→SM μ 45 [tv (Zc v0),one (.sl (v1.map (eInt .i64))),one (.sl (c.map Zp))] [] (one (.sl (r.map Zp))) []) (k:Nat) (v0:Zd) (v1:List Int) (c:List Bool) (r:List Bool) (a:Zk2 R45 k v0 v1 c=some r):SM μ 45 [tv (Zc v0),one (.sl (v1.map (eInt .i64))),one (.sl (c.map Zp))] [] (one (.sl (r.map Zp))) []:=by
 refine Zz [] Tryz.func45 rfl kr kr ?_
 show WA _ _ 127 _ _ _
 refine Ws [(0,.obj 103)] [(1,one (.sl (v1.map (eInt .i64)))),(2,one (.sl (c.map Zp))),(3,pt 103)] [(103,bx (Zc v0))] ?_
 refine WA.seq ?_
 obtain ⟨d2,a⟩:=Zn a
 refine Wm ((((c.map Zp).length:Int),(List.replicate (Int.toNat ((c.map Zp).length:Int)) (Zp false))):Int×(List (List PV))) ((c.length:Int),((List.replicate (Int.toNat (c.length:Int)) false).map Zp)) (fun j=>([(1,one (.sl (v1.map (eInt .i64)))),(2,one (.sl (c.map Zp))),(3,pt 103),(7,ar 117 (Int.toNat j.1))],[(103,bx (Zc v0)),(117,.arr 1 j.2)],[(j.1:Int)=j.1,(0:Int)≤j.1,(j.1:Int)≤1073741824])) (ZJ (by first | (simp only [zl,Zi];done) | (simp only [zl,Zi];omega) | omega) zm) [(2,.obj 117)] ⟨rfl,d2.1,d2.2,trivial⟩ ?_
 refine WA.seq ?_
 refine Ws [] [(1,one (.sl (v1.map (eInt .i64)))),(2,one (.sl (c.map Zp))),(3,pt 103),(7,ar 117 (Int.toNat (c.length:Int))),(19,oi v0.f_Kind)] [(103,bx (Zc v0)),(117,.arr 1 ((List.replicate (Int.toNat (c.length:Int)) false).map Zp))] ?_
 refine WA.block ?_
 refine Ws [] [(1,one (.sl (v1.map (eInt .i64)))),(2,one (.sl (c.map Zp))),(3,pt 103),(7,ar 117 (Int.toNat (c.length:Int))),(19,oi v0.f_Kind),(20,ob (v0.f_Kind == 1))] [(103,bx (Zc v0)),(117,.arr 1 ((List.replicate (Int.toNat (c.length:Int)) false).map Zp))] ?_
 refine WA.cond (b:=(v0.f_Kind == 1)) rfl (fun b2=>?_) (fun b2=>?_)
 {
 have a:=Zk a b2
 refine WA.seq ?_
 refine Ws [] [(1,one (.sl (v1.map (eInt .i64)))),(2,one (.sl (c.map Zp))),(3,pt 103),(7,ar 117 (Int.toNat (c.length:Int))),(8,oi 0)] [(103,bx (Zc v0)),(117,.arr 1 ((List.replicate (Int.toNat (c.length:Int)) false).map Zp))] ?_
 refine WA.block ?_
 refine WA.loop (fun m x=>∃(e:List Bool) (f:Nat) (d:Int),J x [(1,one (.sl (v1.map (eInt .i64)))),(2,one (.sl (c.map Zp))),(3,pt 103),(7,ar 117 f),(8,oi d)] [(103,bx (Zc v0)),(117,.arr 1 (e.map Zp))]∧f=(e:List _).length∧Zb8 k v0 v1 c m e d=some r) k ⟨(List.replicate (Int.toNat (c.length:Int)) false),(Int.toNat (c.length:Int)),0,jk,zt,a⟩ ?_
 clear a
 rintro m2 x ⟨e,f,d,w,g1,a⟩
 refine Wj w ?_
 clear w
 cases m2 with
 | zero=>cases a
 | succ m2=>
  obtain ⟨d9,c1⟩:∃g,g=Zb8 k v0 v1 c m2:=⟨_,rfl⟩
  have a:Ziv k d9 v0 v1 c e d=some r:=by first | (rw [c1];exact a) | exact a
  refine WA.seq ?_
  refine WA.seq ?_
  refine Wm ((v1.map (eInt .i64)).length:Int) (v1.length:Int) (fun j=>([(1,one (.sl (v1.map (eInt .i64)))),(2,one (.sl (c.map Zp))),(3,pt 103),(7,ar 117 f),(8,oi d),(25,ob (decide (d<j)))],[(103,bx (Zc v0)),(117,.arr 1 (e.map Zp))],[])) ((by first | (simp only [zl,Zi];done) | (simp only [zl,Zi];omega) | omega)) [] trivial ?_
  refine WA.cond (b:=(decide (d<(v1.length:Int)))) rfl (fun b3=>?_) (fun b3=>?_)
  {
 have a:=Zk a b3
 refine WA.skip ?_
 refine WA.join (fun x=>∃(a5:List Bool) (a7:Nat),J x [(1,one (.sl (v1.map (eInt .i64)))),(2,one (.sl (c.map Zp))),(3,pt 103),(7,ar 117 a7),(8,oi d)] [(103,bx (Zc v0)),(117,.arr 1 (a5.map Zp))]∧a7=(a5:List _).length∧Zf0 d9 d a5=some r) ?_ ?_
 {
 rintro x ⟨a5,a7,w,g2,a⟩
 refine Wj w ?_
 clear w
 refine Wr [] [(1,one (.sl (v1.map (eInt .i64)))),(2,one (.sl (c.map Zp))),(3,pt 103),(7,ar 117 a7),(8,oi (w64 (d+1)))] [(103,bx (Zc v0)),(117,.arr 1 (a5.map Zp))] ?_
 exact ⟨m2,zl_ _,a5,a7,(w64 (d+1)),jk,zt,by rw [c1] at a;exact a⟩ }
 {
 refine WA.block ?_
 obtain ⟨a0,d8,a⟩:=Zh a
 rcases zo_ a0 with a4 | a4
 {
 have a:=Zk a a4
 obtain ⟨c6,e2,a⟩:=Zh a
 obtain ⟨a9,e3,a⟩:=Zh a
 obtain ⟨d3,a⟩:=Zn a
 obtain ⟨e0,e4,a⟩:=Zh a
 refine Wdm (((e.map Zp).set (Int.toNat (w64 (d+1))) (Zp a9)):(List (List PV))) ((e.set (Int.toNat (w64 (d+1))) a9).map Zp) (fun j=>([(1,one (.sl (v1.map (eInt .i64)))),(2,one (.sl (c.map Zp))),(3,pt 103),(7,ar 117 f),(8,oi d)],[(103,bx (Zc v0)),(117,.arr 1 j)],[idxL (c.map Zp) d=some [.bool a0],a0=true,idxL (v1.map (eInt .i64)) d=some [.int .i64 c6],SM μ 68 [one (.sl (v0.f_Set.map Za)),oi c6] [] (ob a9) [],([]:List Nat).Nodup,f=(e.map Zp).length,(0:Int)≤(w64 (d+1)),(w64 (d+1))<((f:Nat):Int),f=(e.map Zp).length,(e.map Zp)[Int.toNat (w64 (d+1))]?=some [.bool e0]])) (zm) [(5,.cells [.bool a0]),(7,.bool true),(12,.cells [.int .i64 c6]),(14,.callR [] (ob a9)),(17,.cells [.bool e0])] ⟨(Zs _ d8),a4,(Zs _ e2),(ZrF k _ _ _ e3),nd,zt,d3.1,(by have h_:=d3.2;(try simp only [zl,Zi] at h_ ⊢);omega),zt,(Zr (Zs _ e4)),trivial⟩ ?_
 exact ⟨(e.set (Int.toNat (w64 (d+1))) a9),f,jk,zt,a⟩ }
 {
 have a:=Zj a a4
 obtain ⟨d4,a⟩:=Zn a
 obtain ⟨e1,e5,a⟩:=Zh a
 refine Wdm (((e.map Zp).set (Int.toNat (w64 (d+1))) (Zp false)):(List (List PV))) ((e.set (Int.toNat (w64 (d+1))) false).map Zp) (fun j=>([(1,one (.sl (v1.map (eInt .i64)))),(2,one (.sl (c.map Zp))),(3,pt 103),(7,ar 117 f),(8,oi d)],[(103,bx (Zc v0)),(117,.arr 1 j)],[idxL (c.map Zp) d=some [.bool a0],a0=false,f=(e.map Zp).length,(0:Int)≤(w64 (d+1)),(w64 (d+1))<((f:Nat):Int),f=(e.map Zp).length,(e.map Zp)[Int.toNat (w64 (d+1))]?=some [.bool e1]])) (zm) [(5,.cells [.bool a0]),(7,.bool false),(17,.cells [.bool e1]),(14,.callR [] (.tup []))] ⟨(Zs _ d8),a4,zt,d4.1,(by have h_:=d4.2;(try simp only [zl,Zi] at h_ ⊢);omega),zt,(Zr (Zs _ e5)),trivial⟩ ?_
 exact ⟨(e.set (Int.toNat (w64 (d+1))) false),f,jk,zt,a⟩ } } }
  {
 have a:=Zj a b3
 refine WA.exit ?_
 refine Ws [] [(6,ar 117 f)] [(117,.arr 1 (e.map Zp))] ?_
 refine WA.freeze 117 6 (s:=1) (n:=f) (els:=(e.map Zp)) rfl rfl zt ?_
 refine Wk [(6,one (.sl (e.map Zp)))] [] ?_
 refine WA.ret ?_
 obtain rfl:=zj_ a
 exact Zo (one (.sl (e.map Zp))) [] kr kr kr kr nd rfl rfl } }
 {
 have a:=Zj a b2
 refine Ws [] [(1,one (.sl (v1.map (eInt .i64)))),(2,one (.sl (c.map Zp))),(3,pt 103),(7,ar 117 (Int.toNat (c.length:Int))),(19,oi v0.f_Kind),(46,ob (v0.f_Kind == 3))] [(103,bx (Zc v0)),(117,.arr 1 ((List.replicate (Int.toNat (c.length:Int)) false).map Zp))] ?_
 refine WA.cond (b:=(v0.f_Kind == 3)) rfl (fun b4=>?_) (fun b4=>?_)
 {
 have a:=Zk a b4
 refine WA.seq ?_
 refine Ws [] [(1,one (.sl (v1.map (eInt .i64)))),(2,one (.sl (c.map Zp))),(3,pt 103),(7,ar 117 (Int.toNat (c.length:Int))),(9,oi 0)] [(103,bx (Zc v0)),(117,.arr 1 ((List.replicate (Int.toNat (c.length:Int)) false).map Zp))] ?_
 refine WA.block ?_
 refine WA.loop (fun m x=>∃(l:List Bool) (o:Nat) (v158:Int),J x [(1,one (.sl (v1.map (eInt .i64)))),(2,one (.sl (c.map Zp))),(3,pt 103),(7,ar 117 o),(9,oi v158)] [(103,bx (Zc v0)),(117,.arr 1 (l.map Zp))]∧o=(l:List _).length∧ZeJ R45 k v0 v1 c m l v158=some r) k ⟨(List.replicate (Int.toNat (c.length:Int)) false),(Int.toNat (c.length:Int)),0,jk,zt,a⟩ ?_
 clear a
 rintro m4 x ⟨l,o,v158,w,g3,a⟩
 refine Wj w ?_
 clear w
 cases m4 with
 | zero=>cases a
 | succ m4=>
  obtain ⟨f7,c2⟩:∃g,g=ZeJ R45 k v0 v1 c m4:=⟨_,rfl⟩
  have a:ZeH R45 k f7 v0 v1 c l v158=some r:=by first | (rw [c2];exact a) | exact a
  refine WA.seq ?_
  refine WA.seq ?_
  refine Wm ((Zm v0.f_L).length:Int) (v0.f_L.length:Int) (fun j=>([(1,one (.sl (v1.map (eInt .i64)))),(2,one (.sl (c.map Zp))),(3,pt 103),(7,ar 117 o),(9,oi v158),(52,ob (decide (v158<j)))],[(103,bx (Zc v0)),(117,.arr 1 (l.map Zp))],[])) ((by first | (simp only [zl,Zi];done) | (simp only [zl,Zi];omega) | omega)) [] trivial ?_
  refine WA.cond (b:=(decide (v158<(v0.f_L.length:Int)))) rfl (fun b5=>?_) (fun b5=>?_)
  {
 have a:=Zk a b5
 refine WA.skip ?_
 refine WA.seq ?_
 refine WA.block ?_
 obtain ⟨c7,e6,a⟩:=Zh a
 obtain ⟨c8,e7,a⟩:=Zh a
 obtain ⟨a1,e8,a⟩:=Zh a
 obtain ⟨g6,a⟩:=Zn a
 refine Wo [(4,.cells (Zc c7)),(8,.callR [] (one (.sl (c8.map Zp)))),(9,.call [117] (ob a1.1) [.arr 1 (a1.2.map Zp)] [])] [(1,one (.sl (v1.map (eInt .i64)))),(2,one (.sl (c.map Zp))),(3,pt 103),(7,ar 117 o),(9,oi v158)] [(103,bx (Zc v0)),(117,.arr 1 (a1.2.map Zp))] [idxL (Zm v0.f_L) v158=some (Zc c7),SM μ 45 [tv (Zc c7),one (.sl (v1.map (eInt .i64))),one (.sl (c.map Zp))] [] (one (.sl (c8.map Zp))) [],([]:List Nat).Nodup,SM μ 69 [ar 0 o,one (.sl (c8.map Zp))] [.arr 1 (l.map Zp)] (ob a1.1) [.arr 1 (a1.2.map Zp)],([117]:List Nat).Nodup] ⟨(ZO e6),(IH45 _ _ _ _ e7),nd,(Zlv k _ _ _ e8 (n0:=o) zt),nd,trivial⟩ ?_
 refine Wr [] [(1,one (.sl (v1.map (eInt .i64)))),(2,one (.sl (c.map Zp))),(3,pt 103),(7,ar 117 o),(9,oi (w64 (v158+1)))] [(103,bx (Zc v0)),(117,.arr 1 (a1.2.map Zp))] ?_
 exact ⟨m4,zl_ _,a1.2,o,(w64 (v158+1)),jk,zt,by rw [c2] at a;exact a⟩ }
  {
 have a:=Zj a b5
 refine WA.exit ?_
 refine Ws [] [(6,ar 117 o)] [(117,.arr 1 (l.map Zp))] ?_
 refine WA.freeze 117 6 (s:=1) (n:=o) (els:=(l.map Zp)) rfl rfl zt ?_
 refine Wk [(6,one (.sl (l.map Zp)))] [] ?_
 refine WA.ret ?_
 obtain rfl:=zj_ a
 exact Zo (one (.sl (l.map Zp))) [] kr kr kr kr nd rfl rfl } }
 {
 have a:=Zj a b4
 refine Ws [] [(1,one (.sl (v1.map (eInt .i64)))),(2,one (.sl (c.map Zp))),(3,pt 103),(7,ar 117 (Int.toNat (c.length:Int))),(66,ob (v0.f_Kind == 2))] [(103,bx (Zc v0)),(117,.arr 1 ((List.replicate (Int.toNat (c.length:Int)) false).map Zp))] ?_
 refine WA.cond (b:=(v0.f_Kind == 2)) rfl (fun b6=>?_) (fun b6=>?_)
 {
 have a:=Zk a b6
 refine Ws [] [(1,one (.sl (v1.map (eInt .i64)))),(3,pt 103),(7,ar 117 (Int.toNat (c.length:Int))),(10,one (.sl (c.map Zp)))] [(103,bx (Zc v0)),(117,.arr 1 ((List.replicate (Int.toNat (c.length:Int)) false).map Zp))] ?_
 refine WA.seq ?_
 refine Ws [] [(1,one (.sl (v1.map (eInt .i64)))),(3,pt 103),(7,ar 117 (Int.toNat (c.length:Int))),(10,one (.sl (c.map Zp))),(11,oi 0)] [(103,bx (Zc v0)),(117,.arr 1 ((List.replicate (Int.toNat (c.length:Int)) false).map Zp))] ?_
 refine WA.block ?_
 refine WA.loop (fun m x=>∃(h:List Bool) (p:Int),J x [(1,one (.sl (v1.map (eInt .i64)))),(3,pt 103),(7,ar 117 (Int.toNat (c.length:Int))),(10,one (.sl (h.map Zp))),(11,oi p)] [(103,bx (Zc v0)),(117,.arr 1 ((List.replicate (Int.toNat (c.length:Int)) false).map Zp))]∧ZeK R45 v0 v1 c m h p=some r) k ⟨c,0,jk,a⟩ ?_
 clear a
 rintro m5 x ⟨h,p,w,a⟩
 refine Wj w ?_
 clear w
 cases m5 with
 | zero=>cases a
 | succ m5=>
  obtain ⟨f8,c3⟩:∃g,g=ZeK R45 v0 v1 c m5:=⟨_,rfl⟩
  have a:ZeI R45 f8 v0 v1 c h p=some r:=by first | (rw [c3];exact a) | exact a
  refine WA.seq ?_
  refine WA.seq ?_
  refine Wm ((Zm v0.f_L).length:Int) (v0.f_L.length:Int) (fun j=>([(1,one (.sl (v1.map (eInt .i64)))),(3,pt 103),(7,ar 117 (Int.toNat (c.length:Int))),(10,one (.sl (h.map Zp))),(11,oi p),(73,ob (decide (p<j)))],[(103,bx (Zc v0)),(117,.arr 1 ((List.replicate (Int.toNat (c.length:Int)) false).map Zp))],[])) ((by first | (simp only [zl,Zi];done) | (simp only [zl,Zi];omega) | omega)) [] trivial ?_
  refine WA.cond (b:=(decide (p<(v0.f_L.length:Int)))) rfl (fun b7=>?_) (fun b7=>?_)
  {
 have a:=Zk a b7
 refine WA.skip ?_
 refine WA.seq ?_
 refine WA.block ?_
 obtain ⟨c9,e9,a⟩:=Zh a
 obtain ⟨b0,f0,a⟩:=Zh a
 refine Wo [(3,.cells (Zc c9)),(7,.callR [] (one (.sl (b0.map Zp))))] [(1,one (.sl (v1.map (eInt .i64)))),(3,pt 103),(7,ar 117 (Int.toNat (c.length:Int))),(10,one (.sl (b0.map Zp))),(11,oi p)] [(103,bx (Zc v0)),(117,.arr 1 ((List.replicate (Int.toNat (c.length:Int)) false).map Zp))] [idxL (Zm v0.f_L) p=some (Zc c9),SM μ 45 [tv (Zc c9),one (.sl (v1.map (eInt .i64))),one (.sl (h.map Zp))] [] (one (.sl (b0.map Zp))) [],([]:List Nat).Nodup] ⟨(ZO e9),(IH45 _ _ _ _ f0),nd,trivial⟩ ?_
 refine Wr [] [(1,one (.sl (v1.map (eInt .i64)))),(3,pt 103),(7,ar 117 (Int.toNat (c.length:Int))),(10,one (.sl (b0.map Zp))),(11,oi (w64 (p+1)))] [(103,bx (Zc v0)),(117,.arr 1 ((List.replicate (Int.toNat (c.length:Int)) false).map Zp))] ?_
 exact ⟨m5,zl_ _,b0,(w64 (p+1)),jk,by rw [c3] at a;exact a⟩ }
  {
 have a:=Zj a b7
 refine WA.exit ?_
 refine WA.seq ?_
 obtain ⟨d5,a⟩:=Zn a
 obtain ⟨d6,a⟩:=Zn a
 refine Wm ((((Int.toNat 0)+(h.map Zp).length),((((List.replicate (Int.toNat (c.length:Int)) false).map Zp).take (Int.toNat 0)) ++ (h.map Zp)),(((List.replicate (Int.toNat (c.length:Int)) false).map Zp).take (Int.toNat 0))):Nat×(List (List PV))×(List (List PV))) (((Int.toNat 0)+h.length),((((List.replicate (Int.toNat (c.length:Int)) false).take (Int.toNat 0)) ++ h).map Zp),(((List.replicate (Int.toNat (c.length:Int)) false).take (Int.toNat 0)).map Zp)) (fun j=>([(6,ar 185 j.1)],[(185,.arr 1 j.2.1)],[(Int.toNat (c.length:Int))=((List.replicate (Int.toNat (c.length:Int)) false).map Zp).length,(0:Int)≤0,0≤(((Int.toNat (c.length:Int)):Nat):Int),(Int.toNat 0)=j.2.2.length,j.2.2.length+(h.map Zp).length≤1073741824,∀es,es∈(h.map Zp)→es.length=1])) (ZJ (by first | (simp only [zl,Zi];done) | (simp only [zl,Zi];omega) | omega) (ZJ zm zm)) [(1,.obj 185)] ⟨zt,d5.1,(by have h_:=d5.2;(try simp only [zl,Zi] at h_ ⊢);omega),zt,(by first | exact d6 | (simp only [List.length_map,Zi];exact d6)),(Zb2 _ _ _ (fun _=>rfl)),trivial⟩ ?_
 refine WA.freeze 185 6 (s:=1) (n:=((Int.toNat 0)+h.length)) (els:=((((List.replicate (Int.toNat (c.length:Int)) false).take (Int.toNat 0)) ++ h).map Zp)) rfl rfl zt ?_
 refine Wk [(6,one (.sl ((((List.replicate (Int.toNat (c.length:Int)) false).take (Int.toNat 0)) ++ h).map Zp)))] [] ?_
 refine WA.ret ?_
 obtain rfl:=zj_ a
 exact Zo (one (.sl ((((List.replicate (Int.toNat (c.length:Int)) false).take (Int.toNat 0)) ++ h).map Zp))) [] kr kr kr kr nd rfl rfl } }
 {
 have a:=Zj a b6
 refine WA.skip ?_
 refine WA.seq ?_
 obtain ⟨d7,a⟩:=Zn a
 refine Wm (((0+(c.map Zp).length),((([]:List Bool).map Zp) ++ (c.map Zp))):Nat×(List (List PV))) ((0+c.length),((([]:List Bool) ++ c).map Zp)) (fun j=>([(1,one (.sl (v1.map (eInt .i64)))),(3,pt 103),(7,ar 117 (Int.toNat (c.length:Int))),(12,ar 188 j.1)],[(103,bx (Zc v0)),(117,.arr 1 ((List.replicate (Int.toNat (c.length:Int)) false).map Zp)),(188,.arr 1 j.2)],[0=(([]:List Bool).map Zp).length,(([]:List Bool).map Zp).length+(c.map Zp).length≤1073741824,∀es,es∈(c.map Zp)→es.length=1])) (ZJ (by first | (simp only [zl,Zi];done) | (simp only [zl,Zi];omega) | omega) zm) [(0,.obj 188)] ⟨zt,(by first | exact d7 | (simp only [List.length_map,Zi];exact d7)),(Zb2 _ _ _ (fun _=>rfl)),trivial⟩ ?_
 refine WA.seq ?_
 refine WA.seq ?_
 refine WA.freeze 188 12 (s:=1) (n:=(0+c.length)) (els:=((([]:List Bool) ++ c).map Zp)) rfl rfl zt ?_
 refine Wk [(1,one (.sl (v1.map (eInt .i64)))),(3,pt 103),(7,ar 117 (Int.toNat (c.length:Int))),(12,one (.sl ((([]:List Bool) ++ c).map Zp)))] [(103,bx (Zc v0)),(117,.arr 1 ((List.replicate (Int.toNat (c.length:Int)) false).map Zp))] ?_
 refine Wr [] [(1,one (.sl (v1.map (eInt .i64)))),(3,pt 103),(7,ar 117 (Int.toNat (c.length:Int))),(12,one (.sl ((([]:List Bool) ++ c).map Zp))),(13,oi 0)] [(103,bx (Zc v0)),(117,.arr 1 ((List.replicate (Int.toNat (c.length:Int)) false).map Zp))] ?_
 refine WA.block ?_
 refine WA.loop (fun m x=>∃(t:List Bool) (u:Int),J x [(1,one (.sl (v1.map (eInt .i64)))),(3,pt 103),(7,ar 117 (Int.toNat (c.length:Int))),(12,one (.sl (t.map Zp))),(13,oi u)] [(103,bx (Zc v0)),(117,.arr 1 ((List.replicate (Int.toNat (c.length:Int)) false).map Zp))]∧ZeL R45 k v0 v1 c m t u=some r) k ⟨(([]:List Bool) ++ c),0,jk,a⟩ ?_
 clear a
 rintro m6 x ⟨t,u,w,a⟩
 refine Wj w ?_
 clear w
 cases m6 with
 | zero=>cases a
 | succ m6=>
  obtain ⟨f9,c4⟩:∃g,g=ZeL R45 k v0 v1 c m6:=⟨_,rfl⟩
  have a:Ziw R45 k f9 v0 v1 c t u=some r:=by first | (rw [c4];exact a) | exact a
  refine WA.seq ?_
  refine Ws [] [(1,one (.sl (v1.map (eInt .i64)))),(3,pt 103),(7,ar 117 (Int.toNat (c.length:Int))),(12,one (.sl (t.map Zp))),(13,oi u),(94,ob (decide (u<v0.f_Min)))] [(103,bx (Zc v0)),(117,.arr 1 ((List.replicate (Int.toNat (c.length:Int)) false).map Zp))] ?_
  refine WA.cond (b:=(decide (u<v0.f_Min))) rfl (fun b8=>?_) (fun b8=>?_)
  {
 have a:=Zk a b8
 refine WA.skip ?_
 refine WA.seq ?_
 refine WA.block ?_
 obtain ⟨d0,f1,a⟩:=Zh a
 obtain ⟨b1,f2,a⟩:=Zh a
 refine Wo [(2,.cells (Zc d0)),(6,.callR [] (one (.sl (b1.map Zp))))] [(1,one (.sl (v1.map (eInt .i64)))),(3,pt 103),(7,ar 117 (Int.toNat (c.length:Int))),(12,one (.sl (b1.map Zp))),(13,oi u)] [(103,bx (Zc v0)),(117,.arr 1 ((List.replicate (Int.toNat (c.length:Int)) false).map Zp))] [idxL (Zm v0.f_L) 0=some (Zc d0),SM μ 45 [tv (Zc d0),one (.sl (v1.map (eInt .i64))),one (.sl (t.map Zp))] [] (one (.sl (b1.map Zp))) [],([]:List Nat).Nodup] ⟨(ZO f1),(IH45 _ _ _ _ f2),nd,trivial⟩ ?_
 refine Wr [] [(1,one (.sl (v1.map (eInt .i64)))),(3,pt 103),(7,ar 117 (Int.toNat (c.length:Int))),(12,one (.sl (b1.map Zp))),(13,oi (w64 (u+1)))] [(103,bx (Zc v0)),(117,.arr 1 ((List.replicate (Int.toNat (c.length:Int)) false).map Zp))] ?_
 exact ⟨m6,zl_ _,b1,(w64 (u+1)),jk,by rw [c4] at a;exact a⟩ }
  {
 have a:=Zj a b8
 refine WA.exit ?_
 obtain ⟨a2,f3,a⟩:=Zh a
 obtain ⟨g7,a⟩:=Zn a
 refine Wos [(2,.call [117] (ob a2.1) [.arr 1 (a2.2.map Zp)] [])] [(1,one (.sl (v1.map (eInt .i64)))),(3,pt 103),(7,ar 117 (Int.toNat (c.length:Int))),(12,one (.sl (t.map Zp)))] [(103,bx (Zc v0)),(117,.arr 1 (a2.2.map Zp))] [SM μ 69 [ar 0 (Int.toNat (c.length:Int)),one (.sl (t.map Zp))] [.arr 1 ((List.replicate (Int.toNat (c.length:Int)) false).map Zp)] (ob a2.1) [.arr 1 (a2.2.map Zp)],([117]:List Nat).Nodup] ⟨(Zlv k _ _ _ f3 (n0:=(Int.toNat (c.length:Int))) zt),nd,trivial⟩ ?_
 refine WA.join (fun x=>∃(z:List Bool) (a8:Nat),J x [(7,ar 117 a8)] [(117,.arr 1 (z.map Zp))]∧a8=(z:List _).length∧Ziy z=some r) ?_ ?_
 {
 rintro x ⟨z,a8,w,g5,a⟩
 refine Wj w ?_
 clear w
 refine Ws [] [(6,ar 117 a8)] [(117,.arr 1 (z.map Zp))] ?_
 refine WA.freeze 117 6 (s:=1) (n:=a8) (els:=(z.map Zp)) rfl rfl zt ?_
 refine Wk [(6,one (.sl (z.map Zp)))] [] ?_
 refine WA.ret ?_
 obtain rfl:=zj_ a
 exact Zo (one (.sl (z.map Zp))) [] kr kr kr kr nd rfl rfl }
 {
 refine Ws [] [(1,one (.sl (v1.map (eInt .i64)))),(3,pt 103),(7,ar 117 (Int.toNat (c.length:Int))),(12,one (.sl (t.map Zp))),(14,oi v0.f_Min)] [(103,bx (Zc v0)),(117,.arr 1 (a2.2.map Zp))] ?_
 refine WA.block ?_
 refine WA.loop (fun m x=>∃(y:List Bool) (i:Nat) (a6:List Bool) (q:Int),J x [(1,one (.sl (v1.map (eInt .i64)))),(3,pt 103),(7,ar 117 i),(12,one (.sl (a6.map Zp))),(14,oi q)] [(103,bx (Zc v0)),(117,.arr 1 (y.map Zp))]∧i=(y:List _).length∧ZeM R45 k v0 v1 m y a6 q=some r) k ⟨a2.2,(Int.toNat (c.length:Int)),t,v0.f_Min,jk,zt,a⟩ ?_
 clear a
 rintro m7 x ⟨y,i,a6,q,w,g4,a⟩
 refine Wj w ?_
 clear w
 cases m7 with
 | zero=>cases a
 | succ m7=>
  obtain ⟨g0,c5⟩:∃g,g=ZeM R45 k v0 v1 m7:=⟨_,rfl⟩
  have a:Zix R45 k g0 v0 v1 y a6 q=some r:=by first | (rw [c5];exact a) | exact a
  refine WA.seq ?_
  refine Ws [] [(1,one (.sl (v1.map (eInt .i64)))),(3,pt 103),(7,ar 117 i),(12,one (.sl (a6.map Zp))),(14,oi q),(112,ob (q != v0.f_Max))] [(103,bx (Zc v0)),(117,.arr 1 (y.map Zp))] ?_
  refine WA.cond (b:=(q != v0.f_Max)) rfl (fun b9=>?_) (fun b9=>?_)
  {
 have a:=Zk a b9
 refine WA.skip ?_
 refine WA.seq ?_
 refine WA.block ?_
 obtain ⟨d1,f4,a⟩:=Zh a
 obtain ⟨a3,f5,a⟩:=Zh a
 refine Wos [(2,.cells (Zc d1)),(6,.callR [] (one (.sl (a3.map Zp))))] [(1,one (.sl (v1.map (eInt .i64)))),(3,pt 103),(7,ar 117 i),(12,one (.sl (a3.map Zp))),(14,oi q)] [(103,bx (Zc v0)),(117,.arr 1 (y.map Zp))] [idxL (Zm v0.f_L) 0=some (Zc d1),SM μ 45 [tv (Zc d1),one (.sl (v1.map (eInt .i64))),one (.sl (a6.map Zp))] [] (one (.sl (a3.map Zp))) [],([]:List Nat).Nodup] ⟨(ZO f4),(IH45 _ _ _ _ f5),nd,trivial⟩ ?_
 obtain ⟨v,f6,a⟩:=Zh a
 obtain ⟨g8,a⟩:=Zn a
 refine Wos [(2,.call [117] (ob v.1) [.arr 1 (v.2.map Zp)] [])] [(1,one (.sl (v1.map (eInt .i64)))),(3,pt 103),(7,ar 117 i),(12,one (.sl (a3.map Zp))),(14,oi q),(125,ob (!v.1))] [(103,bx (Zc v0)),(117,.arr 1 (v.2.map Zp))] [SM μ 69 [ar 0 i,one (.sl (a3.map Zp))] [.arr 1 (y.map Zp)] (ob v.1) [.arr 1 (v.2.map Zp)],([117]:List Nat).Nodup] ⟨(Zlv k _ _ _ f6 (n0:=i) zt),nd,trivial⟩ ?_
 refine WA.cond (b:=(!v.1)) rfl (fun c0=>?_) (fun c0=>?_)
 {
 have a:=Zk a c0
 refine WA.exit ?_
 exact ⟨v.2,i,jk,zt,a⟩ }
 {
 have a:=Zj a c0
 refine WA.skip ?_
 refine Wr [] [(1,one (.sl (v1.map (eInt .i64)))),(3,pt 103),(7,ar 117 i),(12,one (.sl (a3.map Zp))),(14,oi (w64 (q+1)))] [(103,bx (Zc v0)),(117,.arr 1 (v.2.map Zp))] ?_
 exact ⟨m7,zl_ _,v.2,i,a3,(w64 (q+1)),jk,zt,by rw [c5] at a;exact a⟩ } }
  {
 have a:=Zj a b9
 refine WA.exit ?_
 exact ⟨y,i,jk,zt,a⟩ } } } } } }
def F45:Nat→Zd→(List Int)→(List Bool)→Option (List Bool)
  | 0,_,_,_=>none
  | k+1,v0,v1,a=>Zk2 (F45 k) k v0 v1 a
theorem Zok:∀(k:Nat),∀(v0:Zd) (v1:List Int) (a:List Bool) (r:List Bool),F45 k v0 v1 a=some r→SM μ 45 [tv (Zc v0),one (.sl (v1.map (eInt .i64))),one (.sl (a.map Zp))] [] (one (.sl (r.map Zp))) []
  | 0=>fun _ _ _ _ b=>by cases b
  | k+1=>fun v0 v1 a r b=>Zpp (F45 k) (Zok k) k v0 v1 a r b
def Zez (k:Nat) (v0:Zd) (v1:List UInt8) (b:Bool):Option Bool:=
  cond b ((some false)) ((F44 k v1).bind fun a=>(if (0:Int)≤(w64 ((a.length:Int)+1))∧((w64 ((a.length:Int)+1)):Int)≤1073741824 then (if (0:Int)≤0∧0<((List.replicate (Int.toNat (w64 ((a.length:Int)+1))) false).length:Int) then (idxL (List.replicate (Int.toNat (w64 ((a.length:Int)+1))) false) 0).bind fun e=>(F45 k v0 a ((List.replicate (Int.toNat (w64 ((a.length:Int)+1))) false).set (Int.toNat 0) true)).bind fun c=>(idxL c (a.length:Int)).bind fun d=>(some d) else none) else none))
def F23 (k:Nat) (v0:Zd) (v1:List UInt8):Option Bool:=
  (F22 k v0).bind fun a=>cond (!a) ((Zez k v0 v1 true)) ((F25 k v1).bind fun b=>(Zez k v0 v1 (!b)))
theorem Zim (k:Nat) (v0:Zd) (v1:List UInt8) (r:Bool) (c:F23 k v0 v1=some r):SM μ 23 [tv (Zc v0),one (.str v1)] [] (ob r) []:=by
 refine Zz [] Tryz.func23 rfl kr kr ?_
 show WA _ _ 31 _ _ _
 refine Ws [(0,.obj 102)] [(1,one (.str v1)),(2,pt 102)] [(102,bx (Zc v0))] ?_
 refine WA.seq ?_
 refine WA.join (fun z=>∃(h:Bool),J z [(1,one (.str v1)),(2,pt 102),(14,ob h)] [(102,bx (Zc v0))]∧Zez k v0 v1 h=some r) ?_ ?_
 {
 rintro z ⟨h,y,c⟩
 refine Wj y ?_
 clear y
 refine WA.cond (b:=h) rfl (fun g=>?_) (fun g=>?_)
 {
 have c:=Zk c g
 refine Ws [] [(4,ob false)] [] ?_
 refine WA.ret ?_
 obtain rfl:=zj_ c
 exact Zo (ob false) [] kr kr kr kr nd rfl rfl }
 {
 have c:=Zj c g
 refine WA.skip ?_
 obtain ⟨a,u,c⟩:=Zh c
 refine Wos [(1,.callR [] (one (.sl (a.map (eInt .i64)))))] [(2,pt 102),(5,one (.sl (a.map (eInt .i64))))] [(102,bx (Zc v0))] [SM μ 44 [one (.str v1)] [] (one (.sl (a.map (eInt .i64)))) [],([]:List Nat).Nodup] ⟨(ZrA k _ _ u),nd,trivial⟩ ?_
 refine WA.seq ?_
 obtain ⟨m,c⟩:=Zn c
 refine Wm ((((a.map (eInt .i64)).length:Int),(List.replicate (Int.toNat (w64 (((a.map (eInt .i64)).length:Int)+1))) (Zp false))):Int×(List (List PV))) ((a.length:Int),((List.replicate (Int.toNat (w64 ((a.length:Int)+1))) false).map Zp)) (fun f=>([(2,pt 102),(5,one (.sl (a.map (eInt .i64)))),(6,ar 120 (Int.toNat (w64 (f.1+1))))],[(102,bx (Zc v0)),(120,.arr 1 f.2)],[((w64 (f.1+1)):Int)=(w64 (f.1+1)),(0:Int)≤(w64 (f.1+1)),((w64 (f.1+1)):Int)≤1073741824])) (ZJ (by first | (simp only [zl,Zi];done) | (simp only [zl,Zi];omega) | omega) zm) [(3,.obj 120)] ⟨rfl,m.1,m.2,trivial⟩ ?_
 refine WA.seq ?_
 obtain ⟨o,c⟩:=Zn c
 obtain ⟨q,v,c⟩:=Zh c
 refine Wm ((((List.replicate (Int.toNat (w64 ((a.length:Int)+1))) false).map Zp).set (Int.toNat 0) (Zp true)):(List (List PV))) (((List.replicate (Int.toNat (w64 ((a.length:Int)+1))) false).set (Int.toNat 0) true).map Zp) (fun f=>([(2,pt 102),(5,one (.sl (a.map (eInt .i64)))),(6,ar 120 (Int.toNat (w64 ((a.length:Int)+1))))],[(102,bx (Zc v0)),(120,.arr 1 f)],[(Int.toNat (w64 ((a.length:Int)+1)))=((List.replicate (Int.toNat (w64 ((a.length:Int)+1))) false).map Zp).length,(0:Int)≤0,0<(((Int.toNat (w64 ((a.length:Int)+1))):Nat):Int),(Int.toNat (w64 ((a.length:Int)+1)))=((List.replicate (Int.toNat (w64 ((a.length:Int)+1))) false).map Zp).length,((List.replicate (Int.toNat (w64 ((a.length:Int)+1))) false).map Zp)[Int.toNat 0]?=some [.bool q]])) (zm) [(2,.cells [.bool q])] ⟨zt,o.1,(by have h_:=o.2;(try simp only [zl,Zi] at h_ ⊢);omega),zt,(Zr (Zs _ v)),trivial⟩ ?_
 refine WA.seq ?_
 refine WA.freeze 120 6 (s:=1) (n:=(Int.toNat (w64 ((a.length:Int)+1)))) (els:=(((List.replicate (Int.toNat (w64 ((a.length:Int)+1))) false).set (Int.toNat 0) true).map Zp)) rfl rfl zt ?_
 refine Wk [(2,pt 102),(5,one (.sl (a.map (eInt .i64)))),(6,one (.sl (((List.replicate (Int.toNat (w64 ((a.length:Int)+1))) false).set (Int.toNat 0) true).map Zp)))] [(102,bx (Zc v0))] ?_
 obtain ⟨l,w,c⟩:=Zh c
 obtain ⟨j,x,c⟩:=Zh c
 refine Wm ((a.map (eInt .i64)).length:Int) (a.length:Int) (fun f=>([(4,ob j)],[],[SM μ 45 [tv (Zc v0),one (.sl (a.map (eInt .i64))),one (.sl (((List.replicate (Int.toNat (w64 ((a.length:Int)+1))) false).set (Int.toNat 0) true).map Zp))] [] (one (.sl (l.map Zp))) [],([]:List Nat).Nodup,idxL (l.map Zp) f=some [.bool j]])) ((by first | (simp only [zl,Zi];done) | (simp only [zl,Zi];omega) | omega)) [(3,.callR [] (one (.sl (l.map Zp)))),(6,.cells [.bool j])] ⟨(Zok k _ _ _ _ w),nd,(Zs _ x),trivial⟩ ?_
 refine WA.ret ?_
 obtain rfl:=zj_ c
 exact Zo (ob j) [] kr kr kr kr nd rfl rfl } }
 {
 obtain ⟨d,p,c⟩:=Zh c
 rcases zo_ (!d) with e | e
 {
 have c:=Zk c e
 refine Wo [(1,.callR [] (ob d)),(3,.bool true)] [(1,one (.str v1)),(2,pt 102),(14,ob true)] [(102,bx (Zc v0))] [SM μ 22 [tv (Zc v0)] [] (ob d) [],([]:List Nat).Nodup,(!d)=true] ⟨(Zlb k _ _ p),nd,e,trivial⟩ ?_
 exact ⟨true,jk,c⟩ }
 {
 have c:=Zj c e
 obtain ⟨i,t,c⟩:=Zh c
 refine Wo [(1,.callR [] (ob d)),(3,.bool false),(5,.callR [] (ob i))] [(1,one (.str v1)),(2,pt 102),(14,ob (!i))] [(102,bx (Zc v0))] [SM μ 22 [tv (Zc v0)] [] (ob d) [],([]:List Nat).Nodup,(!d)=false,SM μ 25 [one (.str v1)] [] (ob i) [],([]:List Nat).Nodup] ⟨(Zlb k _ _ p),nd,e,(Zog k _ _ t),nd,trivial⟩ ?_
 exact ⟨(!i),jk,c⟩ } }
end Go.Proofs.YthilboheomikjaaGreatDoor
end
section
namespace Go.Proofs
open Go.Shelf Go.RowKit Go.Lib
variable {P:Program} {ρ:Ren}
set_option maxHeartbeats 2000000 in
set_option maxRecDepth 1000000 in
theorem Zj8 (L:Lays.n152 P ρ) (s:ByteArray) (w:World) (hascii:∀(j:Nat) b,s.data.toList[j]?=some b→b.toNat<128) :
    Calls P (ρ.f 152) #[.string s,.int .i32 65533] w fun e w'=>e = .returned (.int .i64 (-1))∧∃pos,w'=w.iter s pos:=by
  have HA:Aside (∀(j:Nat) b,s.data.toList[j]?=some b→b.toNat<128):=hascii
  clear hascii
  have t3:=L.t3;have a3:=L.a3;have z3:=L.z3;have v3:=L.v3
  have t4:=L.t4;have a4:=L.a4;have z4:=L.z4;have v4:=L.v4
  have t5:=L.t5;have a5:=L.a5;have z5:=L.z5;have v5:=L.v5
  have t9:=L.t9;have a9:=L.a9;have z9:=L.z9;have v9:=L.v9
  have t21:=L.t21;have a21:=L.a21;have z21:=L.z21;have v21:=L.v21
  go_enter L.f152,Body.n152_ntmps ρ
  go_wp2
  go_loopg [5,6] s.size (fun g _ _ wx=>∃i:Nat,i+g=s.size∧wx=w.iter s i)
  case atStart=>exact ⟨0,by omega,rfl⟩
  case round=>
    obtain ⟨i,hig,rfl⟩:=hrel
    cases gk with
    | zero=>
      obtain rfl:i=s.size:=by omega
      have hnx:=run_next_end (P:=P) w s s.size
      go_wp2
      go_ret
      exact ⟨rfl,_,rfl⟩
    | succ g=>
      have hi:i<s.size:=by omega
      obtain ⟨x,hx⟩:∃x:UInt8,s[i]'hi=x:=⟨_,rfl⟩
      have hxl:s.data.toList[i]?=some x:=by rw [←hx];exact Lib.data_getElem? s i hi
      have hx128:x.toNat<128:=HA.out i x hxl
      have hnx:=fun ty=>run_next_ascii (P:=P) w s i ty hi (by rw [hx];exact hx128)
      rw [hx] at hnx
      have hne:((x.toNat:Int) == 65533)=false:=beq_eq_false_iff_ne.2 (by omega)
      go_wp2
      go_roundg g
      case measure=>omega
      case rel=>exact ⟨i+1,by omega,rfl⟩
set_option maxHeartbeats 2000000 in
set_option maxRecDepth 1000000 in
theorem ZhC (L:Lays.n151 P ρ) (s:ByteArray) (w:World) (hascii:∀(j:Nat) b,s.data.toList[j]?=some b→b.toNat<128) :
    Calls P (ρ.f 151) #[.string s,.int .i32 65533] w fun e w'=>e = .returned (.bool false)∧Below w.heap.size w w':=by
  have HA:Aside (∀(j:Nat) b,s.data.toList[j]?=some b→b.toNat<128):=hascii
  clear hascii
  have t3:=L.t3;have a3:=L.a3;have z3:=L.z3;have v3:=L.v3
  have t4:=L.t4;have a4:=L.a4;have z4:=L.z4;have v4:=L.v4
  have t9:=L.t9;have a9:=L.a9;have z9:=L.z9;have v9:=L.v9
  have t21:=L.t21;have a21:=L.a21;have z21:=L.z21;have v21:=L.v21
  have e152:∀args w,(callFunc (ρ.f 152) args).run P w = .ok (.enter (ρ.f 152) args) w:=enters_of L.f152 (by kernel_rfl) rfl
  go_enter L.f151,Body.n151_ntmps ρ
  go_wp2_with (go_at_fn (ρ.f 152);refine (Zj8 { L with } _ _ HA.out).mono ?_;rintro e w' ⟨rfl,pos,hw⟩;rw [hw])
  go_ret
  exact ⟨rfl,(Below.refl _ w).alloc (Nat.le_refl _) _⟩
end Go.Proofs
end
section
namespace Go.Proofs.YthilboheomikjaaGreatDoor
open Go.AL Go.RowKit
variable {μ:Int}
def badV:Value:=.iface 70 (.agg #[])
def F141 (k:Nat) (s:List UInt8) (r:Int):Option Bool:=if r=65533 then (if (s.all fun b=>decide (b.toNat<128))=true then some false else none) else Zqa k s r
theorem ZmT (k:Nat) (v0:List UInt8) (v1:Int) (r:Bool) (hF:F141 k v0 v1=some r):Sim Tryz.prog (GL0 μ) 141 [one (.str v0),one (.int .i32 v1)] [] (one (.bool r)) []:=by
  unfold F141 at hF
  by_cases h:v1=65533
  · rw [if_pos h] at hF
    obtain ⟨hl,hF⟩:=Zn hF
    obtain rfl:=zj_ hF
    subst h
    refine ZaG fun w I G vs hs ha=>?_
    obtain ⟨vs,rfl,hb⟩:=ZbQ ha;clear ha;have ha:=hb;clear hb
    obtain ⟨vs,rfl,hb⟩:=Zi4 ha;clear ha;have ha:=hb;clear hb
    obtain rfl:=ZbP ha
    refine Calls.imp (ZhC Tryz.lays151 ⟨v0.toArray⟩ w fun j b hb=>?_) ?_
    · have:=List.all_eq_true.1 hl b (List.mem_of_getElem? (by simpa using hb))
      simpa using this
    · rintro e w' ⟨rfl,hb⟩
      exact ⟨_,rfl,fun _ _ _ _=>⟨_,rfl,.bool _⟩,hb⟩
  · rw [if_neg h] at hF
    exact Zpj k v0 v1 r hF
end Go.Proofs.YthilboheomikjaaGreatDoor
end
section
namespace Go.Proofs.YthilboheomikjaaGreatDoor
open Go.AL
variable {μ:Int}
set_option maxRecDepth 100000
structure Zl where
  f_s:List UInt8
  f_at:Int
  f_over:Bool
def Zg (x:Zl):List PV:=[.str x.f_s,.int .i64 x.f_at,.bool x.f_over]
def F97 (k:Nat) (v0:Zl) (v1:List UInt8):Option Bool:=
  (if (0:Int)≤v0.f_at∧(v0.f_at:Int)≤(v0.f_s.length:Int)∧(v0.f_s.length:Int)≤(v0.f_s.length:Int) then (F116 k ((v0.f_s.take (Int.toNat (v0.f_s.length:Int))).drop (Int.toNat v0.f_at)) v1).bind fun a=>(some a) else none)
theorem ZdG (k:Nat) (v0:Zl) (v1:List UInt8) (r:Bool) (c:F97 k v0 v1=some r):SM μ 97 [pt 0,one (.str v1)] [bx (Zg v0)] (ob r) [bx (Zg v0)]:=by
 refine Zz [0] Tryz.func97 rfl kr kr ?_
 show WA _ _ 16 _ _ _
 refine Ws [] [(0,pt 0),(1,one (.str v1))] [(0,bx (Zg v0))] ?_
 refine WA.seq ?_
 obtain ⟨a,c⟩:=Zn c
 obtain ⟨b,d,c⟩:=Zh c
 refine Wd [(10,.callR [] (ob b))] [(4,ob b)] [(0,bx (Zg v0))] [(0:Int)≤v0.f_at,(v0.f_at:Int)≤(v0.f_s.length:Int),(v0.f_s.length:Int)≤(v0.f_s.length:Int),SM μ 116 [one (.str ((v0.f_s.take (Int.toNat (v0.f_s.length:Int))).drop (Int.toNat v0.f_at))),one (.str v1)] [] (ob b) [],([]:List Nat).Nodup] ⟨a.1,a.2.1,a.2.2,(Zqz k _ _ _ d),nd,trivial⟩ ?_
 refine WA.ret ?_
 obtain rfl:=zj_ c
 exact Zo (ob b) [bx (Zg v0)] kr kr kr kr nd rfl rfl
def F71 (k:Nat) (v0:Zl) (v1:List UInt8):Option (Bool×Zl):=
  (F97 k v0 v1).bind fun a=>(cond (!a) ((some (false,v0))) ((((some (true,({ v0 with f_at:=(w64 (v0.f_at+(v1.length:Int))) }:Zl)))))))
theorem Zaz (k:Nat) (v0:Zl) (v1:List UInt8) (r:Bool×Zl) (d:F71 k v0 v1=some r):SM μ 71 [pt 0,one (.str v1)] [bx (Zg v0)] (ob r.1) [bx (Zg r.2)]:=by
 refine Zz [0] Tryz.func71 rfl kr kr ?_
 show WA _ _ 19 _ _ _
 refine Ws [] [(0,pt 0),(1,one (.str v1))] [(0,bx (Zg v0))] ?_
 refine WA.seq ?_
 obtain ⟨c,e,d⟩:=Zh d
 refine Wos [(2,.callR [0] (ob c))] [(0,pt 0),(1,one (.str v1)),(8,ob (!c))] [(0,bx (Zg v0))] [SM μ 97 [pt 0,one (.str v1)] [bx (Zg v0)] (ob c) [bx (Zg v0)],([0]:List Nat).Nodup] ⟨(ZdG k _ _ _ e),nd,trivial⟩ ?_
 refine WA.cond (b:=(!c)) rfl (fun a=>?_) (fun a=>?_)
 {
 have d:=Zk d a
 refine Ws [] [(4,ob false)] [(0,bx (Zg v0))] ?_
 refine WA.ret ?_
 obtain rfl:=zj_ d
 exact Zo (ob false) [bx (Zg v0)] kr kr kr kr nd rfl rfl }
 {
 have d:=Zj d a
 refine WA.skip ?_
 refine Ws [] [] [(0,bx (Zg ({ v0 with f_at:=(w64 (v0.f_at+(v1.length:Int))) }:Zl)))] ?_
 refine Ws [] [(4,ob true)] [(0,bx (Zg ({ v0 with f_at:=(w64 (v0.f_at+(v1.length:Int))) }:Zl)))] ?_
 refine WA.ret ?_
 obtain rfl:=zj_ d
 exact Zo (ob true) [bx (Zg ({ v0 with f_at:=(w64 (v0.f_at+(v1.length:Int))) }:Zl))] kr kr kr kr nd rfl rfl }
def ZjP (v0:Zl) (a:Int×Int) (b:Bool):Option (Option (Int×Zl)):=
  cond b (some none) ((((some (some (a.1,({ v0 with f_at:=(w64 (v0.f_at+a.2)) }:Zl)))))))
def F140 (k:Nat) (v0:Zl):Option (Option (Int×Zl)):=
  (F55 k v0.f_s v0.f_at).bind fun a=>(cond (a.2 == 0) ((ZjP v0 a true)) ((ZjP v0 a (decide (a.1<0)))))
theorem Zc6 (k:Nat) (v0:Zl) (r:Option (Int×Zl)) (c:F140 k v0=some r):SimP Tryz.prog (GL0 μ) badV 140 [pt 0] [bx (Zg v0)] (r.map fun r=>(oi r.1,[bx (Zg r.2)])):=by
 refine Zbl [0] Tryz.func140 rfl kr kr ?_
 show WA _ _ 35 _ _ _
 refine Ws [] [(0,pt 0)] [(0,bx (Zg v0))] ?_
 refine WA.seq ?_
 obtain ⟨a,g,c⟩:=Zh c
 refine Wd [(8,.callR [] (.tup [(false,[.pv (.int .i64 a.1)]),(false,[.pv (.int .i64 a.2)])]))] [(0,pt 0),(3,oi a.1),(4,oi a.2)] [(0,bx (Zg v0))] [SM μ 55 [one (.str v0.f_s),oi v0.f_at] [] (.tup [(false,[.pv (.int .i64 a.1)]),(false,[.pv (.int .i64 a.2)])]) [],([]:List Nat).Nodup] ⟨(Zls k _ _ _ g),nd,trivial⟩ ?_
 refine WA.seq ?_
 refine WA.join (fun i=>∃(f:Bool),J i [(0,pt 0),(3,oi a.1),(4,oi a.2),(22,ob f)] [(0,bx (Zg v0))]∧ZjP v0 a f=some r) ?_ ?_
 {
 rintro i ⟨f,h,c⟩
 refine Wj h ?_
 clear h
 refine WA.cond (b:=f) rfl (fun e=>?_) (fun e=>?_)
 {
 have c:=Zk c e
 refine WA.bad [] (t:=70) (env1:=[]) (os1:=[(0,bx (Zg v0))]) (O:=[]) kr (sound _ _) trivial ?_
 obtain rfl:=zj_ c
 exact ⟨rfl,[(Zg v0)],kr,rfl⟩ }
 {
 have c:=Zj c e
 refine WA.skip ?_
 refine Ws [] [(3,oi a.1)] [(0,bx (Zg ({ v0 with f_at:=(w64 (v0.f_at+a.2)) }:Zl)))] ?_
 refine Ws [] [(2,oi a.1)] [(0,bx (Zg ({ v0 with f_at:=(w64 (v0.f_at+a.2)) }:Zl)))] ?_
 refine WA.ret ?_
 obtain rfl:=zj_ c
 exact Zo (oi a.1) [bx (Zg ({ v0 with f_at:=(w64 (v0.f_at+a.2)) }:Zl))] kr kr kr kr nd rfl rfl } }
 {
 rcases zo_ (a.2 == 0) with d | d
 {
 have c:=Zk c d
 refine Wo [(2,.bool true)] [(0,pt 0),(3,oi a.1),(4,oi a.2),(22,ob true)] [(0,bx (Zg v0))] [(a.2 == 0)=true] ⟨d,trivial⟩ ?_
 exact ⟨true,jk,c⟩ }
 {
 have c:=Zj c d
 refine Wo [(2,.bool false)] [(0,pt 0),(3,oi a.1),(4,oi a.2),(22,ob (decide (a.1<0)))] [(0,bx (Zg v0))] [(a.2 == 0)=false] ⟨d,trivial⟩ ?_
 exact ⟨(decide (a.1<0)),jk,c⟩ } }
def ZjR (b:Int) (a:Zl):Option (Option (Int×Zl)):=
  (some (some (b,a)))
def ZjQ (k:Nat) (v0:Zl) (a:Zl) (c:Bool):Option (Option (Int×Zl)):=
  cond c (some none) ((if (0:Int)≤v0.f_at∧(v0.f_at:Int)≤a.f_at∧a.f_at≤(a.f_s.length:Int) then (F172 k ((a.f_s.take (Int.toNat a.f_at)).drop (Int.toNat v0.f_at))).bind fun b=>(cond a.f_over ((ZjR b ({ a with f_over:=true }:Zl))) ((ZjR b ({ a with f_over:=(decide (b > 20)) }:Zl)))) else none))
def Zeq (k:Nat) (b:Zl→Option (Option (Int×Zl))) (v0:Zl) (a:Zl) (c:Bool):Option (Option (Int×Zl)):=
  cond c ((b ({ a with f_at:=(w64 (a.f_at+1)) }:Zl))) ((cond (a.f_at == v0.f_at) ((ZjQ k v0 a true)) ((ZjQ k v0 a (decide (a.f_at > (w64 (v0.f_at+3))))))))
def ZmU (k:Nat) (b:Zl→Option (Option (Int×Zl))) (v0:Zl) (a:Zl):Option (Option (Int×Zl)):=
  cond (decide (a.f_at<(a.f_s.length:Int))) (cond (decide (a.f_at<(w64 (v0.f_at+4)))) ((idxL a.f_s a.f_at).bind fun c=>cond (decide ((c.toNat:Int)≥48)) ((idxL a.f_s a.f_at).bind fun d=>(Zeq k b v0 a (decide ((d.toNat:Int)≤57)))) ((Zeq k b v0 a false))) ((Zeq k b v0 a false))) ((Zeq k b v0 a false))
def ZgY (k:Nat) (v0:Zl):Nat→Zl→Option (Option (Int×Zl))
  | 0,_=>none
  | b+1,a=>ZmU k (ZgY k v0 b) v0 a
def F142 (k:Nat) (v0:Zl):Option (Option (Int×Zl)):=
  ((ZgY k v0 k v0))
theorem ZgZ (k:Nat) (v0:Zl) (r:Option (Int×Zl)) (c:F142 k v0=some r):SimP Tryz.prog (GL0 μ) badV 142 [pt 0] [bx (Zg v0)] (r.map fun r=>(oi r.1,[bx (Zg r.2)])):=by
 refine Zbl [0] Tryz.func142 rfl kr kr ?_
 show WA _ _ 103 _ _ _
 refine Ws [] [(0,pt 0)] [(0,bx (Zg v0))] ?_
 refine Ws [] [(0,pt 0),(3,oi v0.f_at)] [(0,bx (Zg v0))] ?_
 refine WA.seq ?_
 refine WA.block ?_
 refine WA.loop (fun m o=>∃(a:Zl),J o [(0,pt 0),(3,oi v0.f_at)] [(0,bx (Zg a))]∧ZgY k v0 m a=some r) k ⟨v0,jk,c⟩ ?_
 clear c
 rintro m2 o ⟨a,n,c⟩
 refine Wj n ?_
 clear n
 cases m2 with
 | zero=>cases c
 | succ m2=>
  obtain ⟨a0,y⟩:∃g,g=ZgY k v0 m2:=⟨_,rfl⟩
  have c:ZmU k a0 v0 a=some r:=by first | (rw [y];exact c) | exact c
  refine WA.seq ?_
  refine WA.join (fun o=>∃(v:Bool),J o [(0,pt 0),(3,oi v0.f_at),(52,ob v)] [(0,bx (Zg a))]∧Zeq k a0 v0 a v=some r) ?_ ?_
  {
 rintro o ⟨v,n,c⟩
 refine Wj n ?_
 clear n
 refine WA.cond (b:=v) rfl (fun q=>?_) (fun q=>?_)
 {
 have c:=Zk c q
 refine WA.skip ?_
 refine WA.block ?_
 refine Wr [] [(0,pt 0),(3,oi v0.f_at)] [(0,bx (Zg ({ a with f_at:=(w64 (a.f_at+1)) }:Zl)))] ?_
 exact ⟨m2,zl_ _,({ a with f_at:=(w64 (a.f_at+1)) }:Zl),jk,by rw [y] at c;exact c⟩ }
 {
 have c:=Zj c q
 refine WA.exit ?_
 refine WA.seq ?_
 refine WA.join (fun o=>∃(w:Bool),J o [(0,pt 0),(3,oi v0.f_at),(74,ob w)] [(0,bx (Zg a))]∧ZjQ k v0 a w=some r) ?_ ?_
 {
 rintro o ⟨w,n,c⟩
 refine Wj n ?_
 clear n
 refine WA.cond (b:=w) rfl (fun s=>?_) (fun s=>?_)
 {
 have c:=Zk c s
 refine WA.bad [] (t:=70) (env1:=[]) (os1:=[(0,bx (Zg a))]) (O:=[]) kr (sound _ _) trivial ?_
 obtain rfl:=zj_ c
 exact ⟨rfl,[(Zg a)],kr,rfl⟩ }
 {
 have c:=Zj c s
 refine WA.skip ?_
 refine WA.seq ?_
 obtain ⟨u,c⟩:=Zn c
 obtain ⟨d,a2,c⟩:=Zh c
 refine Wd [(10,.callR [] (.tup [(false,[.pv (.int .i64 d)]),(false,[.pv .nilif])]))] [(0,pt 0),(4,oi d)] [(0,bx (Zg a))] [(0:Int)≤v0.f_at,(v0.f_at:Int)≤a.f_at,a.f_at≤(a.f_s.length:Int),SM μ 172 [one (.str ((a.f_s.take (Int.toNat a.f_at)).drop (Int.toNat v0.f_at)))] [] (.tup [(false,[.pv (.int .i64 d)]),(false,[.pv .nilif])]) [],([]:List Nat).Nodup] ⟨u.1,u.2.1,u.2.2,(ZqP k _ _ a2),nd,trivial⟩ ?_
 refine WA.join (fun o=>∃(p:Zl),J o [(4,oi d)] [(0,bx (Zg p))]∧ZjR d p=some r) ?_ ?_
 {
 rintro o ⟨p,n,c⟩
 refine Wj n ?_
 clear n
 refine Ws [] [(2,oi d)] [(0,bx (Zg p))] ?_
 refine WA.ret ?_
 obtain rfl:=zj_ c
 exact Zo (oi d) [bx (Zg p)] kr kr kr kr nd rfl rfl }
 {
 rcases zo_ a.f_over with l | l
 {
 have c:=Zk c l
 refine Wo [(5,.bool true)] [(4,oi d)] [(0,bx (Zg ({ a with f_over:=true }:Zl)))] [a.f_over=true] ⟨l,trivial⟩ ?_
 exact ⟨({ a with f_over:=true }:Zl),jk,c⟩ }
 {
 have c:=Zj c l
 refine Wo [(5,.bool false)] [(4,oi d)] [(0,bx (Zg ({ a with f_over:=(decide (d > 20)) }:Zl)))] [a.f_over=false] ⟨l,trivial⟩ ?_
 exact ⟨({ a with f_over:=(decide (d > 20)) }:Zl),jk,c⟩ } } } }
 {
 rcases zo_ (a.f_at == v0.f_at) with j | j
 {
 have c:=Zk c j
 refine Wo [(6,.bool true)] [(0,pt 0),(3,oi v0.f_at),(74,ob true)] [(0,bx (Zg a))] [(a.f_at == v0.f_at)=true] ⟨j,trivial⟩ ?_
 exact ⟨true,jk,c⟩ }
 {
 have c:=Zj c j
 refine Wo [(6,.bool false)] [(0,pt 0),(3,oi v0.f_at),(74,ob (decide (a.f_at > (w64 (v0.f_at+3)))))] [(0,bx (Zg a))] [(a.f_at == v0.f_at)=false] ⟨j,trivial⟩ ?_
 exact ⟨(decide (a.f_at > (w64 (v0.f_at+3)))),jk,c⟩ } } } }
  {
 rcases zo_ (decide (a.f_at<(a.f_s.length:Int))) with e | e
 {
 have c:=Zk c e
 rcases zo_ (decide (a.f_at<(w64 (v0.f_at+4)))) with f | f
 {
 have c:=Zk c f
 obtain ⟨h,z,c⟩:=Zh c
 rcases zo_ (decide ((h.toNat:Int)≥48)) with i | i
 {
 have c:=Zk c i
 obtain ⟨x,a1,c⟩:=Zh c
 refine Wd [(10,.bool true),(19,.bool true),(28,.num (h.toNat:Int)),(31,.bool true),(40,.num (x.toNat:Int))] [(0,pt 0),(3,oi v0.f_at),(52,ob (decide ((x.toNat:Int)≤57)))] [(0,bx (Zg a))] [(decide (a.f_at<(a.f_s.length:Int)))=true,(decide (a.f_at<(w64 (v0.f_at+4))))=true,(idxL a.f_s a.f_at).map (fun b=>(b.toNat:Int))=some (h.toNat:Int),(decide ((h.toNat:Int)≥48))=true,(idxL a.f_s a.f_at).map (fun b=>(b.toNat:Int))=some (x.toNat:Int)] ⟨e,f,(by rw [z];rfl),i,(by rw [a1];rfl),trivial⟩ ?_
 exact ⟨(decide ((x.toNat:Int)≤57)),jk,c⟩ }
 {
 have c:=Zj c i
 refine Wd [(10,.bool true),(19,.bool true),(28,.num (h.toNat:Int)),(31,.bool false)] [(0,pt 0),(3,oi v0.f_at),(52,ob false)] [(0,bx (Zg a))] [(decide (a.f_at<(a.f_s.length:Int)))=true,(decide (a.f_at<(w64 (v0.f_at+4))))=true,(idxL a.f_s a.f_at).map (fun b=>(b.toNat:Int))=some (h.toNat:Int),(decide ((h.toNat:Int)≥48))=false] ⟨e,f,(by rw [z];rfl),i,trivial⟩ ?_
 exact ⟨false,jk,c⟩ } }
 {
 have c:=Zj c f
 refine Wd [(10,.bool true),(19,.bool false)] [(0,pt 0),(3,oi v0.f_at),(52,ob false)] [(0,bx (Zg a))] [(decide (a.f_at<(a.f_s.length:Int)))=true,(decide (a.f_at<(w64 (v0.f_at+4))))=false] ⟨e,f,trivial⟩ ?_
 exact ⟨false,jk,c⟩ } }
 {
 have c:=Zj c e
 refine Wd [(10,.bool false)] [(0,pt 0),(3,oi v0.f_at),(52,ob false)] [(0,bx (Zg a))] [(decide (a.f_at<(a.f_s.length:Int)))=false] ⟨e,trivial⟩ ?_
 exact ⟨false,jk,c⟩ } }
def Zeo (k:Nat) (d:Int×Zl) (b:Zl) (c:Int):Option (Option (Int×Int×Zl)):=
  (F71 k b ([125]:List UInt8)).bind fun a=>(cond (!a.1) (some none) (((some (some (d.1,c,a.2))))))
def F118 (k:Nat) (v0:Zl):Option (Option (Int×Int×Zl)):=
  (orP (F142 k v0) fun a=>((F71 k a.2 ([44]:List UInt8)).bind fun c=>(cond c.1 ((F97 k c.2 ([125]:List UInt8)).bind fun d=>(cond (!d) (orP (F142 k c.2) fun b=>(cond b.2.f_over ((Zeo k a ({ b.2 with f_over:=true }:Zl) b.1)) ((Zeo k a ({ b.2 with f_over:=(decide (b.1<a.1)) }:Zl) b.1)))) ((Zeo k a c.2 (-1))))) ((Zeo k a c.2 a.1)))))
theorem ZmP (k:Nat) (v0:Zl) (r:Option (Int×Int×Zl)) (d:F118 k v0=some r):SimP Tryz.prog (GL0 μ) badV 118 [pt 0] [bx (Zg v0)] (r.map fun r=>(.tup [(false,[.pv (.int .i64 r.1)]),(false,[.pv (.int .i64 r.2.1)])],[bx (Zg r.2.2)])):=by
 refine Zbl [0] Tryz.func118 rfl kr kr ?_
 show WA _ _ 35 _ _ _
 refine Ws [] [(0,pt 0)] [(0,bx (Zg v0))] ?_
 refine WA.seq ?_
 rcases Zab d with ⟨hz,hr⟩ | ⟨a,p,d⟩
 {
 subst hr
 refine WA.regP 1 [0] [] [] badV (f:=142) (args:=[pt 0]) (os:=[bx (Zg v0)]) (env1:=[]) (os1:=[(0,bx (Zg v0))]) (O:=[]) kr (sound _ _) trivial nd (ZgZ k _ _ hz) (fun psl hpsl=>?_)
 obtain ⟨ps,rfl⟩:=Z1 hpsl
 exact ⟨rfl,[ps],kr,rfl⟩ }
 {
 refine Wo [(1,.call [0] (oi a.1) [bx (Zg a.2)] [])] [(0,pt 0),(4,oi a.1)] [(0,bx (Zg a.2))] [SM μ 142 [pt 0] [bx (Zg v0)] (oi a.1) [bx (Zg a.2)],([0]:List Nat).Nodup] ⟨(ZgZ k _ _ p),nd,trivial⟩ ?_
 refine Ws [] [(0,pt 0),(4,oi a.1),(5,oi a.1)] [(0,bx (Zg a.2))] ?_
 refine WA.join (fun x=>∃(n:Zl) (i:Int),J x [(0,pt 0),(4,oi a.1),(5,oi i)] [(0,bx (Zg n))]∧Zeo k a n i=some r) ?_ ?_
 {
 rintro x ⟨n,i,w,d⟩
 refine Wj w ?_
 clear w
 refine WA.seq ?_
 obtain ⟨g,v,d⟩:=Zh d
 refine Wos [(1,.call [0] (ob g.1) [bx (Zg g.2)] [])] [(4,oi a.1),(5,oi i),(30,ob (!g.1))] [(0,bx (Zg g.2))] [SM μ 71 [pt 0,one (.str ([125]:List UInt8))] [bx (Zg n)] (ob g.1) [bx (Zg g.2)],([0]:List Nat).Nodup] ⟨(Zaz k _ _ _ v),nd,trivial⟩ ?_
 refine WA.cond (b:=(!g.1)) rfl (fun m=>?_) (fun m=>?_)
 {
 have d:=Zk d m
 refine WA.bad [] (t:=70) (env1:=[]) (os1:=[(0,bx (Zg g.2))]) (O:=[]) kr (sound _ _) trivial ?_
 obtain rfl:=zj_ d
 exact ⟨rfl,[(Zg g.2)],kr,rfl⟩ }
 {
 have d:=Zj d m
 refine WA.skip ?_
 refine Ws [] [(2,oi a.1),(3,oi i)] [(0,bx (Zg g.2))] ?_
 refine WA.ret ?_
 obtain rfl:=zj_ d
 exact Zo (.tup [(false,[.pv (.int .i64 a.1)]),(false,[.pv (.int .i64 i)])]) [bx (Zg g.2)] kr kr kr kr nd rfl rfl } }
 {
 obtain ⟨e,q,d⟩:=Zh d
 refine Wos [(1,.call [0] (ob e.1) [bx (Zg e.2)] [])] [(0,pt 0),(4,oi a.1),(5,oi a.1),(10,ob e.1)] [(0,bx (Zg e.2))] [SM μ 71 [pt 0,one (.str ([44]:List UInt8))] [bx (Zg a.2)] (ob e.1) [bx (Zg e.2)],([0]:List Nat).Nodup] ⟨(Zaz k _ _ _ q),nd,trivial⟩ ?_
 refine WA.cond (b:=e.1) rfl (fun j=>?_) (fun j=>?_)
 {
 have d:=Zk d j
 refine Ws [] [(0,pt 0),(4,oi a.1),(5,oi (-1))] [(0,bx (Zg e.2))] ?_
 obtain ⟨o,s,d⟩:=Zh d
 refine Wos [(1,.callR [0] (ob o))] [(0,pt 0),(4,oi a.1),(5,oi (-1)),(13,ob (!o))] [(0,bx (Zg e.2))] [SM μ 97 [pt 0,one (.str ([125]:List UInt8))] [bx (Zg e.2)] (ob o) [bx (Zg e.2)],([0]:List Nat).Nodup] ⟨(ZdG k _ _ _ s),nd,trivial⟩ ?_
 refine WA.cond (b:=(!o)) rfl (fun l=>?_) (fun l=>?_)
 {
 have d:=Zk d l
 refine WA.seq ?_
 rcases Zab d with ⟨hz,hr⟩ | ⟨c,u,d⟩
 {
 subst hr
 refine WA.regP 1 [0] [] [] badV (f:=142) (args:=[pt 0]) (os:=[bx (Zg e.2)]) (env1:=[]) (os1:=[(0,bx (Zg e.2))]) (O:=[]) kr (sound _ _) trivial nd (ZgZ k _ _ hz) (fun psl hpsl=>?_)
 obtain ⟨ps,rfl⟩:=Z1 hpsl
 exact ⟨rfl,[ps],kr,rfl⟩ }
 {
 refine Wo [(1,.call [0] (oi c.1) [bx (Zg c.2)] [])] [(0,pt 0),(4,oi a.1),(5,oi c.1)] [(0,bx (Zg c.2))] [SM μ 142 [pt 0] [bx (Zg e.2)] (oi c.1) [bx (Zg c.2)],([0]:List Nat).Nodup] ⟨(ZgZ k _ _ u),nd,trivial⟩ ?_
 rcases zo_ c.2.f_over with h | h
 {
 have d:=Zk d h
 refine Wo [(5,.bool true)] [(0,pt 0),(4,oi a.1),(5,oi c.1)] [(0,bx (Zg ({ c.2 with f_over:=true }:Zl)))] [c.2.f_over=true] ⟨h,trivial⟩ ?_
 exact ⟨({ c.2 with f_over:=true }:Zl),c.1,jk,d⟩ }
 {
 have d:=Zj d h
 refine Wo [(5,.bool false)] [(0,pt 0),(4,oi a.1),(5,oi c.1)] [(0,bx (Zg ({ c.2 with f_over:=(decide (c.1<a.1)) }:Zl)))] [c.2.f_over=false] ⟨h,trivial⟩ ?_
 exact ⟨({ c.2 with f_over:=(decide (c.1<a.1)) }:Zl),c.1,jk,d⟩ } } }
 {
 have d:=Zj d l
 refine WA.skip ?_
 exact ⟨e.2,(-1),jk,d⟩ } }
 {
 have d:=Zj d j
 refine WA.skip ?_
 exact ⟨e.2,a.1,jk,d⟩ } } }
def ZgW (b:Int×Zl) (a:Int):Option (Option ((List Zb)×Zl)):=
  (some (some (([(⟨a,a⟩:Zb)]:List Zb),b.2)))
def ZjO (a:Int×Zl) (b:Bool):Option (Option ((List Zb)×Zl)):=
  cond b (some none) ((ZgW a a.1))
def F139 (k:Nat) (v0:Zl) (v1:List UInt8):Option (Option ((List Zb)×Zl)):=
  (orP (F140 k v0) fun a=>((cond (a.1 == 100) ((some (some (([(⟨48,57⟩:Zb)]:List Zb),a.2)))) ((cond (a.1 == 110) ((ZgW a 10)) ((cond (a.1 == 116) ((ZgW a 9)) (cond (decide (a.1 > 126)) ((ZjO a true)) ((F170 k v1 (IntKind.wrap .u8 a.1)).bind fun b=>(ZjO a (decide (b<0))))))))))))
theorem ZgX (k:Nat) (v0:Zl) (v1:List UInt8) (r:Option ((List Zb)×Zl)) (c:F139 k v0 v1=some r):SimP Tryz.prog (GL0 μ) badV 139 [pt 0,one (.str v1)] [bx (Zg v0)] (r.map fun r=>(ar 1 r.1.length,[bx (Zg r.2),.arr 2 (r.1.map Za)])):=by
 refine Zbl [0,900] Tryz.func139 rfl kr kr ?_
 show WA _ _ 35 _ _ _
 refine Ws [(0,.obj 900)] [(0,pt 0),(1,one (.str v1))] [(0,bx (Zg v0))] ?_
 refine WA.seq ?_
 rcases Zab c with ⟨hz,hr⟩ | ⟨a,p,c⟩
 {
 subst hr
 refine WA.regP 1 [0] [] [] badV (f:=140) (args:=[pt 0]) (os:=[bx (Zg v0)]) (env1:=[]) (os1:=[(0,bx (Zg v0))]) (O:=[]) kr (sound _ _) trivial nd (Zc6 k _ _ hz) (fun psl hpsl=>?_)
 obtain ⟨ps,rfl⟩:=Z1 hpsl
 exact ⟨rfl,[ps],kr,rfl⟩ }
 {
 refine Wo [(1,.call [0] (oi a.1) [bx (Zg a.2)] [])] [(1,one (.str v1)),(5,oi a.1)] [(0,bx (Zg a.2))] [SM μ 140 [pt 0] [bx (Zg v0)] (oi a.1) [bx (Zg a.2)],([0]:List Nat).Nodup] ⟨(Zc6 k _ _ p),nd,trivial⟩ ?_
 refine WA.join (fun o=>∃(d:Int),J o [(5,oi d)] [(0,bx (Zg a.2))]∧ZgW a d=some r) ?_ ?_
 {
 rintro o ⟨d,n,c⟩
 refine Wj n ?_
 clear n
 refine Ws [(3,.obj 900)] [(4,ar 900 1)] [(0,bx (Zg a.2)),(900,.arr 2 (([(⟨d,d⟩:Zb)]:List Zb).map Za))] ?_
 refine WA.ret ?_
 obtain rfl:=zj_ c
 exact Zo (ar 900 1) [bx (Zg a.2),.arr 2 (([(⟨d,d⟩:Zb)]:List Zb).map Za)] kr (by have h0_:1=(([(⟨d,d⟩:Zb)]:List Zb):List _).length:=zt;rw [h0_] <;> rfl) kr kr nd rfl rfl }
 {
 refine WA.block ?_
 refine Ws [] [(1,one (.str v1)),(5,oi a.1),(8,ob (a.1 == 100))] [(0,bx (Zg a.2))] ?_
 refine WA.cond (b:=(a.1 == 100)) rfl (fun g=>?_) (fun g=>?_)
 {
 have c:=Zk c g
 refine Ws [(1,.obj 900)] [(4,ar 900 1)] [(0,bx (Zg a.2)),(900,.arr 2 (([(⟨48,57⟩:Zb)]:List Zb).map Za))] ?_
 refine WA.ret ?_
 obtain rfl:=zj_ c
 exact Zo (ar 900 1) [bx (Zg a.2),.arr 2 (([(⟨48,57⟩:Zb)]:List Zb).map Za)] kr (by have h0_:1=(([(⟨48,57⟩:Zb)]:List Zb):List _).length:=zt;rw [h0_] <;> rfl) kr kr nd rfl rfl }
 {
 have c:=Zj c g
 refine Ws [] [(1,one (.str v1)),(5,oi a.1),(13,ob (a.1 == 110))] [(0,bx (Zg a.2))] ?_
 refine WA.cond (b:=(a.1 == 110)) rfl (fun h=>?_) (fun h=>?_)
 {
 have c:=Zk c h
 refine Wr [] [(5,oi 10)] [(0,bx (Zg a.2))] ?_
 exact ⟨10,jk,c⟩ }
 {
 have c:=Zj c h
 refine Ws [] [(1,one (.str v1)),(5,oi a.1),(16,ob (a.1 == 116))] [(0,bx (Zg a.2))] ?_
 refine WA.cond (b:=(a.1 == 116)) rfl (fun i=>?_) (fun i=>?_)
 {
 have c:=Zk c i
 refine Wr [] [(5,oi 9)] [(0,bx (Zg a.2))] ?_
 exact ⟨9,jk,c⟩ }
 {
 have c:=Zj c i
 refine WA.join (fun o=>∃(l:Bool),J o [(5,oi a.1),(19,ob l)] [(0,bx (Zg a.2))]∧ZjO a l=some r) ?_ ?_
 {
 rintro o ⟨l,n,c⟩
 refine Wj n ?_
 clear n
 refine WA.cond (b:=l) rfl (fun j=>?_) (fun j=>?_)
 {
 have c:=Zk c j
 refine WA.bad [] (t:=70) (env1:=[]) (os1:=[(0,bx (Zg a.2))]) (O:=[]) kr (sound _ _) trivial ?_
 obtain rfl:=zj_ c
 exact ⟨rfl,[(Zg a.2)],kr,rfl⟩ }
 {
 have c:=Zj c j
 refine WA.skip ?_
 exact ⟨a.1,jk,c⟩ } }
 {
 rcases zo_ (decide (a.1 > 126)) with e | e
 {
 have c:=Zk c e
 refine Wo [(2,.bool true)] [(5,oi a.1),(19,ob true)] [(0,bx (Zg a.2))] [(decide (a.1 > 126))=true] ⟨e,trivial⟩ ?_
 exact ⟨true,jk,c⟩ }
 {
 have c:=Zj c e
 obtain ⟨m,q,c⟩:=Zh c
 refine Wo [(2,.bool false),(6,.callR [] (oi m))] [(5,oi a.1),(19,ob (decide (m<0)))] [(0,bx (Zg a.2))] [(decide (a.1 > 126))=false,SM μ 170 [one (.str v1),one (.int .u8 (IntKind.wrap .u8 a.1))] [] (oi m) [],([]:List Nat).Nodup] ⟨e,(ZjT k _ _ _ q),nd,trivial⟩ ?_
 exact ⟨(decide (m<0)),jk,c⟩ } } } } } } }
def F169 (k:Nat) (v0:Zl):Option (Option ((List Zb)×Zl)):=
  (F71 k v0 ([92]:List UInt8)).bind fun b=>(cond b.1 (orP (F139 k b.2 ([92,46,91,93,40,41,123,125,42,43,63,124,94,36,45,47]:List UInt8)) fun c=>(some (some (c.1,c.2)))) ((orP (F140 k b.2) fun a=>(F141 k ([92,91,93,94,45]:List UInt8) (IntKind.wrap .i32 a.1)).bind fun d=>(cond d (some none) (((some (some (([(⟨a.1,a.1⟩:Zb)]:List Zb),a.2)))))))))
theorem Zg9 (k:Nat) (v0:Zl) (r:Option ((List Zb)×Zl)) (e:F169 k v0=some r):SimP Tryz.prog (GL0 μ) badV 169 [pt 0] [bx (Zg v0)] (r.map fun r=>(ar 1 r.1.length,[bx (Zg r.2),.arr 2 (r.1.map Za)])):=by
 refine Zbl [0,900] Tryz.func169 rfl kr kr ?_
 show WA _ _ 19 _ _ _
 refine Ws [(0,.obj 900)] [(0,pt 0)] [(0,bx (Zg v0))] ?_
 refine WA.seq ?_
 obtain ⟨c,j,e⟩:=Zh e
 refine Wos [(1,.call [0] (ob c.1) [bx (Zg c.2)] [])] [(0,pt 0),(5,ob c.1)] [(0,bx (Zg c.2))] [SM μ 71 [pt 0,one (.str ([92]:List UInt8))] [bx (Zg v0)] (ob c.1) [bx (Zg c.2)],([0]:List Nat).Nodup] ⟨(Zaz k _ _ _ j),nd,trivial⟩ ?_
 refine WA.cond (b:=c.1) rfl (fun g=>?_) (fun g=>?_)
 {
 have e:=Zk e g
 refine WA.seq ?_
 rcases Zab e with ⟨hz,hr⟩ | ⟨d,l,e⟩
 {
 subst hr
 refine WA.regP 1 [0] [] [] badV (f:=139) (args:=[pt 0,one (.str ([92,46,91,93,40,41,123,125,42,43,63,124,94,36,45,47]:List UInt8))]) (os:=[bx (Zg c.2)]) (env1:=[]) (os1:=[(0,bx (Zg c.2))]) (O:=[]) kr (sound _ _) trivial nd (ZgX k _ _ _ hz) (fun psl hpsl=>?_)
 obtain ⟨ps,rfl⟩:=Z1 hpsl
 exact ⟨rfl,[ps],kr,rfl⟩ }
 {
 refine Wo [(1,.call [0] (ar 1 d.1.length) [bx (Zg d.2),.arr 2 (d.1.map Za)] [900])] [(2,ar 900 d.1.length)] [(0,bx (Zg d.2)),(900,.arr 2 (d.1.map Za))] [SM μ 139 [pt 0,one (.str ([92,46,91,93,40,41,123,125,42,43,63,124,94,36,45,47]:List UInt8))] [bx (Zg c.2)] (ar 1 d.1.length) [bx (Zg d.2),.arr 2 (d.1.map Za)],([0]:List Nat).Nodup] ⟨(ZgX k _ _ _ l),nd,trivial⟩ ?_
 refine WA.ret ?_
 obtain rfl:=zj_ e
 exact Zo (ar 900 d.1.length) [bx (Zg d.2),.arr 2 (d.1.map Za)] kr kr kr kr nd rfl rfl } }
 {
 have e:=Zj e g
 refine WA.skip ?_
 refine WA.seq ?_
 rcases Zab e with ⟨hz,hr⟩ | ⟨a,m,e⟩
 {
 subst hr
 refine WA.regP 1 [0] [] [] badV (f:=140) (args:=[pt 0]) (os:=[bx (Zg c.2)]) (env1:=[]) (os1:=[(0,bx (Zg c.2))]) (O:=[]) kr (sound _ _) trivial nd (Zc6 k _ _ hz) (fun psl hpsl=>?_)
 obtain ⟨ps,rfl⟩:=Z1 hpsl
 exact ⟨rfl,[ps],kr,rfl⟩ }
 {
 refine Wo [(1,.call [0] (oi a.1) [bx (Zg a.2)] [])] [(3,oi a.1)] [(0,bx (Zg a.2))] [SM μ 140 [pt 0] [bx (Zg c.2)] (oi a.1) [bx (Zg a.2)],([0]:List Nat).Nodup] ⟨(Zc6 k _ _ m),nd,trivial⟩ ?_
 refine WA.seq ?_
 obtain ⟨i,n,e⟩:=Zh e
 refine Wos [(2,.callR [] (ob i))] [(3,oi a.1),(12,ob i)] [(0,bx (Zg a.2))] [SM μ 141 [one (.str ([92,91,93,94,45]:List UInt8)),one (.int .i32 (IntKind.wrap .i32 a.1))] [] (ob i) [],([]:List Nat).Nodup] ⟨(ZmT k _ _ _ n),nd,trivial⟩ ?_
 refine WA.cond (b:=i) rfl (fun h=>?_) (fun h=>?_)
 {
 have e:=Zk e h
 refine WA.bad [] (t:=70) (env1:=[]) (os1:=[(0,bx (Zg a.2))]) (O:=[]) kr (sound _ _) trivial ?_
 obtain rfl:=zj_ e
 exact ⟨rfl,[(Zg a.2)],kr,rfl⟩ }
 {
 have e:=Zj e h
 refine WA.skip ?_
 refine Ws [(3,.obj 900)] [(2,ar 900 1)] [(0,bx (Zg a.2)),(900,.arr 2 (([(⟨a.1,a.1⟩:Zb)]:List Zb).map Za))] ?_
 refine WA.ret ?_
 obtain rfl:=zj_ e
 exact Zo (ar 900 1) [bx (Zg a.2),.arr 2 (([(⟨a.1,a.1⟩:Zb)]:List Zb).map Za)] kr (by have h0_:1=(([(⟨a.1,a.1⟩:Zb)]:List Zb):List _).length:=zt;rw [h0_] <;> rfl) kr kr nd rfl rfl } } }
end Go.Proofs.YthilboheomikjaaGreatDoor
end
section
namespace Go.Proofs.YthilboheomikjaaGreatDoor
open Go.AL
variable {μ:Int}
set_option maxRecDepth 100000
def ZjM (c:Zl→(List Zb)→Bool→Option (Option (Zd×Zl))) (a:List Zb) (d:Zl) (b:List Zb):Option (Option (Zd×Zl)):=
  if a.length+b.length≤1073741824 then (c d (a ++ b) false) else none
def ZgU (c:Zl→(List Zb)→Bool→Option (Option (Zd×Zl))) (d:List Zb) (a:(List Zb)×Zl) (b:(List Zb)×Zl) (e:Bool):Option (Option (Zd×Zl)):=
  cond e (some none) ((idxL b.1 0).bind fun f=>if (0:Int)≤0∧0<(a.1.length:Int) then (idxL a.1 0).bind fun g=>(ZjM c d b.2 (a.1.set (Int.toNat 0) ({ g with f_Hi:=f.f_Lo }:Zb))) else none)
def ZjN (k:Nat) (v158:Zl) (a:List Zb):Option (Option (Zd×Zl)):=
  (F58 k a).bind fun b=>(some (some (b,v158)))
def ZjL (k:Nat) (b:Zl→(List Zb)→Bool→Option (Option (Zd×Zl))) (h:Bool×Zl) (c:List Zb) (v158:Zl) (g:Bool):Option (Option (Zd×Zl)):=
  cond g ((F97 k v158 ([92,100]:List UInt8)).bind fun i=>(orP (F169 k v158) fun a=>(F71 k a.2 ([45]:List UInt8)).bind fun d=>(cond d.1 ((F97 k d.2 ([92,100]:List UInt8)).bind fun j=>(orP (F169 k d.2) fun e=>(cond i ((ZgU b c a e true)) (cond j ((ZgU b c a e true)) ((idxL e.1 0).bind fun l=>if (0:Int)≤0∧0<(a.1.length:Int) then (idxL a.1 0).bind fun m=>(ZgU b c a e (decide (l.f_Lo<m.f_Lo))) else none))))) ((ZjM b c d.2 a.1))))) ((F77 k c).bind fun n=>(F59 k).bind fun o=>(F76 k n o).bind fun f=>((cond h.1 ((F109 k f).bind fun p=>(ZjN k v158 p)) ((ZjN k v158 f)))))
def ZmR (k:Nat) (a:Zl→(List Zb)→Bool→Option (Option (Zd×Zl))) (d:Bool×Zl) (b:Zl) (c:List Zb) (f:Bool):Option (Option (Zd×Zl)):=
  cond f ((ZjL k a d c b true)) ((F71 k b ([93]:List UInt8)).bind fun e=>(ZjL k a d c e.2 (!e.1)))
def ZgV (k:Nat) (a:Bool×Zl):Nat→Zl→(List Zb)→Bool→Option (Option (Zd×Zl))
  | 0,_,_,_=>none
  | e+1,b,c,d=>ZmR k (ZgV k a e) a b c d
def F138 (k:Nat) (v0:Zl):Option (Option (Zd×Zl)):=
  (F71 k v0 ([94]:List UInt8)).bind fun a=>(((ZgV k a k a.2 ([]:List Zb) true)))
theorem ZmS (k:Nat) (v0:Zl) (r:Option (Zd×Zl)) (c:F138 k v0=some r):SimP Tryz.prog (GL0 μ) badV 138 [pt 0] [bx (Zg v0)] (r.map fun r=>(tv (Zc r.1),[bx (Zg r.2)])):=by
 refine Zbl [0] Tryz.func138 rfl kr kr ?_
 show WA _ _ 64 _ _ _
 refine Ws [(0,.obj 102)] [(0,pt 0),(2,pt 102)] [(0,bx (Zg v0)),(102,bx (Zc (⟨0,([]:List Zb),([]:List Zd),0,0⟩:Zd)))] ?_
 obtain ⟨d,c4,c⟩:=Zh c
 refine Wos [(1,.call [0] (ob d.1) [bx (Zg d.2)] [])] [(0,pt 0),(2,pt 102),(3,ob d.1)] [(0,bx (Zg d.2)),(102,bx (Zc (⟨0,([]:List Zb),([]:List Zd),0,0⟩:Zd)))] [SM μ 71 [pt 0,one (.str ([94]:List UInt8))] [bx (Zg v0)] (ob d.1) [bx (Zg d.2)],([0]:List Nat).Nodup] ⟨(Zaz k _ _ _ c4),nd,trivial⟩ ?_
 refine Ws [(0,.obj 104)] [(0,pt 0),(2,pt 102),(3,ob d.1),(4,ar 104 0)] [(0,bx (Zg d.2)),(102,bx (Zc (⟨0,([]:List Zb),([]:List Zd),0,0⟩:Zd))),(104,.arr 2 (([]:List Zb).map Za))] ?_
 refine WA.seq ?_
 refine Ws [] [(0,pt 0),(2,pt 102),(3,ob d.1),(4,ar 104 0),(5,ob true)] [(0,bx (Zg d.2)),(102,bx (Zc (⟨0,([]:List Zb),([]:List Zd),0,0⟩:Zd))),(104,.arr 2 (([]:List Zb).map Za))] ?_
 refine WA.block ?_
 refine WA.loop (fun m s_=>∃(u:Zl) (e:List Zb) (h:Nat) (v:Bool),J s_ [(0,pt 0),(2,pt 102),(3,ob d.1),(4,ar 104 h),(5,ob v)] [(0,bx (Zg u)),(102,bx (Zc (⟨0,([]:List Zb),([]:List Zd),0,0⟩:Zd))),(104,.arr 2 (e.map Za))]∧h=(e:List _).length∧ZgV k d m u e v=some r) k ⟨d.2,([]:List Zb),0,true,jk,zt,c⟩ ?_
 clear c
 rintro m5 s_ ⟨u,e,h,v,he,e1,c⟩
 refine Wj he ?_
 clear he
 cases m5 with
 | zero=>cases c
 | succ m5=>
  obtain ⟨a3,b8⟩:∃g,g=ZgV k d m5:=⟨_,rfl⟩
  have c:ZmR k a3 d u e v=some r:=by first | (rw [b8];exact c) | exact c
  refine WA.seq ?_
  refine WA.join (fun s_=>∃(v158:Zl) (b0:Bool),J s_ [(0,pt 0),(2,pt 102),(3,ob d.1),(4,ar 104 h),(17,ob b0)] [(0,bx (Zg v158)),(102,bx (Zc (⟨0,([]:List Zb),([]:List Zd),0,0⟩:Zd))),(104,.arr 2 (e.map Za))]∧ZjL k a3 d e v158 b0=some r) ?_ ?_
  {
 rintro s_ ⟨v158,b0,he,c⟩
 refine Wj he ?_
 clear he
 refine WA.cond (b:=b0) rfl (fun a6=>?_) (fun a6=>?_)
 {
 have c:=Zk c a6
 refine WA.skip ?_
 refine WA.seq ?_
 refine WA.block ?_
 obtain ⟨o,c6,c⟩:=Zh c
 refine Wos [(1,.callR [0] (ob o))] [(0,pt 0),(2,pt 102),(3,ob d.1),(4,ar 104 h),(6,ob o)] [(0,bx (Zg v158)),(102,bx (Zc (⟨0,([]:List Zb),([]:List Zd),0,0⟩:Zd))),(104,.arr 2 (e.map Za))] [SM μ 97 [pt 0,one (.str ([92,100]:List UInt8))] [bx (Zg v158)] (ob o) [bx (Zg v158)],([0]:List Nat).Nodup] ⟨(ZdG k _ _ _ c6),nd,trivial⟩ ?_
 refine WA.seq ?_
 rcases Zab c with ⟨hz,hr⟩ | ⟨a,c7,c⟩
 {
 subst hr
 refine WA.regP 1 [0] [] [] badV (f:=169) (args:=[pt 0]) (os:=[bx (Zg v158)]) (env1:=[]) (os1:=[(0,bx (Zg v158)),(102,bx (Zc (⟨0,([]:List Zb),([]:List Zd),0,0⟩:Zd))),(104,.arr 2 (e.map Za))]) (O:=[]) kr (sound _ _) trivial nd (Zg9 k _ _ hz) (fun psl hpsl=>?_)
 obtain ⟨ps,rfl⟩:=Z1 hpsl
 exact ⟨rfl,[ps],kr,rfl⟩ }
 {
 refine Wo [(1,.call [0] (ar 1 a.1.length) [bx (Zg a.2),.arr 2 (a.1.map Za)] [121])] [(0,pt 0),(2,pt 102),(3,ob d.1),(4,ar 104 h),(6,ob o),(7,ar 121 a.1.length)] [(0,bx (Zg a.2)),(102,bx (Zc (⟨0,([]:List Zb),([]:List Zd),0,0⟩:Zd))),(104,.arr 2 (e.map Za)),(121,.arr 2 (a.1.map Za))] [SM μ 169 [pt 0] [bx (Zg v158)] (ar 1 a.1.length) [bx (Zg a.2),.arr 2 (a.1.map Za)],([0]:List Nat).Nodup] ⟨(Zg9 k _ _ c7),nd,trivial⟩ ?_
 refine WA.join (fun s_=>∃(w:Zl) (j:List Zb) (b2:Nat),J s_ [(0,pt 0),(2,pt 102),(3,ob d.1),(4,ar 104 h),(7,ar 121 b2)] [(0,bx (Zg w)),(102,bx (Zc (⟨0,([]:List Zb),([]:List Zd),0,0⟩:Zd))),(104,.arr 2 (e.map Za)),(121,.arr 2 (j.map Za))]∧b2=(j:List _).length∧ZjM a3 e w j=some r) ?_ ?_
 {
 rintro s_ ⟨w,j,b2,he,e2,c⟩
 refine Wj he ?_
 clear he
 refine WA.freeze 121 7 (s:=2) (n:=b2) (els:=(j.map Za)) rfl rfl zt ?_
 refine Wk [(0,pt 0),(2,pt 102),(3,ob d.1),(4,ar 104 h),(7,one (.sl (j.map Za)))] [(0,bx (Zg w)),(102,bx (Zc (⟨0,([]:List Zb),([]:List Zd),0,0⟩:Zd))),(104,.arr 2 (e.map Za))] ?_
 obtain ⟨c3,c⟩:=Zn c
 refine Wm (((h+(j.map Za).length),((e.map Za) ++ (j.map Za))):Nat×(List (List PV))) ((h+j.length),((e ++ j).map Za)) (fun m_=>([(0,pt 0),(2,pt 102),(3,ob d.1),(4,ar 104 m_.1)],[(0,bx (Zg w)),(102,bx (Zc (⟨0,([]:List Zb),([]:List Zd),0,0⟩:Zd))),(104,.arr 2 m_.2)],[h=(e.map Za).length,(e.map Za).length+(j.map Za).length≤1073741824,∀es,es∈(j.map Za)→es.length=2])) (ZJ (by first | (simp only [zl,Zi];done) | (simp only [zl,Zi];omega) | omega) zm) [] ⟨zt,(by first | exact c3 | (simp only [List.length_map,Zi];exact c3)),(ZT j),trivial⟩ ?_
 refine Wr [] [(0,pt 0),(2,pt 102),(3,ob d.1),(4,ar 104 (h+j.length)),(5,ob false)] [(0,bx (Zg w)),(102,bx (Zc (⟨0,([]:List Zb),([]:List Zd),0,0⟩:Zd))),(104,.arr 2 ((e ++ j).map Za))] ?_
 exact ⟨m5,zl_ _,w,(e ++ j),(h+j.length),false,jk,zt,by rw [b8] at c;exact c⟩ }
 {
 obtain ⟨l,c8,c⟩:=Zh c
 refine Wos [(1,.call [0] (ob l.1) [bx (Zg l.2)] [])] [(0,pt 0),(2,pt 102),(3,ob d.1),(4,ar 104 h),(6,ob o),(7,ar 121 a.1.length),(23,ob l.1)] [(0,bx (Zg l.2)),(102,bx (Zc (⟨0,([]:List Zb),([]:List Zd),0,0⟩:Zd))),(104,.arr 2 (e.map Za)),(121,.arr 2 (a.1.map Za))] [SM μ 71 [pt 0,one (.str ([45]:List UInt8))] [bx (Zg a.2)] (ob l.1) [bx (Zg l.2)],([0]:List Nat).Nodup] ⟨(Zaz k _ _ _ c8),nd,trivial⟩ ?_
 refine WA.cond (b:=l.1) rfl (fun a7=>?_) (fun a7=>?_)
 {
 have c:=Zk c a7
 obtain ⟨x,c9,c⟩:=Zh c
 refine Wos [(1,.callR [0] (ob x))] [(0,pt 0),(2,pt 102),(3,ob d.1),(4,ar 104 h),(6,ob o),(7,ar 121 a.1.length),(8,ob x)] [(0,bx (Zg l.2)),(102,bx (Zc (⟨0,([]:List Zb),([]:List Zd),0,0⟩:Zd))),(104,.arr 2 (e.map Za)),(121,.arr 2 (a.1.map Za))] [SM μ 97 [pt 0,one (.str ([92,100]:List UInt8))] [bx (Zg l.2)] (ob x) [bx (Zg l.2)],([0]:List Nat).Nodup] ⟨(ZdG k _ _ _ c9),nd,trivial⟩ ?_
 refine WA.seq ?_
 rcases Zab c with ⟨hz,hr⟩ | ⟨i,d0,c⟩
 {
 subst hr
 refine WA.regP 1 [0] [] [] badV (f:=169) (args:=[pt 0]) (os:=[bx (Zg l.2)]) (env1:=[]) (os1:=[(0,bx (Zg l.2)),(102,bx (Zc (⟨0,([]:List Zb),([]:List Zd),0,0⟩:Zd))),(104,.arr 2 (e.map Za)),(121,.arr 2 (a.1.map Za))]) (O:=[]) kr (sound _ _) trivial nd (Zg9 k _ _ hz) (fun psl hpsl=>?_)
 obtain ⟨ps,rfl⟩:=Z1 hpsl
 exact ⟨rfl,[ps],kr,rfl⟩ }
 {
 refine Wo [(1,.call [0] (one (.sl (i.1.map Za))) [bx (Zg i.2)] [])] [(0,pt 0),(2,pt 102),(3,ob d.1),(4,ar 104 h),(6,ob o),(7,ar 121 a.1.length),(8,ob x),(9,one (.sl (i.1.map Za)))] [(0,bx (Zg i.2)),(102,bx (Zc (⟨0,([]:List Zb),([]:List Zd),0,0⟩:Zd))),(104,.arr 2 (e.map Za)),(121,.arr 2 (a.1.map Za))] [SM μ 169 [pt 0] [bx (Zg l.2)] (one (.sl (i.1.map Za))) [bx (Zg i.2)],([0]:List Nat).Nodup] ⟨(ZnD (os':=[bx (Zg i.2)]) (m:=1) rfl (Nat.le_refl _) (List.length_map _).symm (Zg9 k _ _ d0)),nd,trivial⟩ ?_
 refine WA.seq ?_
 refine WA.join (fun s_=>∃(b1:Bool),J s_ [(0,pt 0),(2,pt 102),(3,ob d.1),(4,ar 104 h),(7,ar 121 a.1.length),(9,one (.sl (i.1.map Za))),(42,ob b1)] [(0,bx (Zg i.2)),(102,bx (Zc (⟨0,([]:List Zb),([]:List Zd),0,0⟩:Zd))),(104,.arr 2 (e.map Za)),(121,.arr 2 (a.1.map Za))]∧ZgU a3 e a i b1=some r) ?_ ?_
 {
 rintro s_ ⟨b1,he,c⟩
 refine Wj he ?_
 clear he
 refine WA.cond (b:=b1) rfl (fun a8=>?_) (fun a8=>?_)
 {
 have c:=Zk c a8
 refine WA.bad [] (t:=70) (env1:=[]) (os1:=[(0,bx (Zg i.2)),(102,bx (Zc (⟨0,([]:List Zb),([]:List Zd),0,0⟩:Zd))),(104,.arr 2 (e.map Za)),(121,.arr 2 (a.1.map Za))]) (O:=[]) kr (sound _ _) trivial ?_
 obtain rfl:=zj_ c
 exact ⟨rfl,[(Zg i.2)],kr,rfl⟩ }
 {
 have c:=Zj c a8
 refine WA.skip ?_
 obtain ⟨a4,d3,c⟩:=Zh c
 obtain ⟨c2,c⟩:=Zn c
 obtain ⟨a5,d4,c⟩:=Zh c
 refine Wm (((a.1.map Za).set (Int.toNat 0) (Za ({ a5 with f_Hi:=a4.f_Lo }:Zb))):(List (List PV))) ((a.1.set (Int.toNat 0) ({ a5 with f_Hi:=a4.f_Lo }:Zb)).map Za) (fun m_=>([(0,pt 0),(2,pt 102),(3,ob d.1),(4,ar 104 h),(7,ar 121 a.1.length)],[(0,bx (Zg i.2)),(102,bx (Zc (⟨0,([]:List Zb),([]:List Zd),0,0⟩:Zd))),(104,.arr 2 (e.map Za)),(121,.arr 2 m_)],[idxL (i.1.map Za) 0=some (Za a4),a.1.length=(a.1.map Za).length,(0:Int)≤0,0<((a.1.length:Nat):Int),a.1.length=(a.1.map Za).length,0<a.1.length,a.1.length=(a.1.map Za).length,(a.1.map Za)[Int.toNat 0]?=some (Za a5)])) (zm) [(2,.cells (Za a4)),(7,.cells (Za a5))] ⟨(Zs _ d3),zt,c2.1,(by have h_:=c2.2;(try simp only [zl,Zi] at h_ ⊢);omega),zt,(by omega),zt,(Zr (Zs _ d4)),trivial⟩ ?_
 exact ⟨i.2,(a.1.set (Int.toNat 0) ({ a5 with f_Hi:=a4.f_Lo }:Zb)),a.1.length,jk,zt,c⟩ } }
 {
 rcases zo_ o with q | q
 {
 have c:=Zk c q
 refine Wd [(1,.bool true)] [(0,pt 0),(2,pt 102),(3,ob d.1),(4,ar 104 h),(7,ar 121 a.1.length),(9,one (.sl (i.1.map Za))),(42,ob true)] [(0,bx (Zg i.2)),(102,bx (Zc (⟨0,([]:List Zb),([]:List Zd),0,0⟩:Zd))),(104,.arr 2 (e.map Za)),(121,.arr 2 (a.1.map Za))] [o=true] ⟨q,trivial⟩ ?_
 exact ⟨true,jk,c⟩ }
 {
 have c:=Zj c q
 rcases zo_ x with z | z
 {
 have c:=Zk c z
 refine Wd [(1,.bool false),(4,.bool true)] [(0,pt 0),(2,pt 102),(3,ob d.1),(4,ar 104 h),(7,ar 121 a.1.length),(9,one (.sl (i.1.map Za))),(42,ob true)] [(0,bx (Zg i.2)),(102,bx (Zc (⟨0,([]:List Zb),([]:List Zd),0,0⟩:Zd))),(104,.arr 2 (e.map Za)),(121,.arr 2 (a.1.map Za))] [o=false,x=true] ⟨q,z,trivial⟩ ?_
 exact ⟨true,jk,c⟩ }
 {
 have c:=Zj c z
 obtain ⟨b4,d1,c⟩:=Zh c
 obtain ⟨c1,c⟩:=Zn c
 obtain ⟨b5,d2,c⟩:=Zh c
 refine Wd [(1,.bool false),(4,.bool false),(6,.cells (Za b4)),(12,.cells (Za b5))] [(0,pt 0),(2,pt 102),(3,ob d.1),(4,ar 104 h),(7,ar 121 a.1.length),(9,one (.sl (i.1.map Za))),(42,ob (decide (b4.f_Lo<b5.f_Lo)))] [(0,bx (Zg i.2)),(102,bx (Zc (⟨0,([]:List Zb),([]:List Zd),0,0⟩:Zd))),(104,.arr 2 (e.map Za)),(121,.arr 2 (a.1.map Za))] [o=false,x=false,idxL (i.1.map Za) 0=some (Za b4),a.1.length=(a.1.map Za).length,(0:Int)≤0,0<((a.1.length:Nat):Int),a.1.length=(a.1.map Za).length,0<a.1.length,a.1.length=(a.1.map Za).length,(a.1.map Za)[Int.toNat 0]?=some (Za b5)] ⟨q,z,(Zs _ d1),zt,c1.1,(by have h_:=c1.2;(try simp only [zl,Zi] at h_ ⊢);omega),zt,(by omega),zt,(Zr (Zs _ d2)),trivial⟩ ?_
 exact ⟨(decide (b4.f_Lo<b5.f_Lo)),jk,c⟩ } } } } }
 {
 have c:=Zj c a7
 refine WA.skip ?_
 exact ⟨l.2,a.1,a.1.length,jk,zt,c⟩ } } } }
 {
 have c:=Zj c a6
 refine WA.exit ?_
 refine WA.seq ?_
 refine WA.freeze 104 4 (s:=2) (n:=h) (els:=(e.map Za)) rfl rfl zt ?_
 refine Wk [(2,pt 102),(3,ob d.1),(4,one (.sl (e.map Za)))] [(0,bx (Zg v158)),(102,bx (Zc (⟨0,([]:List Zb),([]:List Zd),0,0⟩:Zd)))] ?_
 obtain ⟨b9,d5,c⟩:=Zh c
 obtain ⟨c0,d6,c⟩:=Zh c
 obtain ⟨a2,d7,c⟩:=Zh c
 refine Wo [(1,.callR [] (one (.sl (b9.map Za)))),(2,.callR [] (one (.sl (c0.map Za)))),(3,.callR [] (one (.sl (a2.map Za))))] [(2,pt 102),(3,ob d.1),(4,one (.sl (a2.map Za)))] [(0,bx (Zg v158)),(102,bx (Zc (⟨0,([]:List Zb),([]:List Zd),0,0⟩:Zd)))] [SM μ 77 [one (.sl (e.map Za))] [] (one (.sl (b9.map Za))) [],([]:List Nat).Nodup,SM μ 59 [] [] (one (.sl (c0.map Za))) [],([]:List Nat).Nodup,SM μ 76 [one (.sl (b9.map Za)),one (.sl (c0.map Za))] [] (one (.sl (a2.map Za))) [],([]:List Nat).Nodup] ⟨(ZiP k _ _ d5),nd,(ZeT k _ d6),nd,(Zlw k _ _ _ d7),nd,trivial⟩ ?_
 refine WA.join (fun s_=>∃(b3:List Zb),J s_ [(2,pt 102),(4,one (.sl (b3.map Za)))] [(0,bx (Zg v158)),(102,bx (Zc (⟨0,([]:List Zb),([]:List Zd),0,0⟩:Zd)))]∧ZjN k v158 b3=some r) ?_ ?_
 {
 rintro s_ ⟨b3,he,c⟩
 refine Wj he ?_
 clear he
 obtain ⟨b7,d9,c⟩:=Zh c
 refine Wos [(1,.callR [] (tv (Zc b7)))] [(2,pt 102)] [(0,bx (Zg v158)),(102,bx (Zc b7))] [SM μ 58 [one (.sl (b3.map Za))] [] (tv (Zc b7)) [],([]:List Nat).Nodup] ⟨(ZeS k _ _ d9),nd,trivial⟩ ?_
 refine WA.ret ?_
 obtain rfl:=zj_ c
 exact Zo (tv (Zc b7)) [bx (Zg v158)] kr kr kr kr nd rfl rfl }
 {
 refine Ws [] [(2,pt 102),(4,one (.sl (a2.map Za))),(59,ob d.1)] [(0,bx (Zg v158)),(102,bx (Zc (⟨0,([]:List Zb),([]:List Zd),0,0⟩:Zd)))] ?_
 refine WA.cond (b:=d.1) rfl (fun a9=>?_) (fun a9=>?_)
 {
 have c:=Zk c a9
 obtain ⟨b6,d8,c⟩:=Zh c
 refine Wo [(1,.callR [] (one (.sl (b6.map Za))))] [(2,pt 102),(4,one (.sl (b6.map Za)))] [(0,bx (Zg v158)),(102,bx (Zc (⟨0,([]:List Zb),([]:List Zd),0,0⟩:Zd)))] [SM μ 109 [one (.sl (a2.map Za))] [] (one (.sl (b6.map Za))) [],([]:List Nat).Nodup] ⟨(ZmL k _ _ d8),nd,trivial⟩ ?_
 exact ⟨b6,jk,c⟩ }
 {
 have c:=Zj c a9
 refine WA.skip ?_
 exact ⟨a2,jk,c⟩ } } } }
  {
 rcases zo_ v with y | y
 {
 have c:=Zk c y
 refine Wo [(1,.bool true)] [(0,pt 0),(2,pt 102),(3,ob d.1),(4,ar 104 h),(17,ob true)] [(0,bx (Zg u)),(102,bx (Zc (⟨0,([]:List Zb),([]:List Zd),0,0⟩:Zd))),(104,.arr 2 (e.map Za))] [v=true] ⟨y,trivial⟩ ?_
 exact ⟨u,true,jk,c⟩ }
 {
 have c:=Zj c y
 obtain ⟨p,c5,c⟩:=Zh c
 refine Wo [(1,.bool false),(3,.call [0] (ob p.1) [bx (Zg p.2)] [])] [(0,pt 0),(2,pt 102),(3,ob d.1),(4,ar 104 h),(17,ob (!p.1))] [(0,bx (Zg p.2)),(102,bx (Zc (⟨0,([]:List Zb),([]:List Zd),0,0⟩:Zd))),(104,.arr 2 (e.map Za))] [v=false,SM μ 71 [pt 0,one (.str ([93]:List UInt8))] [bx (Zg u)] (ob p.1) [bx (Zg p.2)],([0]:List Nat).Nodup] ⟨y,(Zaz k _ _ _ c5),nd,trivial⟩ ?_
 exact ⟨p.2,(!p.1),jk,c⟩ } }
def F117 (R48:Zl→Option (Option (Zd×Zl))) (k:Nat) (v0:Zl):Option (Option (Zd×Zl)):=
  (F71 k v0 ([40]:List UInt8)).bind fun b=>(cond b.1 (orP (R48 b.2) fun f=>(F71 k f.2 ([41]:List UInt8)).bind fun g=>(cond (!g.1) (some none) (((some (some (f.1,g.2))))))) ((F71 k b.2 ([91]:List UInt8)).bind fun c=>(cond c.1 (orP (F138 k c.2) fun h=>(some (some (h.1,h.2)))) ((F71 k c.2 ([46]:List UInt8)).bind fun d=>(cond d.1 ((F59 k).bind fun j=>(F58 k j).bind fun l=>(some (some (l,d.2)))) ((F71 k d.2 ([92]:List UInt8)).bind fun e=>(cond e.1 (orP (F139 k e.2 ([92,46,91,93,40,41,123,125,42,43,63,124,94,36,45,47]:List UInt8)) fun i=>(F58 k i.1).bind fun m=>(some (some (m,i.2)))) ((orP (F140 k e.2) fun a=>(F141 k ([92,46,91,93,40,41,123,125,42,43,63,124,94,36]:List UInt8) (IntKind.wrap .i32 a.1)).bind fun n=>(cond n (some none) ((F58 k ([(⟨a.1,a.1⟩:Zb)]:List Zb)).bind fun o=>(some (some (o,a.2))))))))))))))
theorem ZmO (R48:Zl→Option (Option (Zd×Zl))) (IH48:∀(v0:Zl) (r:Option (Zd×Zl)),R48 v0=some r→SimP Tryz.prog (GL0 μ) badV 48 [pt 0] [bx (Zg v0)] (r.map fun r=>(tv (Zc r.1),[bx (Zg r.2)]))) (k:Nat) (v0:Zl) (r:Option (Zd×Zl)) (a:F117 R48 k v0=some r):SimP Tryz.prog (GL0 μ) badV 117 [pt 0] [bx (Zg v0)] (r.map fun r=>(tv (Zc r.1),[bx (Zg r.2)])):=by
 refine Zbl [0] Tryz.func117 rfl kr kr ?_
 show WA _ _ 44 _ _ _
 refine Ws [(0,.obj 102)] [(0,pt 0),(2,pt 102)] [(0,bx (Zg v0)),(102,bx (Zc (⟨0,([]:List Zb),([]:List Zd),0,0⟩:Zd)))] ?_
 refine WA.seq ?_
 refine WA.block ?_
 obtain ⟨e,a1,a⟩:=Zh a
 refine Wos [(1,.call [0] (ob e.1) [bx (Zg e.2)] [])] [(0,pt 0),(2,pt 102),(5,ob e.1)] [(0,bx (Zg e.2)),(102,bx (Zc (⟨0,([]:List Zb),([]:List Zd),0,0⟩:Zd)))] [SM μ 71 [pt 0,one (.str ([40]:List UInt8))] [bx (Zg v0)] (ob e.1) [bx (Zg e.2)],([0]:List Nat).Nodup] ⟨(Zaz k _ _ _ a1),nd,trivial⟩ ?_
 refine WA.cond (b:=e.1) rfl (fun o=>?_) (fun o=>?_)
 {
 have a:=Zk a o
 refine WA.seq ?_
 rcases Zab a with ⟨hz,hr⟩ | ⟨g,a2,a⟩
 {
 subst hr
 refine WA.regP 1 [0] [] [] badV (f:=48) (args:=[pt 0]) (os:=[bx (Zg e.2)]) (env1:=[]) (os1:=[(0,bx (Zg e.2)),(102,bx (Zc (⟨0,([]:List Zb),([]:List Zd),0,0⟩:Zd)))]) (O:=[]) kr (sound _ _) trivial nd (IH48 _ _ hz) (fun psl hpsl=>?_)
 obtain ⟨ps,rfl⟩:=Z1 hpsl
 exact ⟨rfl,[ps],kr,rfl⟩ }
 {
 refine Wo [(1,.call [0] (tv (Zc g.1)) [bx (Zg g.2)] []),(2,.obj 103)] [(0,pt 0),(2,pt 102),(3,pt 103)] [(0,bx (Zg g.2)),(102,bx (Zc (⟨0,([]:List Zb),([]:List Zd),0,0⟩:Zd))),(103,bx (Zc g.1))] [SM μ 48 [pt 0] [bx (Zg e.2)] (tv (Zc g.1)) [bx (Zg g.2)],([0]:List Nat).Nodup] ⟨(IH48 _ _ a2),nd,trivial⟩ ?_
 refine WA.seq ?_
 obtain ⟨h,a3,a⟩:=Zh a
 refine Wos [(1,.call [0] (ob h.1) [bx (Zg h.2)] [])] [(2,pt 102),(3,pt 103),(12,ob (!h.1))] [(0,bx (Zg h.2)),(102,bx (Zc (⟨0,([]:List Zb),([]:List Zd),0,0⟩:Zd))),(103,bx (Zc g.1))] [SM μ 71 [pt 0,one (.str ([41]:List UInt8))] [bx (Zg g.2)] (ob h.1) [bx (Zg h.2)],([0]:List Nat).Nodup] ⟨(Zaz k _ _ _ a3),nd,trivial⟩ ?_
 refine WA.cond (b:=(!h.1)) rfl (fun p=>?_) (fun p=>?_)
 {
 have a:=Zk a p
 refine WA.bad [] (t:=70) (env1:=[]) (os1:=[(0,bx (Zg h.2)),(102,bx (Zc (⟨0,([]:List Zb),([]:List Zd),0,0⟩:Zd))),(103,bx (Zc g.1))]) (O:=[]) kr (sound _ _) trivial ?_
 obtain rfl:=zj_ a
 exact ⟨rfl,[(Zg h.2)],kr,rfl⟩ }
 {
 have a:=Zj a p
 refine WA.skip ?_
 refine Ws [] [(2,pt 102)] [(0,bx (Zg h.2)),(102,bx (Zc g.1))] ?_
 refine WA.ret ?_
 obtain rfl:=zj_ a
 exact Zo (tv (Zc g.1)) [bx (Zg h.2)] kr kr kr kr nd rfl rfl } } }
 {
 have a:=Zj a o
 obtain ⟨i,a4,a⟩:=Zh a
 refine Wos [(1,.call [0] (ob i.1) [bx (Zg i.2)] [])] [(0,pt 0),(2,pt 102),(16,ob i.1)] [(0,bx (Zg i.2)),(102,bx (Zc (⟨0,([]:List Zb),([]:List Zd),0,0⟩:Zd)))] [SM μ 71 [pt 0,one (.str ([91]:List UInt8))] [bx (Zg e.2)] (ob i.1) [bx (Zg i.2)],([0]:List Nat).Nodup] ⟨(Zaz k _ _ _ a4),nd,trivial⟩ ?_
 refine WA.cond (b:=i.1) rfl (fun q=>?_) (fun q=>?_)
 {
 have a:=Zk a q
 refine WA.seq ?_
 rcases Zab a with ⟨hz,hr⟩ | ⟨l,a5,a⟩
 {
 subst hr
 refine WA.regP 1 [0] [] [] badV (f:=138) (args:=[pt 0]) (os:=[bx (Zg i.2)]) (env1:=[]) (os1:=[(0,bx (Zg i.2)),(102,bx (Zc (⟨0,([]:List Zb),([]:List Zd),0,0⟩:Zd)))]) (O:=[]) kr (sound _ _) trivial nd (ZmS k _ _ hz) (fun psl hpsl=>?_)
 obtain ⟨ps,rfl⟩:=Z1 hpsl
 exact ⟨rfl,[ps],kr,rfl⟩ }
 {
 refine Wo [(1,.call [0] (tv (Zc l.1)) [bx (Zg l.2)] [])] [(2,pt 102)] [(0,bx (Zg l.2)),(102,bx (Zc l.1))] [SM μ 138 [pt 0] [bx (Zg i.2)] (tv (Zc l.1)) [bx (Zg l.2)],([0]:List Nat).Nodup] ⟨(ZmS k _ _ a5),nd,trivial⟩ ?_
 refine WA.ret ?_
 obtain rfl:=zj_ a
 exact Zo (tv (Zc l.1)) [bx (Zg l.2)] kr kr kr kr nd rfl rfl } }
 {
 have a:=Zj a q
 obtain ⟨j,a6,a⟩:=Zh a
 refine Wos [(1,.call [0] (ob j.1) [bx (Zg j.2)] [])] [(0,pt 0),(2,pt 102),(21,ob j.1)] [(0,bx (Zg j.2)),(102,bx (Zc (⟨0,([]:List Zb),([]:List Zd),0,0⟩:Zd)))] [SM μ 71 [pt 0,one (.str ([46]:List UInt8))] [bx (Zg i.2)] (ob j.1) [bx (Zg j.2)],([0]:List Nat).Nodup] ⟨(Zaz k _ _ _ a6),nd,trivial⟩ ?_
 refine WA.cond (b:=j.1) rfl (fun s=>?_) (fun s=>?_)
 {
 have a:=Zk a s
 obtain ⟨a0,a7,a⟩:=Zh a
 obtain ⟨w,a8,a⟩:=Zh a
 refine Wos [(0,.callR [] (one (.sl (a0.map Za)))),(1,.callR [] (tv (Zc w)))] [(2,pt 102)] [(0,bx (Zg j.2)),(102,bx (Zc w))] [SM μ 59 [] [] (one (.sl (a0.map Za))) [],([]:List Nat).Nodup,SM μ 58 [one (.sl (a0.map Za))] [] (tv (Zc w)) [],([]:List Nat).Nodup] ⟨(ZeT k _ a7),nd,(ZeS k _ _ a8),nd,trivial⟩ ?_
 refine WA.ret ?_
 obtain rfl:=zj_ a
 exact Zo (tv (Zc w)) [bx (Zg j.2)] kr kr kr kr nd rfl rfl }
 {
 have a:=Zj a s
 obtain ⟨d,a9,a⟩:=Zh a
 refine Wos [(1,.call [0] (ob d.1) [bx (Zg d.2)] [])] [(0,pt 0),(2,pt 102),(26,ob d.1)] [(0,bx (Zg d.2)),(102,bx (Zc (⟨0,([]:List Zb),([]:List Zd),0,0⟩:Zd)))] [SM μ 71 [pt 0,one (.str ([92]:List UInt8))] [bx (Zg j.2)] (ob d.1) [bx (Zg d.2)],([0]:List Nat).Nodup] ⟨(Zaz k _ _ _ a9),nd,trivial⟩ ?_
 refine WA.cond (b:=d.1) rfl (fun u=>?_) (fun u=>?_)
 {
 have a:=Zk a u
 refine WA.seq ?_
 rcases Zab a with ⟨hz,hr⟩ | ⟨n,b0,a⟩
 {
 subst hr
 refine WA.regP 1 [0] [] [] badV (f:=139) (args:=[pt 0,one (.str ([92,46,91,93,40,41,123,125,42,43,63,124,94,36,45,47]:List UInt8))]) (os:=[bx (Zg d.2)]) (env1:=[]) (os1:=[(0,bx (Zg d.2)),(102,bx (Zc (⟨0,([]:List Zb),([]:List Zd),0,0⟩:Zd)))]) (O:=[]) kr (sound _ _) trivial nd (ZgX k _ _ _ hz) (fun psl hpsl=>?_)
 obtain ⟨ps,rfl⟩:=Z1 hpsl
 exact ⟨rfl,[ps],kr,rfl⟩ }
 {
 obtain ⟨x,b1,a⟩:=Zh a
 refine Wo [(1,.call [0] (one (.sl (n.1.map Za))) [bx (Zg n.2)] []),(2,.callR [] (tv (Zc x)))] [(2,pt 102)] [(0,bx (Zg n.2)),(102,bx (Zc x))] [SM μ 139 [pt 0,one (.str ([92,46,91,93,40,41,123,125,42,43,63,124,94,36,45,47]:List UInt8))] [bx (Zg d.2)] (one (.sl (n.1.map Za))) [bx (Zg n.2)],([0]:List Nat).Nodup,SM μ 58 [one (.sl (n.1.map Za))] [] (tv (Zc x)) [],([]:List Nat).Nodup] ⟨(ZnD (os':=[bx (Zg n.2)]) (m:=1) rfl (Nat.le_refl _) (List.length_map _).symm (ZgX k _ _ _ b0)),nd,(ZeS k _ _ b1),nd,trivial⟩ ?_
 refine WA.ret ?_
 obtain rfl:=zj_ a
 exact Zo (tv (Zc x)) [bx (Zg n.2)] kr kr kr kr nd rfl rfl } }
 {
 have a:=Zj a u
 refine WA.skip ?_
 refine WA.seq ?_
 rcases Zab a with ⟨hz,hr⟩ | ⟨c,b2,a⟩
 {
 subst hr
 refine WA.regP 1 [0] [] [] badV (f:=140) (args:=[pt 0]) (os:=[bx (Zg d.2)]) (env1:=[]) (os1:=[(0,bx (Zg d.2)),(102,bx (Zc (⟨0,([]:List Zb),([]:List Zd),0,0⟩:Zd)))]) (O:=[]) kr (sound _ _) trivial nd (Zc6 k _ _ hz) (fun psl hpsl=>?_)
 obtain ⟨ps,rfl⟩:=Z1 hpsl
 exact ⟨rfl,[ps],kr,rfl⟩ }
 {
 refine Wo [(1,.call [0] (oi c.1) [bx (Zg c.2)] [])] [(2,pt 102),(4,oi c.1)] [(0,bx (Zg c.2)),(102,bx (Zc (⟨0,([]:List Zb),([]:List Zd),0,0⟩:Zd)))] [SM μ 140 [pt 0] [bx (Zg d.2)] (oi c.1) [bx (Zg c.2)],([0]:List Nat).Nodup] ⟨(Zc6 k _ _ b2),nd,trivial⟩ ?_
 refine WA.seq ?_
 obtain ⟨y,b3,a⟩:=Zh a
 refine Wos [(2,.callR [] (ob y))] [(2,pt 102),(4,oi c.1),(36,ob y)] [(0,bx (Zg c.2)),(102,bx (Zc (⟨0,([]:List Zb),([]:List Zd),0,0⟩:Zd)))] [SM μ 141 [one (.str ([92,46,91,93,40,41,123,125,42,43,63,124,94,36]:List UInt8)),one (.int .i32 (IntKind.wrap .i32 c.1))] [] (ob y) [],([]:List Nat).Nodup] ⟨(ZmT k _ _ _ b3),nd,trivial⟩ ?_
 refine WA.cond (b:=y) rfl (fun v=>?_) (fun v=>?_)
 {
 have a:=Zk a v
 refine WA.bad [] (t:=70) (env1:=[]) (os1:=[(0,bx (Zg c.2)),(102,bx (Zc (⟨0,([]:List Zb),([]:List Zd),0,0⟩:Zd)))]) (O:=[]) kr (sound _ _) trivial ?_
 obtain rfl:=zj_ a
 exact ⟨rfl,[(Zg c.2)],kr,rfl⟩ }
 {
 have a:=Zj a v
 refine WA.skip ?_
 obtain ⟨z,b4,a⟩:=Zh a
 refine Wos [(4,.callR [] (tv (Zc z)))] [(2,pt 102)] [(0,bx (Zg c.2)),(102,bx (Zc z))] [SM μ 58 [one (.sl (([(⟨c.1,c.1⟩:Zb)]:List Zb).map Za))] [] (tv (Zc z)) [],([]:List Nat).Nodup] ⟨(ZeS k _ _ b4),nd,trivial⟩ ?_
 refine WA.ret ?_
 obtain rfl:=zj_ a
 exact Zo (tv (Zc z)) [bx (Zg c.2)] kr kr kr kr nd rfl rfl } } } } } }
def Zga (d:Zd×Zl) (a:Zl) (b:Int) (c:Int):Option (Option (Zd×Zl)):=
  (some (some ((⟨4,([]:List Zb),([d.1]:List Zd),b,c⟩:Zd),a)))
def F98 (R48:Zl→Option (Option (Zd×Zl))) (k:Nat) (v0:Zl):Option (Option (Zd×Zl)):=
  (orP (F117 R48 k v0) fun a=>((F71 k a.2 ([42]:List UInt8)).bind fun b=>(cond b.1 ((Zga a b.2 0 (-1))) ((F71 k b.2 ([43]:List UInt8)).bind fun c=>(cond c.1 ((Zga a c.2 1 (-1))) ((F71 k c.2 ([63]:List UInt8)).bind fun d=>(cond d.1 ((Zga a d.2 0 1)) ((F71 k d.2 ([123]:List UInt8)).bind fun e=>(cond e.1 (orP (F118 k e.2) fun f=>(Zga a f.2.2 f.1 f.2.1)) ((some (some (a.1,e.2)))))))))))))
theorem Zoz (R48:Zl→Option (Option (Zd×Zl))) (IH48:∀(v0:Zl) (r:Option (Zd×Zl)),R48 v0=some r→SimP Tryz.prog (GL0 μ) badV 48 [pt 0] [bx (Zg v0)] (r.map fun r=>(tv (Zc r.1),[bx (Zg r.2)]))) (k:Nat) (v0:Zl) (r:Option (Zd×Zl)) (c:F98 R48 k v0=some r):SimP Tryz.prog (GL0 μ) badV 98 [pt 0] [bx (Zg v0)] (r.map fun r=>(tv (Zc r.1),[bx (Zg r.2)])):=by
 refine Zbl [0] Tryz.func98 rfl kr kr ?_
 show WA _ _ 31 _ _ _
 refine Ws [(0,.obj 102)] [(0,pt 0),(2,pt 102)] [(0,bx (Zg v0)),(102,bx (Zc (⟨0,([]:List Zb),([]:List Zd),0,0⟩:Zd)))] ?_
 refine WA.seq ?_
 rcases Zab c with ⟨hz,hr⟩ | ⟨a,s,c⟩
 {
 subst hr
 refine WA.regP 1 [0] [] [] badV (f:=117) (args:=[pt 0]) (os:=[bx (Zg v0)]) (env1:=[]) (os1:=[(0,bx (Zg v0)),(102,bx (Zc (⟨0,([]:List Zb),([]:List Zd),0,0⟩:Zd)))]) (O:=[]) kr (sound _ _) trivial nd (ZmO R48 IH48 k _ _ hz) (fun psl hpsl=>?_)
 obtain ⟨ps,rfl⟩:=Z1 hpsl
 exact ⟨rfl,[ps],kr,rfl⟩ }
 {
 refine Wo [(1,.call [0] (tv (Zc a.1)) [bx (Zg a.2)] []),(2,.obj 103)] [(0,pt 0),(2,pt 102),(3,pt 103)] [(0,bx (Zg a.2)),(102,bx (Zc (⟨0,([]:List Zb),([]:List Zd),0,0⟩:Zd))),(103,bx (Zc a.1))] [SM μ 117 [pt 0] [bx (Zg v0)] (tv (Zc a.1)) [bx (Zg a.2)],([0]:List Nat).Nodup] ⟨(ZmO R48 IH48 k _ _ s),nd,trivial⟩ ?_
 refine Ws [] [(0,pt 0),(2,pt 102),(3,pt 103),(4,oi 0),(5,oi (-1))] [(0,bx (Zg a.2)),(102,bx (Zc (⟨0,([]:List Zb),([]:List Zd),0,0⟩:Zd))),(103,bx (Zc a.1))] ?_
 refine WA.join (fun z=>∃(j:Zl) (l:Int) (m:Int),J z [(2,pt 102),(3,pt 103),(4,oi l),(5,oi m)] [(0,bx (Zg j)),(102,bx (Zc (⟨0,([]:List Zb),([]:List Zd),0,0⟩:Zd))),(103,bx (Zc a.1))]∧Zga a j l m=some r) ?_ ?_
 {
 rintro z ⟨j,l,m,y,c⟩
 refine Wj y ?_
 clear y
 refine WA.seq ?_
 refine Wm ([(Zc a.1)]:(List (List PV))) (Zm ([a.1]:List Zd)) (fun m_=>([(2,pt 102)],[(0,bx (Zg j)),(102,bx ([.int .i64 4] ++ [.sl (([]:List Zb).map Za)] ++ [.sl m_] ++ [.int .i64 l] ++ [.int .i64 m]))],[])) (zm) [] trivial ?_
 refine WA.ret ?_
 obtain rfl:=zj_ c
 exact Zo (tv (Zc (⟨4,([]:List Zb),([a.1]:List Zd),l,m⟩:Zd))) [bx (Zg j)] kr kr kr kr nd rfl rfl }
 {
 refine WA.block ?_
 obtain ⟨i,t,c⟩:=Zh c
 refine Wos [(1,.call [0] (ob i.1) [bx (Zg i.2)] [])] [(0,pt 0),(2,pt 102),(3,pt 103),(4,oi 0),(5,oi (-1)),(9,ob i.1)] [(0,bx (Zg i.2)),(102,bx (Zc (⟨0,([]:List Zb),([]:List Zd),0,0⟩:Zd))),(103,bx (Zc a.1))] [SM μ 71 [pt 0,one (.str ([42]:List UInt8))] [bx (Zg a.2)] (ob i.1) [bx (Zg i.2)],([0]:List Nat).Nodup] ⟨(Zaz k _ _ _ t),nd,trivial⟩ ?_
 refine WA.cond (b:=i.1) rfl (fun n=>?_) (fun n=>?_)
 {
 have c:=Zk c n
 refine WA.skip ?_
 exact ⟨i.2,0,(-1),jk,c⟩ }
 {
 have c:=Zj c n
 obtain ⟨g,u,c⟩:=Zh c
 refine Wos [(1,.call [0] (ob g.1) [bx (Zg g.2)] [])] [(0,pt 0),(2,pt 102),(3,pt 103),(4,oi 0),(5,oi (-1)),(12,ob g.1)] [(0,bx (Zg g.2)),(102,bx (Zc (⟨0,([]:List Zb),([]:List Zd),0,0⟩:Zd))),(103,bx (Zc a.1))] [SM μ 71 [pt 0,one (.str ([43]:List UInt8))] [bx (Zg i.2)] (ob g.1) [bx (Zg g.2)],([0]:List Nat).Nodup] ⟨(Zaz k _ _ _ u),nd,trivial⟩ ?_
 refine WA.cond (b:=g.1) rfl (fun o=>?_) (fun o=>?_)
 {
 have c:=Zk c o
 refine Wr [] [(2,pt 102),(3,pt 103),(4,oi 1),(5,oi (-1))] [(0,bx (Zg g.2)),(102,bx (Zc (⟨0,([]:List Zb),([]:List Zd),0,0⟩:Zd))),(103,bx (Zc a.1))] ?_
 exact ⟨g.2,1,(-1),jk,c⟩ }
 {
 have c:=Zj c o
 obtain ⟨h,v,c⟩:=Zh c
 refine Wos [(1,.call [0] (ob h.1) [bx (Zg h.2)] [])] [(0,pt 0),(2,pt 102),(3,pt 103),(4,oi 0),(15,ob h.1)] [(0,bx (Zg h.2)),(102,bx (Zc (⟨0,([]:List Zb),([]:List Zd),0,0⟩:Zd))),(103,bx (Zc a.1))] [SM μ 71 [pt 0,one (.str ([63]:List UInt8))] [bx (Zg g.2)] (ob h.1) [bx (Zg h.2)],([0]:List Nat).Nodup] ⟨(Zaz k _ _ _ v),nd,trivial⟩ ?_
 refine WA.cond (b:=h.1) rfl (fun p=>?_) (fun p=>?_)
 {
 have c:=Zk c p
 refine Wr [] [(2,pt 102),(3,pt 103),(4,oi 0),(5,oi 1)] [(0,bx (Zg h.2)),(102,bx (Zc (⟨0,([]:List Zb),([]:List Zd),0,0⟩:Zd))),(103,bx (Zc a.1))] ?_
 exact ⟨h.2,0,1,jk,c⟩ }
 {
 have c:=Zj c p
 obtain ⟨d,w,c⟩:=Zh c
 refine Wos [(1,.call [0] (ob d.1) [bx (Zg d.2)] [])] [(0,pt 0),(2,pt 102),(3,pt 103),(18,ob d.1)] [(0,bx (Zg d.2)),(102,bx (Zc (⟨0,([]:List Zb),([]:List Zd),0,0⟩:Zd))),(103,bx (Zc a.1))] [SM μ 71 [pt 0,one (.str ([123]:List UInt8))] [bx (Zg h.2)] (ob d.1) [bx (Zg d.2)],([0]:List Nat).Nodup] ⟨(Zaz k _ _ _ w),nd,trivial⟩ ?_
 refine WA.cond (b:=d.1) rfl (fun q=>?_) (fun q=>?_)
 {
 have c:=Zk c q
 rcases Zab c with ⟨hz,hr⟩ | ⟨e,x,c⟩
 {
 subst hr
 refine WA.regP 1 [0] [] [] badV (f:=118) (args:=[pt 0]) (os:=[bx (Zg d.2)]) (env1:=[]) (os1:=[(0,bx (Zg d.2)),(102,bx (Zc (⟨0,([]:List Zb),([]:List Zd),0,0⟩:Zd))),(103,bx (Zc a.1))]) (O:=[]) kr (sound _ _) trivial nd (ZmP k _ _ hz) (fun psl hpsl=>?_)
 obtain ⟨ps,rfl⟩:=Z1 hpsl
 exact ⟨rfl,[ps],kr,rfl⟩ }
 {
 refine Wo [(1,.call [0] (.tup [(false,[.pv (.int .i64 e.1)]),(false,[.pv (.int .i64 e.2.1)])]) [bx (Zg e.2.2)] [])] [(2,pt 102),(3,pt 103),(4,oi e.1),(5,oi e.2.1)] [(0,bx (Zg e.2.2)),(102,bx (Zc (⟨0,([]:List Zb),([]:List Zd),0,0⟩:Zd))),(103,bx (Zc a.1))] [SM μ 118 [pt 0] [bx (Zg d.2)] (.tup [(false,[.pv (.int .i64 e.1)]),(false,[.pv (.int .i64 e.2.1)])]) [bx (Zg e.2.2)],([0]:List Nat).Nodup] ⟨(ZmP k _ _ x),nd,trivial⟩ ?_
 exact ⟨e.2.2,e.1,e.2.1,jk,c⟩ } }
 {
 have c:=Zj c q
 refine Ws [] [(2,pt 102)] [(0,bx (Zg d.2)),(102,bx (Zc a.1))] ?_
 refine WA.ret ?_
 obtain rfl:=zj_ c
 exact Zo (tv (Zc a.1)) [bx (Zg d.2)] kr kr kr kr nd rfl rfl } } } } } }
def ZiM (R48:Zl→Option (Option (Zd×Zl))) (k:Nat) (d:Zl→(List Zd)→Option (Option (Zd×Zl))) (b:Zl) (a:List Zd) (e:Bool):Option (Option (Zd×Zl)):=
  cond e ((orP (F98 R48 k b) fun c=>if a.length+([c.1]:List Zd).length≤1073741824 then d c.2 (a ++ ([c.1]:List Zd)) else none)) (((cond ((a.length:Int) == 1) (if (0:Int)≤0∧0<(a.length:Int) then (idxL a 0).bind fun f=>(some (some (f,b))) else none) (((some (some ((⟨2,([]:List Zb),a,0,0⟩:Zd),b))))))))
def Zop (R48:Zl→Option (Option (Zd×Zl))) (k:Nat) (b:Zl→(List Zd)→Option (Option (Zd×Zl))) (a:Zl) (c:List Zd):Option (Option (Zd×Zl)):=
  cond (decide (a.f_at<(a.f_s.length:Int))) ((F97 k a ([124]:List UInt8)).bind fun d=>cond (!d) ((F97 k a ([41]:List UInt8)).bind fun e=>(ZiM R48 k b a c (!e))) ((ZiM R48 k b a c false))) ((ZiM R48 k b a c false))
def ZiN (R48:Zl→Option (Option (Zd×Zl))) (k:Nat):Nat→Zl→(List Zd)→Option (Option (Zd×Zl))
  | 0,_,_=>none
  | c+1,a,b=>Zop R48 k (ZiN R48 k c) a b
def F70 (R48:Zl→Option (Option (Zd×Zl))) (k:Nat) (v0:Zl):Option (Option (Zd×Zl)):=
  ((ZiN R48 k k v0 ([]:List Zd)))
theorem ZiO (R48:Zl→Option (Option (Zd×Zl))) (IH48:∀(v0:Zl) (r:Option (Zd×Zl)),R48 v0=some r→SimP Tryz.prog (GL0 μ) badV 48 [pt 0] [bx (Zg v0)] (r.map fun r=>(tv (Zc r.1),[bx (Zg r.2)]))) (k:Nat) (v0:Zl) (r:Option (Zd×Zl)) (d:F70 R48 k v0=some r):SimP Tryz.prog (GL0 μ) badV 70 [pt 0] [bx (Zg v0)] (r.map fun r=>(tv (Zc r.1),[bx (Zg r.2)])):=by
 refine Zbl [0] Tryz.func70 rfl kr kr ?_
 show WA _ _ 37 _ _ _
 refine Ws [(0,.obj 102)] [(0,pt 0),(2,pt 102)] [(0,bx (Zg v0)),(102,bx (Zc (⟨0,([]:List Zb),([]:List Zd),0,0⟩:Zd)))] ?_
 refine Ws [(0,.obj 103)] [(0,pt 0),(2,pt 102),(3,ar 103 0)] [(0,bx (Zg v0)),(102,bx (Zc (⟨0,([]:List Zb),([]:List Zd),0,0⟩:Zd))),(103,.arr 5 (Zm ([]:List Zd)))] ?_
 refine WA.seq ?_
 refine WA.block ?_
 refine WA.loop (fun m s_=>∃(a:Zl) (c:List Zd) (e:Nat),J s_ [(0,pt 0),(2,pt 102),(3,ar 103 e)] [(0,bx (Zg a)),(102,bx (Zc (⟨0,([]:List Zb),([]:List Zd),0,0⟩:Zd))),(103,.arr 5 (Zm c))]∧e=(c:List _).length∧ZiN R48 k m a c=some r) k ⟨v0,([]:List Zd),0,jk,zt,d⟩ ?_
 clear d
 rintro m2 s_ ⟨a,c,e,he,a6,d⟩
 refine Wj he ?_
 clear he
 cases m2 with
 | zero=>cases d
 | succ m2=>
  obtain ⟨z,v⟩:∃g,g=ZiN R48 k m2:=⟨_,rfl⟩
  have d:Zop R48 k z a c=some r:=by first | (rw [v];exact d) | exact d
  refine WA.seq ?_
  refine WA.join (fun s_=>∃(q:Bool),J s_ [(0,pt 0),(2,pt 102),(3,ar 103 e),(23,ob q)] [(0,bx (Zg a)),(102,bx (Zc (⟨0,([]:List Zb),([]:List Zd),0,0⟩:Zd))),(103,.arr 5 (Zm c))]∧ZiM R48 k z a c q=some r) ?_ ?_
  {
 rintro s_ ⟨q,he,d⟩
 refine Wj he ?_
 clear he
 refine WA.cond (b:=q) rfl (fun o=>?_) (fun o=>?_)
 {
 have d:=Zk d o
 refine WA.skip ?_
 refine WA.block ?_
 rcases Zab d with ⟨hz,hr⟩ | ⟨h,a4,d⟩
 {
 subst hr
 refine WA.regP 2 [0] [] [] badV (f:=98) (args:=[pt 0]) (os:=[bx (Zg a)]) (env1:=[]) (os1:=[(0,bx (Zg a)),(102,bx (Zc (⟨0,([]:List Zb),([]:List Zd),0,0⟩:Zd))),(103,.arr 5 (Zm c))]) (O:=[]) kr (sound _ _) trivial nd (Zoz R48 IH48 k _ _ hz) (fun psl hpsl=>?_)
 obtain ⟨ps,rfl⟩:=Z1 hpsl
 exact ⟨rfl,[ps],kr,rfl⟩ }
 {
 obtain ⟨w,d⟩:=Zn d
 refine Wm ((((Zm c) ++ ([(Zc h.1)])),[(Zc h.1)]):(List (List PV))×(List (List PV))) ((Zm (c ++ ([h.1]:List Zd))),(Zm ([h.1]:List Zd))) (fun m_=>([(0,pt 0),(2,pt 102),(3,ar 103 (e+1))],[(0,bx (Zg h.2)),(102,bx (Zc (⟨0,([]:List Zb),([]:List Zd),0,0⟩:Zd))),(103,.arr 5 m_.1)],[SM μ 98 [pt 0] [bx (Zg a)] (tv (Zc h.1)) [bx (Zg h.2)],([0]:List Nat).Nodup,e=(Zm c).length,(Zm c).length+m_.2.length≤1073741824,∀es,es∈m_.2→es.length=5])) (ZJ zm zm) [(2,.call [0] (tv (Zc h.1)) [bx (Zg h.2)] [])] ⟨(Zoz R48 IH48 k _ _ a4),nd,zt,(by first | exact w | (simp only [List.length_map,Zi];exact w)),(Zcj ([h.1]:List Zd)),trivial⟩ ?_
 exact ⟨m2,zl_ _,h.2,(c ++ ([h.1]:List Zd)),(e+1),jk,zt,by rw [v] at d;exact d⟩ } }
 {
 have d:=Zj d o
 refine WA.exit ?_
 refine WA.seq ?_
 refine WA.seq ?_
 refine Wm ((e:Nat):Int) (c.length:Int) (fun m_=>([(2,pt 102),(3,ar 103 e),(31,ob (m_ == 1))],[(0,bx (Zg a)),(102,bx (Zc (⟨0,([]:List Zb),([]:List Zd),0,0⟩:Zd))),(103,.arr 5 (Zm c))],[])) ((by first | (simp only [zl,Zi];done) | (simp only [zl,Zi];omega) | omega)) [] trivial ?_
 refine WA.cond (b:=((c.length:Int) == 1)) rfl (fun p=>?_) (fun p=>?_)
 {
 have d:=Zk d p
 obtain ⟨x,d⟩:=Zn d
 obtain ⟨u,a5,d⟩:=Zh d
 refine Wos [(2,.cells (Zc u))] [(2,pt 102)] [(0,bx (Zg a)),(102,bx (Zc u))] [e=(Zm c).length,(0:Int)≤0,0<((e:Nat):Int),e=(Zm c).length,(Zm c)[Int.toNat 0]?=some (Zc u)] ⟨zt,x.1,(by have h_:=x.2;(try simp only [zl,Zi] at h_ ⊢);omega),zt,(Zr (ZO a5)),trivial⟩ ?_
 refine WA.ret ?_
 obtain rfl:=zj_ d
 exact Zo (tv (Zc u)) [bx (Zg a)] kr kr kr kr nd rfl rfl }
 {
 have d:=Zj d p
 refine WA.skip ?_
 refine WA.seq ?_
 refine WA.freeze 103 3 (s:=5) (n:=e) (els:=(Zm c)) rfl rfl zt ?_
 refine Wk [(2,pt 102),(3,one (.sl (Zm c)))] [(0,bx (Zg a)),(102,bx (Zc (⟨0,([]:List Zb),([]:List Zd),0,0⟩:Zd)))] ?_
 refine Wr [] [(2,pt 102)] [(0,bx (Zg a)),(102,bx (Zc (⟨2,([]:List Zb),c,0,0⟩:Zd)))] ?_
 refine WA.ret ?_
 obtain rfl:=zj_ d
 exact Zo (tv (Zc (⟨2,([]:List Zb),c,0,0⟩:Zd))) [bx (Zg a)] kr kr kr kr nd rfl rfl } } }
  {
 rcases zo_ (decide (a.f_at<(a.f_s.length:Int))) with i | i
 {
 have d:=Zk d i
 obtain ⟨j,y,d⟩:=Zh d
 rcases zo_ (!j) with l | l
 {
 have d:=Zk d l
 obtain ⟨t,a3,d⟩:=Zh d
 refine Wd [(10,.bool true),(12,.callR [0] (ob j)),(15,.bool true),(17,.callR [0] (ob t))] [(0,pt 0),(2,pt 102),(3,ar 103 e),(23,ob (!t))] [(0,bx (Zg a)),(102,bx (Zc (⟨0,([]:List Zb),([]:List Zd),0,0⟩:Zd))),(103,.arr 5 (Zm c))] [(decide (a.f_at<(a.f_s.length:Int)))=true,SM μ 97 [pt 0,one (.str ([124]:List UInt8))] [bx (Zg a)] (ob j) [bx (Zg a)],([0]:List Nat).Nodup,(!j)=true,SM μ 97 [pt 0,one (.str ([41]:List UInt8))] [bx (Zg a)] (ob t) [bx (Zg a)],([0]:List Nat).Nodup] ⟨i,(ZdG k _ _ _ y),nd,l,(ZdG k _ _ _ a3),nd,trivial⟩ ?_
 exact ⟨(!t),jk,d⟩ }
 {
 have d:=Zj d l
 refine Wd [(10,.bool true),(12,.callR [0] (ob j)),(15,.bool false),(17,.callR [] (.tup []))] [(0,pt 0),(2,pt 102),(3,ar 103 e),(23,ob false)] [(0,bx (Zg a)),(102,bx (Zc (⟨0,([]:List Zb),([]:List Zd),0,0⟩:Zd))),(103,.arr 5 (Zm c))] [(decide (a.f_at<(a.f_s.length:Int)))=true,SM μ 97 [pt 0,one (.str ([124]:List UInt8))] [bx (Zg a)] (ob j) [bx (Zg a)],([0]:List Nat).Nodup,(!j)=false] ⟨i,(ZdG k _ _ _ y),nd,l,trivial⟩ ?_
 exact ⟨false,jk,d⟩ } }
 {
 have d:=Zj d i
 refine Wd [(10,.bool false),(12,.callR [] (.tup [])),(17,.callR [] (.tup []))] [(0,pt 0),(2,pt 102),(3,ar 103 e),(23,ob false)] [(0,bx (Zg a)),(102,bx (Zc (⟨0,([]:List Zb),([]:List Zd),0,0⟩:Zd))),(103,.arr 5 (Zm c))] [(decide (a.f_at<(a.f_s.length:Int)))=false] ⟨i,trivial⟩ ?_
 exact ⟨false,jk,d⟩ } }
def Zol (R48:Zl→Option (Option (Zd×Zl))) (k:Nat) (d:Zl→(List Zd)→Option (Option (Zd×Zl))) (e:Zl) (a:List Zd):Option (Option (Zd×Zl)):=
  (F71 k e ([124]:List UInt8)).bind fun b=>(cond b.1 ((orP (F70 R48 k b.2) fun c=>if a.length+([c.1]:List Zd).length≤1073741824 then d c.2 (a ++ ([c.1]:List Zd)) else none)) (((cond ((a.length:Int) == 1) (if (0:Int)≤0∧0<(a.length:Int) then (idxL a 0).bind fun f=>(some (some (f,b.2))) else none) (((some (some ((⟨3,([]:List Zb),a,0,0⟩:Zd),b.2)))))))))
def ZiE (R48:Zl→Option (Option (Zd×Zl))) (k:Nat):Nat→Zl→(List Zd)→Option (Option (Zd×Zl))
  | 0,_,_=>none
  | c+1,a,b=>Zol R48 k (ZiE R48 k c) a b
def Zqc (R48:Zl→Option (Option (Zd×Zl))) (k:Nat) (v0:Zl):Option (Option (Zd×Zl)):=
  (orP (F70 R48 k v0) fun a=>(ZiE R48 k k a.2 ([a.1]:List Zd)))
theorem Zpq (R48:Zl→Option (Option (Zd×Zl))) (IH48:∀(v0:Zl) (r:Option (Zd×Zl)),R48 v0=some r→SimP Tryz.prog (GL0 μ) badV 48 [pt 0] [bx (Zg v0)] (r.map fun r=>(tv (Zc r.1),[bx (Zg r.2)]))) (k:Nat) (v0:Zl) (r:Option (Zd×Zl)) (d:Zqc R48 k v0=some r):SimP Tryz.prog (GL0 μ) badV 48 [pt 0] [bx (Zg v0)] (r.map fun r=>(tv (Zc r.1),[bx (Zg r.2)])):=by
 refine Zbl [0] Tryz.func48 rfl kr kr ?_
 show WA _ _ 22 _ _ _
 refine Ws [(0,.obj 102)] [(0,pt 0),(2,pt 102)] [(0,bx (Zg v0)),(102,bx (Zc (⟨0,([]:List Zb),([]:List Zd),0,0⟩:Zd)))] ?_
 refine WA.seq ?_
 rcases Zab d with ⟨hz,hr⟩ | ⟨i,w,d⟩
 {
 subst hr
 refine WA.regP 1 [0] [] [] badV (f:=70) (args:=[pt 0]) (os:=[bx (Zg v0)]) (env1:=[]) (os1:=[(0,bx (Zg v0)),(102,bx (Zc (⟨0,([]:List Zb),([]:List Zd),0,0⟩:Zd)))]) (O:=[]) kr (sound _ _) trivial nd (ZiO R48 IH48 k _ _ hz) (fun psl hpsl=>?_)
 obtain ⟨ps,rfl⟩:=Z1 hpsl
 exact ⟨rfl,[ps],kr,rfl⟩ }
 {
 refine Wm ([(Zc i.1)]:(List (List PV))) (Zm ([i.1]:List Zd)) (fun t=>([(0,pt 0),(2,pt 102),(3,ar 106 1)],[(0,bx (Zg i.2)),(102,bx (Zc (⟨0,([]:List Zb),([]:List Zd),0,0⟩:Zd))),(106,.arr 5 t)],[SM μ 70 [pt 0] [bx (Zg v0)] (tv (Zc i.1)) [bx (Zg i.2)],([0]:List Nat).Nodup])) (zm) [(1,.call [0] (tv (Zc i.1)) [bx (Zg i.2)] []),(2,.obj 106)] ⟨(ZiO R48 IH48 k _ _ w),nd,trivial⟩ ?_
 refine WA.seq ?_
 refine WA.block ?_
 refine WA.loop (fun m s_=>∃(j:Zl) (a:List Zd) (e:Nat),J s_ [(0,pt 0),(2,pt 102),(3,ar 106 e)] [(0,bx (Zg j)),(102,bx (Zc (⟨0,([]:List Zb),([]:List Zd),0,0⟩:Zd))),(106,.arr 5 (Zm a))]∧e=(a:List _).length∧ZiE R48 k m j a=some r) k ⟨i.2,([i.1]:List Zd),1,jk,zt,d⟩ ?_
 clear d
 rintro m0 s_ ⟨j,a,e,he,a1,d⟩
 refine Wj he ?_
 clear he
 cases m0 with
 | zero=>cases d
 | succ m0=>
  obtain ⟨a0,q⟩:∃g,g=ZiE R48 k m0:=⟨_,rfl⟩
  have d:Zol R48 k a0 j a=some r:=by first | (rw [q];exact d) | exact d
  refine WA.seq ?_
  obtain ⟨c,x,d⟩:=Zh d
  refine Wos [(1,.call [0] (ob c.1) [bx (Zg c.2)] [])] [(0,pt 0),(2,pt 102),(3,ar 106 e),(8,ob c.1)] [(0,bx (Zg c.2)),(102,bx (Zc (⟨0,([]:List Zb),([]:List Zd),0,0⟩:Zd))),(106,.arr 5 (Zm a))] [SM μ 71 [pt 0,one (.str ([124]:List UInt8))] [bx (Zg j)] (ob c.1) [bx (Zg c.2)],([0]:List Nat).Nodup] ⟨(Zaz k _ _ _ x),nd,trivial⟩ ?_
  refine WA.cond (b:=c.1) rfl (fun l=>?_) (fun l=>?_)
  {
 have d:=Zk d l
 refine WA.skip ?_
 refine WA.block ?_
 rcases Zab d with ⟨hz,hr⟩ | ⟨h,y,d⟩
 {
 subst hr
 refine WA.regP 2 [0] [] [] badV (f:=70) (args:=[pt 0]) (os:=[bx (Zg c.2)]) (env1:=[]) (os1:=[(0,bx (Zg c.2)),(102,bx (Zc (⟨0,([]:List Zb),([]:List Zd),0,0⟩:Zd))),(106,.arr 5 (Zm a))]) (O:=[]) kr (sound _ _) trivial nd (ZiO R48 IH48 k _ _ hz) (fun psl hpsl=>?_)
 obtain ⟨ps,rfl⟩:=Z1 hpsl
 exact ⟨rfl,[ps],kr,rfl⟩ }
 {
 obtain ⟨u,d⟩:=Zn d
 refine Wm ((((Zm a) ++ ([(Zc h.1)])),[(Zc h.1)]):(List (List PV))×(List (List PV))) ((Zm (a ++ ([h.1]:List Zd))),(Zm ([h.1]:List Zd))) (fun t=>([(0,pt 0),(2,pt 102),(3,ar 106 (e+1))],[(0,bx (Zg h.2)),(102,bx (Zc (⟨0,([]:List Zb),([]:List Zd),0,0⟩:Zd))),(106,.arr 5 t.1)],[SM μ 70 [pt 0] [bx (Zg c.2)] (tv (Zc h.1)) [bx (Zg h.2)],([0]:List Nat).Nodup,e=(Zm a).length,(Zm a).length+t.2.length≤1073741824,∀es,es∈t.2→es.length=5])) (ZJ zm zm) [(2,.call [0] (tv (Zc h.1)) [bx (Zg h.2)] [])] ⟨(ZiO R48 IH48 k _ _ y),nd,zt,(by first | exact u | (simp only [List.length_map,Zi];exact u)),(Zcj ([h.1]:List Zd)),trivial⟩ ?_
 exact ⟨m0,zl_ _,h.2,(a ++ ([h.1]:List Zd)),(e+1),jk,zt,by rw [q] at d;exact d⟩ } }
  {
 have d:=Zj d l
 refine WA.exit ?_
 refine WA.seq ?_
 refine WA.seq ?_
 refine Wm ((e:Nat):Int) (a.length:Int) (fun t=>([(2,pt 102),(3,ar 106 e),(16,ob (t == 1))],[(0,bx (Zg c.2)),(102,bx (Zc (⟨0,([]:List Zb),([]:List Zd),0,0⟩:Zd))),(106,.arr 5 (Zm a))],[])) ((by first | (simp only [zl,Zi];done) | (simp only [zl,Zi];omega) | omega)) [] trivial ?_
 refine WA.cond (b:=((a.length:Int) == 1)) rfl (fun o=>?_) (fun o=>?_)
 {
 have d:=Zk d o
 obtain ⟨v,d⟩:=Zn d
 obtain ⟨p,z,d⟩:=Zh d
 refine Wos [(2,.cells (Zc p))] [(2,pt 102)] [(0,bx (Zg c.2)),(102,bx (Zc p))] [e=(Zm a).length,(0:Int)≤0,0<((e:Nat):Int),e=(Zm a).length,(Zm a)[Int.toNat 0]?=some (Zc p)] ⟨zt,v.1,(by have h_:=v.2;(try simp only [zl,Zi] at h_ ⊢);omega),zt,(Zr (ZO z)),trivial⟩ ?_
 refine WA.ret ?_
 obtain rfl:=zj_ d
 exact Zo (tv (Zc p)) [bx (Zg c.2)] kr kr kr kr nd rfl rfl }
 {
 have d:=Zj d o
 refine WA.skip ?_
 refine WA.seq ?_
 refine WA.freeze 106 3 (s:=5) (n:=e) (els:=(Zm a)) rfl rfl zt ?_
 refine Wk [(2,pt 102),(3,one (.sl (Zm a)))] [(0,bx (Zg c.2)),(102,bx (Zc (⟨0,([]:List Zb),([]:List Zd),0,0⟩:Zd)))] ?_
 refine Wr [] [(2,pt 102)] [(0,bx (Zg c.2)),(102,bx (Zc (⟨3,([]:List Zb),a,0,0⟩:Zd)))] ?_
 refine WA.ret ?_
 obtain rfl:=zj_ d
 exact Zo (tv (Zc (⟨3,([]:List Zb),a,0,0⟩:Zd))) [bx (Zg c.2)] kr kr kr kr nd rfl rfl } } }
def F48:Nat→Zl→Option (Option (Zd×Zl))
  | 0,_=>none
  | k+1,v0=>Zqc (F48 k) k v0
theorem Zln:∀(k:Nat),∀(v0:Zl) (r:Option (Zd×Zl)),F48 k v0=some r→SimP Tryz.prog (GL0 μ) badV 48 [pt 0] [bx (Zg v0)] (r.map fun r=>(tv (Zc r.1),[bx (Zg r.2)]))
  | 0=>fun _ _ a=>by cases a
  | k+1=>fun v0 r a=>Zpq (F48 k) (Zln k) k v0 r a
end Go.Proofs.YthilboheomikjaaGreatDoor
end
section
namespace Go.Proofs.YthilboheomikjaaGreatDoor
open Go.AL Go.RowKit
set_option maxRecDepth 100000
theorem ZnM (w:World):(Instr.typeAssert .nilIface 20 70 true).run Tryz.prog w = .ok (.tuple #[.agg #[],.bool false]) w:=by kernel_rfl
theorem ZnL (w:World):(Instr.typeAssert badV 20 70 true).run Tryz.prog w = .ok (.tuple #[.agg #[],.bool true]) w:=by kernel_rfl
theorem ZnR (p q:Addr) (w:World) :
    CallsD Tryz.prog 47 #[.pointer (some p),.pointer (some q)] .returning w fun e u' w'=>e = .returned (.tuple #[])∧u' = .returning∧w'=w.alloc (.cells #[] 70):=by
  refine callsD_of_wpS Tryz.func47 rfl fun c₀ cs hu=>?_
  apply wpS_seq
  apply wpS_region
  simp [wpOpsS,go_sem,recoverD,hu,Tryz.ntmps47,Exit.thenS,ZnM,Oper.upon,Act.put]
  apply wpS_seq
  apply wpS_region
  simp [wpOpsS,go_sem,Exit.thenS,Oper.upon,Act.put]
  refine wpS_cond (t:=false) (by simp [Act.eval,Array.replicate]) ?_
  simp only [Bool.false_eq_true,if_false]
  refine wpS_of_wp (wp_skip ?_)
  cases c₀
  simp_all [bodyPostS,results,Tryz.results47,Exit.thenS]
theorem ZoE (p q:Addr) (w:World) (w1 w2:World) (h1:(Instr.storeAt 35 (.pointer (some p)) (.agg #[.int .i64 0,.slice none 0 0,.slice none 0 0,.int .i64 0,.int .i64 0])).run Tryz.prog (w.alloc (.cells #[] 70)) = .ok () w1)
    (h2:(Instr.storeAt 3 (.pointer (some q)) (.int .i64 3)).run Tryz.prog w1 = .ok () w2) :
    CallsD Tryz.prog 47 #[.pointer (some p),.pointer (some q)] (.panicking (ZdU badV)) w fun e u' w'=>e = .returned (.tuple #[])∧u' = .panicking [{ v:=badV,recovered:=true }]∧w'=w2:=by
  refine callsD_of_wpS Tryz.func47 rfl fun c₀ cs hu=>?_
  apply wpS_seq
  apply wpS_region
  have hb:badV = .iface 70 (.agg #[]):=rfl
  simp [wpOpsS,go_sem,recoverD,hu,Tryz.ntmps47,Exit.thenS,ZnL,Oper.upon,Act.put,ZdU]
  apply wpS_seq
  apply wpS_region
  simp [wpOpsS,go_sem,Exit.thenS,Oper.upon,Act.put]
  refine wpS_cond (t:=true) (by simp [Act.eval,Array.replicate]) ?_
  simp only [if_true]
  have hbld:∀W:World,(Instr.build 35 #[]).run Tryz.prog W = .ok (.agg #[.int .i64 0,.slice none 0 0,.slice none 0 0,.int .i64 0,.int .i64 0]) W:=fun W=>by kernel_rfl
  apply wpS_region
  simp [wpOpsS,execOp,Exit.thenS,Oper.upon,Act.put,hbld,Act.eval,h1,h2,Region.wanted,Array.replicate,show List.range 3=[0,1,2] from rfl]
  exact ⟨rfl,_,rfl,.tuple #[],by simp [results,Tryz.results47],rfl,rfl,rfl⟩
end Go.Proofs.YthilboheomikjaaGreatDoor
end
section
namespace Go.Proofs.YthilboheomikjaaGreatDoor
open Go.AL Go.RowKit
variable {μ:Int}
set_option maxRecDepth 100000
def zRe:Zd:=⟨0,[],[],0,0⟩
def ZnG (k:Nat) (s:List UInt8) (p:Zd) (r:Zl):Option (Zd×Int):=
  cond r.f_over (some (zRe,8)) ((F32 k p).bind fun n=>cond (decide (n > 200)) (some (zRe,8)) ((F50 k p).bind fun d=>cond (decide (d > 14)) (some (zRe,8)) (some (p,0))))
def ZnI (k:Nat) (s:List UInt8) (p:Zd) (r:Zl):Option (Zd×Int):=
  cond (decide (r.f_at<(s.length:Int))) (some (zRe,3)) ((F49 k s).bind fun b=>cond b (ZnG k s p r) (some (zRe,3)))
def ZnH (k:Nat) (s:List UInt8):Option (Zd×Int):=(F48 k ⟨s,0,false⟩).bind fun y=>match y with
  | none=>some (zRe,3)
  | some (p,r)=>ZnI k s p r
def F27 (k:Nat) (s:List UInt8):Option (Zd×Int):=cond (decide ((s.length:Int) > 400)) (some (zRe,8)) (ZnH k s)
def ptrs:List (Nat×AT):=[(2,.val false [.ptr 0 1 0 0]),(3,.val false [.ptr 1 1 0 0])]
def FR (res:Zd×Int):Exit→S→Prop
  | .ret,s=>ZI s.env [2,3]=ptrs∧ZI s.os [0,1]=[(0,.box (pvL (Zc res.1))),(1,.box (pvL [.int .i64 res.2]))]
  | .panic ch,s=>ch=ZdU badV∧res=(zRe,3)∧ZI s.env [2,3]=ptrs∧∃(p:Zd) (n:Int),ZI s.os [0,1]=[(0,.box (pvL (Zc p))),(1,.box (pvL [.int .i64 n]))]
  | _,_=>False
def ZdT:Option Code→Option Code
  | some (.seq _ (.seq _ (.seq _ c)))=>some c
  | _=>none
def Zsj:Option Code→Code
  | some (.seq _ (.seq _ (.seq (.seq _ (.cond _ c _)) _)))=>c
  | _=>.skip
def Zsk:Option Code→Code
  | some (.seq _ (.seq _ (.seq _ c)))=>c
  | _=>.skip
def Zsp:Option Code→Code
  | some (.seq _ (.seq _ (.seq _ (.seq (.seq _ (.cond _ c _)) _))))=>c
  | _=>.skip
def ZrU:Option Code→Code
  | some (.seq _ (.seq _ (.seq _ (.seq (.seq _ c) _))))=>c
  | _=>.skip
def Zqn:Option Code→Code
  | some (.seq _ (.seq _ (.seq _ (.seq _ c))))=>c
  | _=>.skip
theorem Zrk (k:Nat) (s:List UInt8) (res:Zd×Int) (hF:ZnH k s=some res) (c:Code) (hc:ZdT Tryz.f27.body=some c) :
    WA Tryz.prog (GL0 μ) 45 c ⟨(0,one (.str s)) :: ptrs,[(0,.box (pvL (Zc zRe))),(1,.box (pvL [.int .i64 0]))]⟩ (FR res):=by
  cases hc
  refine WA.seq ?_
  refine WA.reg [0,2,3,4] [0,1,112] [(2,.obj 112)] (env':=(0,one (.str s)) :: ptrs ++ [(4,.val false [.ptr 112 1 0 0])]) (os':=[(0,.box (pvL (Zc zRe))),(1,.box (pvL [.int .i64 0])),(112,.box (pvL (Zg ⟨s,0,false⟩)))]) (O:=[]) (by kernel_rfl) (sound _ _) trivial ?_
  refine WA.seq ?_
  obtain ⟨y,hy,hF⟩:=Zh hF
  cases y with
  | none=>
    obtain rfl:=zj_ hF
    refine WA.regP 1 [112] [2,3] [] badV (f:=48) (args:=[.val false [.ptr 0 1 0 0]]) (os:=[.box (pvL (Zg ⟨s,0,false⟩))]) (env1:=ptrs) (os1:=[(0,.box (pvL (Zc zRe))),(1,.box (pvL [.int .i64 0])),(112,.box (pvL (Zg ⟨s,0,false⟩)))]) (O:=[]) (by kernel_rfl) (sound _ _) trivial (by decide) (Zln k _ _ hy) (fun psl hpsl=>?_)
    obtain ⟨ps,rfl⟩:=Z1 hpsl
    exact ⟨rfl,rfl,by kernel_rfl,zRe,0,by kernel_rfl⟩
  | some y=>
    obtain ⟨p,r⟩:=y
    have hF:ZnI k s p r=some res:=hF
    refine WA.reg [0,2,3,4] [0,1,112] [(1,.call [112] (.val true (pvL (Zc p))) [.box (pvL (Zg r))] [])] (env':=(0,one (.str s)) :: ptrs ++ [(4,.val false [.ptr 112 1 0 0])]) (os':=[(0,.box (pvL (Zc p))),(1,.box (pvL [.int .i64 0])),(112,.box (pvL (Zg r)))]) (O:=[Sim Tryz.prog (GL0 μ) 48 [.val false [.ptr 0 1 0 0]] [.box (pvL (Zg ⟨s,0,false⟩))] (.val true (pvL (Zc p))) [.box (pvL (Zg r))],([112]:List Nat).Nodup]) (by kernel_rfl) (sound _ _) ⟨Zln k _ _ hy,by decide,trivial⟩ ?_
    refine WA.seq ?_
    refine WA.seq ?_
    have hbad:some (zRe,3)=some res→WA Tryz.prog (GL0 μ) 45 (Zsj (ZdT Tryz.f27.body)) ⟨ptrs ++ [(4,.val false [.ptr 112 1 0 0])],[(0,.box (pvL (Zc p))),(1,.box (pvL [.int .i64 0])),(112,.box (pvL (Zg r)))]⟩ (FR res):=fun hF=>by
      obtain rfl:=zj_ hF
      show WA Tryz.prog (GL0 μ) 45 (.region 7 _ _) _ _
      refine WA.bad [2,3] (t:=70) (env1:=ptrs) (os1:=[(0,.box (pvL (Zc p))),(1,.box (pvL [.int .i64 0])),(112,.box (pvL (Zg r)))]) (O:=[]) (by kernel_rfl) (sound _ _) trivial ?_
      exact ⟨rfl,rfl,by kernel_rfl,p,0,by kernel_rfl⟩
    have hrest:ZnG k s p r=some res→WA Tryz.prog (GL0 μ) 45 (Zsk (ZdT Tryz.f27.body)) ⟨ptrs ++ [(4,.val false [.ptr 112 1 0 0])],[(0,.box (pvL (Zc p))),(1,.box (pvL [.int .i64 0])),(112,.box (pvL (Zg r)))]⟩ (FR res):=fun hF=>by
      have hlim:some (zRe,8)=some res→WA Tryz.prog (GL0 μ) 45 (Zsp (ZdT Tryz.f27.body)) ⟨ptrs,[(0,.box (pvL (Zc p))),(1,.box (pvL [.int .i64 0]))]⟩ (FR res):=fun hF=>by
        obtain rfl:=zj_ hF
        show WA Tryz.prog (GL0 μ) 45 (.seq (.region 9 _ _) .ret) _ _
        refine WA.seq ?_
        refine WA.reg [2,3] [0,1] [] (env':=ptrs) (os':=[(0,.box (pvL (Zc zRe))),(1,.box (pvL [.int .i64 8]))]) (O:=[]) (by kernel_rfl) (sound _ _) trivial ?_
        refine WA.ret ?_
        exact ⟨by kernel_rfl,by kernel_rfl⟩
      have hend:some (p,0)=some res→WA Tryz.prog (GL0 μ) 45 (Zqn (ZdT Tryz.f27.body)) ⟨ptrs,[(0,.box (pvL (Zc p))),(1,.box (pvL [.int .i64 0]))]⟩ (FR res):=fun hF=>by
        obtain rfl:=zj_ hF
        show WA Tryz.prog (GL0 μ) 45 (.seq (.region 10 _ _) .ret) _ _
        refine WA.seq ?_
        refine WA.reg [2,3] [0,1] [] (env':=ptrs) (os':=[(0,.box (pvL (Zc p))),(1,.box (pvL [.int .i64 0]))]) (O:=[]) (by kernel_rfl) (sound _ _) trivial ?_
        refine WA.ret ?_
        exact ⟨by kernel_rfl,by kernel_rfl⟩
      have hB:∀b:Bool,(b=true→some (zRe,8)=some res)→(b=false→some (p,0)=some res)→WA Tryz.prog (GL0 μ) 45 (ZrU (ZdT Tryz.f27.body)) ⟨ptrs ++ [(42,one (.bool b))],[(0,.box (pvL (Zc p))),(1,.box (pvL [.int .i64 0]))]⟩ (Then Tryz.prog (GL0 μ) 45 (Zqn (ZdT Tryz.f27.body)) (FR res)):=fun b h1 h2=>by
        show WA Tryz.prog (GL0 μ) 45 (.cond (.tmp 42) _ _) _ _
        refine WA.cond (b:=b) rfl (fun hb=>?_) (fun hb=>?_)
        · refine WA.keep [2,3] [0,1] (env':=ptrs) (os':=[(0,.box (pvL (Zc p))),(1,.box (pvL [.int .i64 0]))]) (by kernel_rfl) (by kernel_rfl) ?_
          exact (hlim (h1 hb)).mono fun e s h=>by cases e <;> first | exact h | exact h.elim
        · refine WA.skip ?_
          refine WA.keep [2,3] [0,1] (env':=ptrs) (os':=[(0,.box (pvL (Zc p))),(1,.box (pvL [.int .i64 0]))]) (by kernel_rfl) (by kernel_rfl) ?_
          exact hend (h2 hb)
      show WA Tryz.prog (GL0 μ) 45 (.seq (.seq (.region 8 _ _) _) _) _ _
      refine WA.seq (WA.seq ?_)
      unfold ZnG at hF
      rcases zo_ r.f_over with hb | hb
      · have hF:=Zk hF hb
        refine WA.reg [2,3,42] [0,1] [(4,.bool true)] (env':=ptrs ++ [(42,one (.bool true))]) (os':=[(0,.box (pvL (Zc p))),(1,.box (pvL [.int .i64 0]))]) (O:=[r.f_over=true]) (by kernel_rfl) (sound _ _) ⟨hb,trivial⟩ ?_
        exact hB true (fun _=>hF) (fun h=>by cases h)
      · have hF:=Zj hF hb
        obtain ⟨n,hn,hF⟩:=Zh hF
        rcases zo_ (decide (n > 200)) with hb2 | hb2
        · have hF:=Zk hF hb2
          refine WA.reg [2,3,42] [0,1] [(4,.bool false),(6,.callR [] (one (.int .i64 n))),(9,.bool true)] (env':=ptrs ++ [(42,one (.bool true))]) (os':=[(0,.box (pvL (Zc p))),(1,.box (pvL [.int .i64 0]))]) (O:=[r.f_over=false,Sim Tryz.prog (GL0 μ) 32 [.val true (pvL (Zc p))] [] (one (.int .i64 n)) [],([]:List Nat).Nodup,decide (n > 200)=true]) (by kernel_rfl) (sound _ _) ⟨hb,Zir k _ _ hn,by decide,hb2,trivial⟩ ?_
          exact hB true (fun _=>hF) (fun h=>by cases h)
        · have hF:=Zj hF hb2
          obtain ⟨d,hd,hF⟩:=Zh hF
          refine WA.reg [2,3,42] [0,1] [(4,.bool false),(6,.callR [] (one (.int .i64 n))),(9,.bool false),(11,.callR [] (one (.int .i64 d)))] (env':=ptrs ++ [(42,one (.bool (decide (d > 14))))]) (os':=[(0,.box (pvL (Zc p))),(1,.box (pvL [.int .i64 0]))]) (O:=[r.f_over=false,Sim Tryz.prog (GL0 μ) 32 [.val true (pvL (Zc p))] [] (one (.int .i64 n)) [],([]:List Nat).Nodup,decide (n > 200)=false,Sim Tryz.prog (GL0 μ) 50 [.val true (pvL (Zc p))] [] (one (.int .i64 d)) [],([]:List Nat).Nodup]) (by kernel_rfl) (sound _ _) ⟨hb,Zir k _ _ hn,by decide,hb2,Zlo k _ _ hd,by decide,trivial⟩ ?_
          exact hB (decide (d > 14)) (fun h=>Zk hF h) (fun h=>Zj hF h)
    unfold ZnI at hF
    rcases zo_ (decide (r.f_at<(s.length:Int))) with hb | hb
    · have hF:=Zk hF hb
      refine WA.reg [2,3,4,26] [0,1,112] [(7,.bool true)] (env':=ptrs ++ [(4,.val false [.ptr 112 1 0 0]),(26,one (.bool true))]) (os':=[(0,.box (pvL (Zc p))),(1,.box (pvL [.int .i64 0])),(112,.box (pvL (Zg r)))]) (O:=[decide (r.f_at<(s.length:Int))=true]) (by kernel_rfl) (sound _ _) ⟨hb,trivial⟩ ?_
      refine WA.cond (b:=true) rfl (fun _=>?_) (fun h=>by cases h)
      refine WA.keep [2,3,4] [0,1,112] (env':=ptrs ++ [(4,.val false [.ptr 112 1 0 0])]) (os':=[(0,.box (pvL (Zc p))),(1,.box (pvL [.int .i64 0])),(112,.box (pvL (Zg r)))]) (by kernel_rfl) (by kernel_rfl) ?_
      exact (hbad hF).mono fun e s h=>by cases e <;> first | exact h | exact h.elim
    · have hF:=Zj hF hb
      obtain ⟨y,hy,hF⟩:=Zh hF
      refine WA.reg [2,3,4,26] [0,1,112] [(7,.bool false),(9,.callR [] (one (.bool y)))] (env':=ptrs ++ [(4,.val false [.ptr 112 1 0 0]),(26,one (.bool (!y)))]) (os':=[(0,.box (pvL (Zc p))),(1,.box (pvL [.int .i64 0])),(112,.box (pvL (Zg r)))]) (O:=[decide (r.f_at<(s.length:Int))=false,Sim Tryz.prog (GL0 μ) 49 [one (.str s)] [] (one (.bool y)) [],([]:List Nat).Nodup]) (by kernel_rfl) (sound _ _) ⟨hb,ZiF k _ _ hy,by decide,trivial⟩ ?_
      refine WA.cond (b:=!y) rfl (fun hy'=>?_) (fun hy'=>?_)
      · have hF:=Zj hF (by simpa using hy')
        refine WA.keep [2,3,4] [0,1,112] (env':=ptrs ++ [(4,.val false [.ptr 112 1 0 0])]) (os':=[(0,.box (pvL (Zc p))),(1,.box (pvL [.int .i64 0])),(112,.box (pvL (Zg r)))]) (by kernel_rfl) (by kernel_rfl) ?_
        exact (hbad hF).mono fun e s h=>by cases e <;> first | exact h | exact h.elim
      · have hF:=Zk hF (by simpa using hy')
        refine WA.skip ?_
        refine WA.keep [2,3,4] [0,1,112] (env':=ptrs ++ [(4,.val false [.ptr 112 1 0 0])]) (os':=[(0,.box (pvL (Zc p))),(1,.box (pvL [.int .i64 0])),(112,.box (pvL (Zg r)))]) (by kernel_rfl) (by kernel_rfl) ?_
        exact hrest hF
end Go.Proofs.YthilboheomikjaaGreatDoor
end
section
namespace Go.Proofs.YthilboheomikjaaGreatDoor
open Go.AL
variable {μ:Int}
set_option maxRecDepth 100000
abbrev os27 (p:Zd) (n:Int):Objs:=[(0,.box (pvL (Zc p))),(1,.box (pvL [.int .i64 n]))]
abbrev Za0 (p:Zd) (n:Int):Objs:=[(102,.box (pvL (Zc p))),(103,.box (pvL [.int .i64 n]))]
def Zci:List (Nat×AT):=[(2,.val false [.ptr 102 1 0 0]),(3,.val false [.ptr 103 1 0 0])]
def G01 (G:Nat→Option Nat):Nat→Option Nat:=fun k=>([102,103][k]?).bind G
theorem Zkb {w0 w:World} {I0 I:Nat→Prop} {G0 G:Nat→Option Nat} {os0:Objs} {D:List Deferred} {a:Act} {p:Zd} {n:Int} (h1:Ext w0 w I0 I (Mine G0 os0) (Mine G (os27 p n))) (hh:∀k,I0 k→w.heap[k]?=w0.heap[k]?)
    (h3:Sr (GL0 μ) w I G (os27 p n)) (h4:Fr D w I G (Go.AL.shape (os27 p n)) 45 a ptrs) :
    ∃v,(results Tryz.f27 a.tmps).run Tryz.prog w = .ok v w∧∃v' I' G',Ending.returned v = .returned v'∧Ext w0 w I0 I' (Mine G0 os0) (Mine G' (ZG []))∧Sr (GL0 μ) w I' G' (ZG [])∧
      ATr w I' G' (Go.AL.shape (ZG [])) (.tup [(true,pvL (Zc p)),(false,[.pv (.int .i64 n)])]) v'∧ZN (· < 0) w0 w I0 I' G0 G' (Go.AL.shape os0) (Go.AL.shape (ZG [])):=by
  obtain ⟨v,hv,hr⟩:=Zmn (fn:=Tryz.f27) (st:=⟨ptrs,os27 p n⟩) (x:=.tup [(true,pvL (Zc p)),(false,[.pv (.int .i64 n)])]) h3 h4 (by kernel_rfl)
  obtain ⟨s1,k1⟩:=h3.sub (os':=ZG []) fun k o h=>by rw [ZK] at h;simp at h
  refine ⟨v,hv,v,I,G,rfl,⟨h1.size,h1.os,h1.tape,h1.output,h1.keep,h1.imm,h1.inew,fun k ⟨id,o,q1,q2⟩=>by rw [ZK] at q1;simp at q1⟩,s1,?_,⟨hh,h1.imm,fun id s m h=>absurd h (Nat.not_lt_zero _)⟩⟩
  exact hr.mono (R:=ZiY) (ZcD (fun _ _=>rfl) fun _ h=>h) ⟨⟨trivial,trivial,trivial,trivial,trivial,trivial⟩,⟨trivial,trivial⟩,trivial⟩
theorem to01 {D:List Deferred} {w:World} {I:Nat→Prop} {G:Nat→Option Nat} {a:Act} {p:Zd} {n:Int} (h3:Sr (GL0 μ) w I G (Za0 p n)) (h4:Fr D w I G (Go.AL.shape (Za0 p n)) 45 a Zci) :
    Sr (GL0 μ) w I (G01 G) (os27 p n)∧Fr D w I (G01 G) (Go.AL.shape (os27 p n)) 45 a ptrs∧∀k,Mine (G01 G) (os27 p n) k↔Mine G (Za0 p n) k:=by
  have hr:=h3.ren (st:=⟨[],Za0 p n⟩) (ids:=[102,103]) (os:=[.box (pvL (Zc p)),.box (pvL [.int .i64 n])]) ⟨_,rfl,rfl⟩ (by decide) rfl
  refine ⟨hr,⟨h4.size,h4.defers,fun t x hx=>?_⟩,fun k=>⟨fun ⟨id,o,q1,q2⟩=>?_,fun ⟨id,o,q1,q2⟩=>?_⟩⟩
  · simp only [ptrs,ZD] at hx
    split at hx
    · rename_i e;subst e;cases hx
      obtain ⟨q1,q2⟩:=h4.slot 2 _ rfl
      obtain ⟨r1,r2⟩:=ZH q2
      exact ⟨q1,_,rfl,r1,fun s m h=>r2 s m h⟩
    · split at hx
      · rename_i e;subst e;cases hx
        obtain ⟨q1,q2⟩:=h4.slot 3 _ rfl
        obtain ⟨r1,r2⟩:=ZH q2
        exact ⟨q1,_,rfl,r1,fun s m h=>r2 s m h⟩
      · cases hx
  · simp only [os27,ZD] at q1
    split at q1
    · rename_i e;subst e;exact ⟨102,_,rfl,q2⟩
    · split at q1
      · rename_i e;subst e;exact ⟨103,_,rfl,q2⟩
      · cases q1
  · simp only [Za0,ZD] at q1
    split at q1
    · rename_i e;subst e;exact ⟨0,_,rfl,q2⟩
    · split at q1
      · rename_i e;subst e;exact ⟨1,_,rfl,q2⟩
      · cases q1
theorem Zkx {l:List (Nat×AT)} (hl:l=ptrs∨l=Zci) {s:List UInt8} {t:Nat} {x:AT} (h:Go.AL.look l t=some x):Go.AL.look ((0,one (.str s)) :: l) t=some x:=by
  rw [ZD]
  split
  · rename_i e;subst e;rcases hl with rfl | rfl <;> cases h
  · exact h
theorem Zsr {D:List Deferred} {w:World} {I:Nat→Prop} {G:Nat→Option Nat} {a:Act} {p:Zd} {n:Int} {s:List UInt8} (h3:Sr (GL0 μ) w I G (Za0 p n)) (h4:Fr D w I G (Go.AL.shape (Za0 p n)) 45 a ((0,one (.str s)) :: Zci)) :
    Sr (GL0 μ) w I (G01 G) (os27 p n)∧Fr D w I (G01 G) (Go.AL.shape (os27 p n)) 45 a ((0,one (.str s)) :: ptrs)∧∀k,Mine (G01 G) (os27 p n) k↔Mine G (Za0 p n) k:=by
  obtain ⟨q1,q2,q3⟩:=to01 h3 ⟨h4.size,h4.defers,fun t x hx=>h4.slot t x (Zkx (.inr rfl) hx)⟩
  refine ⟨q1,⟨q2.size,q2.defers,fun t x hx=>?_⟩,q3⟩
  rw [ZD] at hx
  split at hx
  · rename_i e;subst e;cases hx
    obtain ⟨r1,r2⟩:=h4.slot 0 _ rfl
    exact ⟨r1,r2.mono (ZcD (fun _ _=>rfl) fun _ h=>h) ⟨trivial,trivial⟩⟩
  · exact q2.slot t x hx
theorem Zqt {D:List Deferred} {w:World} {I:Nat→Prop} {G:Nat→Option Nat} {a:Act} {p:Zd} {n:Int} (h3:Sr (GL0 μ) w I G (os27 p n)) (h4:Fr D w I G (Go.AL.shape (os27 p n)) 45 a ptrs) :
    ∃b c,G 0=some b∧G 1=some c∧a.tmps.getD 2 undef = .pointer (some ⟨b,0,none⟩)∧a.tmps.getD 3 undef = .pointer (some ⟨c,0,none⟩):=by
  obtain ⟨_,q2⟩:=h4.slot 2 _ rfl
  obtain ⟨_,q3⟩:=h4.slot 3 _ rfl
  have r2:=((ZH q2).2 _ _ rfl).2 rfl
  have r3:=((ZH q3).2 _ _ rfl).2 rfl
  cases hb:G 0 with
  | none=>have:=h3.none_ 0 _ rfl hb;simp [Obj.els] at this
  | some b=>
    cases hc:G 1 with
    | none=>have:=h3.none_ 1 _ rfl hc;simp [Obj.els] at this
    | some c=>exact ⟨b,c,rfl,rfl,r2 b hb,r3 c hc⟩
def Zsb:Option Code→Code
  | some (.seq a _)=>a
  | _=>.skip
def Zr2:Option Code→Code
  | some (.seq _ (.seq b _))=>b
  | _=>.skip
def Zq1:Option Code→Code
  | some (.seq _ (.seq _ (.seq c _)))=>c
  | _=>.skip
def FA (s:List UInt8):Exit→S→Prop
  | .normal,st=>st=⟨(0,one (.str s)) :: Zci,Za0 zRe 0⟩
  | _,_=>False
def FB (k:Nat) (s:List UInt8) (res:Zd×Int):Exit→S→Prop
  | .normal,st=>st=⟨(0,one (.str s)) :: Zci,Za0 zRe 0⟩∧ZnH k s=some res
  | .ret,st=>st=⟨Zci,Za0 res.1 res.2⟩
  | _,_=>False
theorem Zrj (s:List UInt8):WA Tryz.prog (GL0 μ) 45 (Zsb Tryz.f27.body) ⟨[(0,one (.str s))],[]⟩ (FA s):=by
  show WA Tryz.prog (GL0 μ) 45 (.region 0 _ _) _ _
  exact WA.reg [0,2,3] [102,103] [(0,.obj 102),(1,.obj 103)] (env':=(0,one (.str s)) :: Zci) (os':=Za0 zRe 0) (O:=[]) (by kernel_rfl) (sound _ _) trivial rfl
theorem Zrc (k:Nat) (s:List UInt8) (res:Zd×Int) (hF:F27 k s=some res) :
    WA Tryz.prog (GL0 μ) 45 (Zr2 Tryz.f27.body) ⟨(0,one (.str s)) :: Zci,Za0 zRe 0⟩ (FB k s res):=by
  show WA Tryz.prog (GL0 μ) 45 (.seq _ (.cond (.tmp 7) _ _)) _ _
  refine WA.seq ?_
  refine WA.reg [0,2,3,7] [102,103] [] (env':=(0,one (.str s)) :: Zci ++ [(7,one (.bool (decide ((s.length:Int) > 400))))]) (os':=Za0 zRe 0) (O:=[]) (by kernel_rfl) (sound _ _) trivial ?_
  refine WA.cond (b:=decide ((s.length:Int) > 400)) rfl (fun hb=>?_) (fun hb=>?_)
  · have hF:=Zk hF hb
    obtain rfl:=zj_ hF
    refine WA.seq ?_
    refine WA.reg [2,3] [102,103] [] (env':=Zci) (os':=Za0 zRe 8) (O:=[]) (by kernel_rfl) (sound _ _) trivial ?_
    refine WA.ret ?_
    rfl
  · have hF:=Zj hF hb
    refine WA.keep [0,2,3] [102,103] (env':=(0,one (.str s)) :: Zci) (os':=Za0 zRe 0) (by kernel_rfl) (by kernel_rfl) ?_
    refine WA.skip ?_
    exact ⟨rfl,hF⟩
def defd (x y:Value):Deferred:=⟨.fn (.func 47) #[x,y],#[]⟩
theorem ZpH {a:Act} {w:World} {Q:Exit→Act→World→Prop} (ha:a.defers=[]) (h:Q .normal { tmps:=(a.tmps.setIfInBounds 9 (.func (.func 47) #[] #[a.tmps.getD 2 undef,a.tmps.getD 3 undef])),defers:=[defd (a.tmps.getD 2 undef) (a.tmps.getD 3 undef)] } w) (hs:a.tmps.size=45) :
    (Zq1 Tryz.f27.body).wp Tryz.prog Q a w:=by
  show (Code.region 3 _ _).wp _ _ _ _
  refine wp_region_list ?_
  obtain ⟨tm,df⟩:=a
  simp only at ha hs h;subst ha
  simp only [wpList,Region.wanted]
  refine .inl ?_
  simp only [Oper.wp,execOp]
  have e1:Sem.run Tryz.prog (do
        let x ←Instr.makeFunc (Fn.func 47) (Array.map (Act.eval { tmps:=tm,defers:=[] }) #[]) (Array.map (Act.eval { tmps:=tm,defers:=[] }) #[Operand.tmp 2,Operand.tmp 3])
        pure (Next.value x)) w = .ok (.value (.func (.func 47) #[] #[tm.getD 2 undef,tm.getD 3 undef])) w:=by simp [Instr.makeFunc,Act.eval]
  rw [e1,Oper.upon_value,if_pos trivial]
  refine .inl ?_
  have h9:(tm.setIfInBounds 9 (Value.func (Fn.func 47) #[] #[tm.getD 2 undef,tm.getD 3 undef])).getD 9 undef=Value.func (Fn.func 47) #[] #[tm.getD 2 undef,tm.getD 3 undef]:=by
    rw [Array.getD_eq_getD_getElem?,Array.getElem?_setIfInBounds];simp [hs]
  have e2:Sem.run Tryz.prog (do
        let x ←resolve (Act.eval { tmps:=tm.setIfInBounds 9 (Value.func (Fn.func 47) #[] #[tm.getD 2 undef,tm.getD 3 undef]),defers:=[] }) { callee:=Callee.value (Operand.tmp 9),args:=#[],argTypes:=#[] } 0
        pure (Next.defer x)) w = .ok (.defer (defd (tm.getD 2 undef) (tm.getD 3 undef))) w:=by
    simp only [resolve,Act.eval,h9,Deferred.ofValue]
    simp [defd]
  simp only [Act.put]
  rw [e2,Oper.upon_defer]
  exact h
theorem Zle (k:Nat) (s:List UInt8) (res:Zd×Int) (hF:F27 k s=some res) :
    Sim Tryz.prog (GL0 μ) 27 [one (.str s)] [] (.tup [(true,pvL (Zc res.1)),(false,[.pv (.int .i64 res.2)])]) []:=by
  intro w I G vs hs ha
  obtain ⟨v,_,rfl,hv,rfl⟩:=ha
  refine calls_of_wp_defers Tryz.func27 rfl ?_
  refine wp_seq (wp_mono (Zrj s [] w I G (ZG []) w I G _ (.refl _ _ _) (.refl _ _ _ _ _) hs ?_) ?_)
  · refine ⟨by simp [Tryz.ntmps27],rfl,fun t x hx=>?_⟩
    simp only [ZD] at hx
    split at hx
    · rename_i e;subst e;cases hx
      refine ⟨by omega,?_⟩
      rw [Array.getD_eq_getD_getElem?,Array.getElem?_append_left (by simp)]
      exact hv
    · cases hx
  rintro e a1 w1 ⟨I1,G1,s1,e1,k1,r1,f1,q1⟩
  cases e with
  | normal=>
    cases q1
    refine wp_seq (wp_mono (Zrc k s res hF [] w I G (ZG []) w1 I1 G1 a1 e1 k1 r1 f1) ?_)
    rintro e a2 w2 ⟨I2,G2,s2,e2,k2,r2,f2,q2⟩
    cases e with
    | normal=>
      obtain ⟨rfl,hF2⟩:=q2
      obtain ⟨r3,f3,m3⟩:=Zsr r2 f2
      obtain ⟨b,c,gb,gc,vb,vc⟩:=Zqt r3 ⟨f3.size,f3.defers,fun t x hx=>f3.slot t x (Zkx (.inl rfl) hx)⟩
      refine wp_seq (ZpH f2.defers ?_ f2.size)
      rw [vb,vc]
      refine wp_mono (Zrk k s res hF2 _ rfl [defd (.pointer (some ⟨b,0,none⟩)) (.pointer (some ⟨c,0,none⟩))] w2 I2 (G01 G2) (os27 zRe 0) w2 I2 (G01 G2) _ (.refl _ _ _) (.refl _ _ _ _ _) r3 ⟨by simp [f3.size],rfl,fun t x hx=>?_⟩) ?_
      · obtain ⟨x1,x2⟩:=f3.slot t x hx
        have ht:t≠9:=fun e=>by subst e;cases hx
        refine ⟨x1,?_⟩
        rw [Array.getD_eq_getD_getElem?] at x2 ⊢
        rw [Array.getElem?_setIfInBounds,if_neg (fun e=>ht e.symm)];exact x2
      have gl:∀{w4 I4 G4} {p:Zd} {n:Int},Ext w2 w4 I2 I4 (Mine (G01 G2) (os27 zRe 0)) (Mine G4 (os27 p n))→
          Ext w w4 I I4 (Mine G (ZG [])) (Mine G4 (os27 p n)):=fun e4=>
        ⟨Nat.le_trans e2.size e4.size,e4.os.trans e2.os,e4.tape.trans e2.tape,e4.output.trans e2.output,fun k h h'=>by
            rw [e4.keep k (Nat.lt_of_lt_of_le h e2.size) (fun h2=>((e2.mnew k ((m3 k).1 h2)).elim h' (fun h3=>by omega))),e2.keep k h h'],
          fun k h=>e4.imm k (e2.imm k h),fun k h=>by
            rcases e4.inew k h with h | h | h
            · exact e2.inew k h
            · exact (e2.mnew k ((m3 k).1 h)).elim (fun h=>.inr (.inl h)) (fun h=>.inr (.inr h))
            · exact .inr (.inr (Nat.le_trans e2.size h)),
          fun k h=>(e4.mnew k h).elim (fun h=>(e2.mnew k ((m3 k).1 h)).elim .inl .inr) (fun h=>.inr (Nat.le_trans e2.size h))⟩
      rintro e a4 w4 ⟨I4,G4,⟨env4,os4⟩,e4,k4,r4,f4,q4⟩
      have sub:∀{p:Zd} {n:Int},ZI env4 [2,3]=ptrs→ZI os4 [0,1]=os27 p n→Sr (GL0 μ) w4 I4 G4 (os27 p n)∧Fr [defd (.pointer (some ⟨b,0,none⟩)) (.pointer (some ⟨c,0,none⟩))] w4 I4 G4 (Go.AL.shape (os27 p n)) 45 a4 ptrs∧
          Ext w2 w4 I2 I4 (Mine (G01 G2) (os27 zRe 0)) (Mine G4 (os27 p n))∧G4 0=some b∧G4 1=some c:=fun {p n} he ho=>by
        have hl:∀k o,Go.AL.look (os27 p n) k=some o→Go.AL.look os4 k=some o:=fun k o h=>by rw [←ho] at h;exact Z0 h
        obtain ⟨r5,k5⟩:=r4.sub (os':=os27 p n) hl
        refine ⟨r5,⟨f4.size,f4.defers,fun t x hx=>?_⟩,⟨e4.size,e4.os,e4.tape,e4.output,e4.keep,e4.imm,e4.inew,fun k ⟨id,o,q1,q2⟩=>e4.mnew k ⟨id,o,hl id o q1,q2⟩⟩,?_,?_⟩
        · rw [←he] at hx
          obtain ⟨x1,x2⟩:=f4.slot t x (Z0 hx)
          exact ⟨x1,x2.mono k5 (AT.refs_any x)⟩
        · obtain ⟨m0,j1,j2,j3⟩:=(k4.trans (k5.weaken fun _ _=>trivial)).objs 0 _ _ (by omega) rfl
          cases j1
          rw [(j3 rfl).1];exact gb
        · obtain ⟨m0,j1,j2,j3⟩:=(k4.trans (k5.weaken fun _ _=>trivial)).objs 1 _ _ (by omega) rfl
          cases j1
          rw [(j3 rfl).1];exact gc
      have inv:∀w,(Go.invoke (defd (.pointer (some ⟨b,0,none⟩)) (.pointer (some ⟨c,0,none⟩))).target #[]).run Tryz.prog w = .ok (.enter 47 #[.pointer (some ⟨b,0,none⟩),.pointer (some ⟨c,0,none⟩)]) w:=fun w=>by kernel_rfl
      have hh:∀k,I k→w4.heap[k]?=w.heap[k]?:=fun k hk=>by rw [k4.heap k (k2.imm k hk),k2.heap k hk]
      cases e with
      | ret=>
        obtain ⟨he,ho⟩:=q4
        obtain ⟨r5,f5,e5,g0,g1⟩:=sub he ho
        show Leaves _ _ _ _ a4.defers _ _
        rw [f5.defers]
        refine ⟨by simp,_,_,47,_,rfl,inv w4,fun c0 cs hm=>?_⟩
        obtain ⟨e',u',w',fr,⟨rfl,rfl,rfl⟩,hc⟩:=ZnR ⟨b,0,none⟩ ⟨c,0,none⟩ w4 c0 cs hm
        refine ⟨_,_,_,_,?_,hc⟩
        obtain ⟨p1,p2,p3⟩:=r5.imm (.cells #[] 70)
        exact Zkb (gl (e5.trans p3)) (fun k hk=>by rw [p2.heap k (e4.imm k (e2.imm k hk)),hh k hk]) p1 ⟨f5.size,f5.defers,fun t x hx=>⟨(f5.slot t x hx).1,(f5.slot t x hx).2.mono p2 (AT.refs_any x)⟩⟩
      | panic ch=>
        obtain ⟨rfl,rfl,he,p,n,ho⟩:=q4
        obtain ⟨r5,f5,e5,g0,g1⟩:=sub he ho
        show Leaves _ _ _ _ a4.defers _ _
        rw [f5.defers]
        refine ⟨by simp,_,_,47,_,rfl,inv w4,fun c0 cs hm=>?_⟩
        obtain ⟨p1,p2,p3⟩:=r5.imm (.cells #[] 70)
        have f6:Fr _ _ _ G4 (Go.AL.shape (os27 p n)) 45 a4 ptrs:=⟨f5.size,f5.defers,fun t x hx=>⟨(f5.slot t x hx).1,(f5.slot t x hx).2.mono p2 (AT.refs_any x)⟩⟩
        obtain ⟨b',c',gb',gc',vb',vc'⟩:=Zqt p1 f6
        rw [g0] at gb';cases gb'
        rw [g1] at gc';cases gc'
        have hx0:=(f6.slot 2 _ rfl).2
        have hx1:=(f6.slot 3 _ rfl).2
        rw [vb'] at hx0;rw [vc'] at hx1
        obtain ⟨_,w6,G6,st6,x6,s6,mv6⟩:=Zh8 (P:=Tryz.prog) (st:=⟨[],os27 p n⟩) (t:=35) (x:=.val false [.ptr 0 1 0 0]) (y:=.val true (pvL (Zc zRe))) (h:=none) (z:=.tup []) (os':=os27 zRe n) (O:=[]) (by kernel_rfl) trivial p1 hx0
          (v:=.agg #[.int .i64 0,.slice none 0 0,.slice none 0 0,.int .i64 0,.int .i64 0]) ⟨_,rfl,_,_,rfl,PVr.int _ _,_,_,rfl,PVr.sl0 _ _,_,_,rfl,PVr.sl0 _ _,_,_,rfl,PVr.int _ _,_,_,rfl,PVr.int _ _,rfl⟩
        have hx1':=hx1.mono mv6.keeps ⟨show (1:Nat)<100 by omega,trivial⟩
        obtain ⟨_,w7,G7,st7,x7,s7,mv7⟩:=Zh8 (P:=Tryz.prog) (st:=⟨[],os27 zRe n⟩) (t:=3) (x:=.val false [.ptr 1 1 0 0]) (y:=one (.int .i64 3)) (h:=none) (z:=.tup []) (os':=os27 zRe 3) (O:=[]) (by kernel_rfl) trivial s6 hx1'
          (v:=.int .i64 3) ⟨_,rfl,PVr.int _ _⟩
        obtain ⟨e',u',w',fr,⟨rfl,rfl,rfl⟩,hc⟩:=ZoE ⟨b,0,none⟩ ⟨c,0,none⟩ w4 w6 w7 st6 st7 c0 cs hm
        refine ⟨_,_,_,_,?_,hc⟩
        have k7:=mv6.keeps.trans mv7.keeps
        refine Zkb (p:=zRe) (n:=3) (gl (e5.trans (p3.trans (x6.trans x7)))) (fun k hk=>?_) s7 ⟨f6.size,f6.defers,fun t x hx=>⟨(f6.slot t x hx).1,?_⟩⟩
        · have h4:=e4.imm k (e2.imm k hk)
          rw [k7.heap k (p2.imm k h4),p2.heap k h4,hh k hk]
        · refine (f6.slot t x hx).2.mono k7 ?_
          simp only [ptrs,ZD] at hx
          split at hx
          · cases hx;exact ⟨show (0:Nat)<100 by omega,trivial⟩
          · split at hx
            · cases hx;exact ⟨show (1:Nat)<100 by omega,trivial⟩
            · cases hx
      | _=>exact q4.elim
    | ret=>
      cases q2
      obtain ⟨r3,f3,m3⟩:=to01 r2 f2
      show Leaves _ _ _ _ a2.defers _ _
      rw [f2.defers]
      refine Zkb ⟨e2.size,e2.os,e2.tape,e2.output,e2.keep,e2.imm,e2.inew,fun k h=>e2.mnew k ((m3 k).1 h)⟩ k2.heap r3 f3
    | _=>exact q2.elim
  | _=>exact q1.elim
end Go.Proofs.YthilboheomikjaaGreatDoor
end
section
namespace Go.Proofs.YthilboheomikjaaGreatDoor
open Go.AL
variable {μ:Int}
set_option maxRecDepth 100000
def Zbd (a:Bool):Option Bool:=
  some a
def F26 (k:Nat):Option Bool:=
  (F27 k ([97,123,50,125]:List UInt8)).bind fun a=>(F27 k ([97,42,42]:List UInt8)).bind fun b=>(F27 k ([97,123,50,49,125]:List UInt8)).bind fun c=>(cond (a.2 == 0) (cond (a.1.f_Kind == 4) (cond (a.1.f_Min == 2) (cond (a.1.f_Max == 2) (cond (b.2 == 3) (cond (c.2 == 8) ((F31 k a.1 ([97,97]:List UInt8)).bind fun d=>cond d ((F31 k a.1 ([97]:List UInt8)).bind fun e=>cond (!e) ((F34 k).bind fun f=>(F31 k f ([120,195,169]:List UInt8)).bind fun g=>cond g ((F33 k ([97,46,98]:List UInt8)).bind fun h=>(F31 k h ([97,46,98]:List UInt8)).bind fun i=>cond i ((F33 k ([97,46,98]:List UInt8)).bind fun j=>(F31 k j ([97,120,98]:List UInt8)).bind fun l=>(Zbd (!l))) ((Zbd false))) ((Zbd false))) ((Zbd false))) ((Zbd false))) ((Zbd false))) ((Zbd false))) ((Zbd false))) ((Zbd false))) ((Zbd false))) ((Zbd false)))
theorem Zbe (k:Nat) (r:Bool) (b:F26 k=some r):SM μ 26 [] [] (ob r) []:=by
 refine Zz [] Tryz.func26 rfl kr kr ?_
 show WA _ _ 66 _ _ _
 refine Ws [] [] [] ?_
 obtain ⟨a,a5,b⟩:=Zh b
 refine Wos [(0,.callR [] (.tup [(true,pvL (Zc a.1)),(false,[.pv (.int .i64 a.2)])])),(4,.obj 101)] [(1,pt 101),(2,oi a.2)] [(101,bx (Zc a.1))] [SM μ 27 [one (.str ([97,123,50,125]:List UInt8))] [] (.tup [(true,pvL (Zc a.1)),(false,[.pv (.int .i64 a.2)])]) [],([]:List Nat).Nodup] ⟨(Zle k _ _ a5),nd,trivial⟩ ?_
 obtain ⟨h,a6,b⟩:=Zh b
 refine Wos [(0,.callR [] (.tup [(true,pvL (Zc h.1)),(false,[.pv (.int .i64 h.2)])])),(4,.obj 103)] [(1,pt 101),(2,oi a.2),(4,oi h.2)] [(101,bx (Zc a.1))] [SM μ 27 [one (.str ([97,42,42]:List UInt8))] [] (.tup [(true,pvL (Zc h.1)),(false,[.pv (.int .i64 h.2)])]) [],([]:List Nat).Nodup] ⟨(Zle k _ _ a6),nd,trivial⟩ ?_
 obtain ⟨l,a7,b⟩:=Zh b
 refine Wos [(0,.callR [] (.tup [(true,pvL (Zc l.1)),(false,[.pv (.int .i64 l.2)])])),(4,.obj 105)] [(1,pt 101),(2,oi a.2),(4,oi h.2),(6,oi l.2)] [(101,bx (Zc a.1))] [SM μ 27 [one (.str ([97,123,50,49,125]:List UInt8))] [] (.tup [(true,pvL (Zc l.1)),(false,[.pv (.int .i64 l.2)])]) [],([]:List Nat).Nodup] ⟨(Zle k _ _ a7),nd,trivial⟩ ?_
 refine WA.join (fun s_=>∃(a0:Bool),J s_ [(0,ob a0)] []∧Zbd a0=some r) ?_ ?_
 {
 rintro s_ ⟨a0,he,b⟩
 refine Wj he ?_
 clear he
 refine WA.ret ?_
 obtain rfl:=zj_ b
 exact Zo (ob a0) [] kr kr kr kr nd rfl rfl }
 {
 rcases zo_ (a.2 == 0) with c | c
 {
 have b:=Zk b c
 rcases zo_ (a.1.f_Kind == 4) with d | d
 {
 have b:=Zk b d
 rcases zo_ (a.1.f_Min == 2) with f | f
 {
 have b:=Zk b f
 rcases zo_ (a.1.f_Max == 2) with g | g
 {
 have b:=Zk b g
 rcases zo_ (h.2 == 3) with j | j
 {
 have b:=Zk b j
 rcases zo_ (l.2 == 8) with m | m
 {
 have b:=Zk b m
 obtain ⟨e,v,b⟩:=Zh b
 rcases zo_ e with n | n
 {
 have b:=Zk b n
 obtain ⟨i,x,b⟩:=Zh b
 rcases zo_ (!i) with p | p
 {
 have b:=Zk b p
 obtain ⟨q,y,b⟩:=Zh b
 obtain ⟨o,z,b⟩:=Zh b
 rcases zo_ o with s | s
 {
 have b:=Zk b s
 obtain ⟨w,a3,b⟩:=Zh b
 obtain ⟨t,a4,b⟩:=Zh b
 rcases zo_ t with u | u
 {
 have b:=Zk b u
 obtain ⟨a2,a8,b⟩:=Zh b
 obtain ⟨a1,a9,b⟩:=Zh b
 refine Wo [(2,.bool true),(7,.bool true),(12,.bool true),(17,.bool true),(21,.bool true),(25,.bool true),(27,.callR [] (ob e)),(29,.bool true),(31,.callR [] (ob i)),(34,.bool true),(35,.callR [] (tv (Zc q))),(36,.callR [] (ob o)),(38,.bool true),(39,.callR [] (tv (Zc w))),(40,.callR [] (ob t)),(42,.bool true),(43,.callR [] (tv (Zc a2))),(44,.callR [] (ob a1))] [(0,ob (!a1))] [] [(a.2 == 0)=true,(a.1.f_Kind == 4)=true,(a.1.f_Min == 2)=true,(a.1.f_Max == 2)=true,(h.2 == 3)=true,(l.2 == 8)=true,SM μ 31 [tv (Zc a.1),one (.str ([97,97]:List UInt8))] [] (ob e) [],([]:List Nat).Nodup,e=true,SM μ 31 [tv (Zc a.1),one (.str ([97]:List UInt8))] [] (ob i) [],([]:List Nat).Nodup,(!i)=true,SM μ 34 [] [] (tv (Zc q)) [],([]:List Nat).Nodup,SM μ 31 [tv (Zc q),one (.str ([120,195,169]:List UInt8))] [] (ob o) [],([]:List Nat).Nodup,o=true,SM μ 33 [one (.str ([97,46,98]:List UInt8))] [] (tv (Zc w)) [],([]:List Nat).Nodup,SM μ 31 [tv (Zc w),one (.str ([97,46,98]:List UInt8))] [] (ob t) [],([]:List Nat).Nodup,t=true,SM μ 33 [one (.str ([97,46,98]:List UInt8))] [] (tv (Zc a2)) [],([]:List Nat).Nodup,SM μ 31 [tv (Zc a2),one (.str ([97,120,98]:List UInt8))] [] (ob a1) [],([]:List Nat).Nodup] ⟨c,d,f,g,j,m,(ZaJ k _ _ _ v),nd,n,(ZaJ k _ _ _ x),nd,p,(Zlj k _ y),nd,(ZaJ k _ _ _ z),nd,s,(Zli k _ _ a3),nd,(ZaJ k _ _ _ a4),nd,u,(Zli k _ _ a8),nd,(ZaJ k _ _ _ a9),nd,trivial⟩ ?_
 exact ⟨(!a1),jk,b⟩ }
 {
 have b:=Zj b u
 refine Wo [(2,.bool true),(7,.bool true),(12,.bool true),(17,.bool true),(21,.bool true),(25,.bool true),(27,.callR [] (ob e)),(29,.bool true),(31,.callR [] (ob i)),(34,.bool true),(35,.callR [] (tv (Zc q))),(36,.callR [] (ob o)),(38,.bool true),(39,.callR [] (tv (Zc w))),(40,.callR [] (ob t)),(42,.bool false)] [(0,ob false)] [] [(a.2 == 0)=true,(a.1.f_Kind == 4)=true,(a.1.f_Min == 2)=true,(a.1.f_Max == 2)=true,(h.2 == 3)=true,(l.2 == 8)=true,SM μ 31 [tv (Zc a.1),one (.str ([97,97]:List UInt8))] [] (ob e) [],([]:List Nat).Nodup,e=true,SM μ 31 [tv (Zc a.1),one (.str ([97]:List UInt8))] [] (ob i) [],([]:List Nat).Nodup,(!i)=true,SM μ 34 [] [] (tv (Zc q)) [],([]:List Nat).Nodup,SM μ 31 [tv (Zc q),one (.str ([120,195,169]:List UInt8))] [] (ob o) [],([]:List Nat).Nodup,o=true,SM μ 33 [one (.str ([97,46,98]:List UInt8))] [] (tv (Zc w)) [],([]:List Nat).Nodup,SM μ 31 [tv (Zc w),one (.str ([97,46,98]:List UInt8))] [] (ob t) [],([]:List Nat).Nodup,t=false] ⟨c,d,f,g,j,m,(ZaJ k _ _ _ v),nd,n,(ZaJ k _ _ _ x),nd,p,(Zlj k _ y),nd,(ZaJ k _ _ _ z),nd,s,(Zli k _ _ a3),nd,(ZaJ k _ _ _ a4),nd,u,trivial⟩ ?_
 exact ⟨false,jk,b⟩ } }
 {
 have b:=Zj b s
 refine Wo [(2,.bool true),(7,.bool true),(12,.bool true),(17,.bool true),(21,.bool true),(25,.bool true),(27,.callR [] (ob e)),(29,.bool true),(31,.callR [] (ob i)),(34,.bool true),(35,.callR [] (tv (Zc q))),(36,.callR [] (ob o)),(38,.bool false)] [(0,ob false)] [] [(a.2 == 0)=true,(a.1.f_Kind == 4)=true,(a.1.f_Min == 2)=true,(a.1.f_Max == 2)=true,(h.2 == 3)=true,(l.2 == 8)=true,SM μ 31 [tv (Zc a.1),one (.str ([97,97]:List UInt8))] [] (ob e) [],([]:List Nat).Nodup,e=true,SM μ 31 [tv (Zc a.1),one (.str ([97]:List UInt8))] [] (ob i) [],([]:List Nat).Nodup,(!i)=true,SM μ 34 [] [] (tv (Zc q)) [],([]:List Nat).Nodup,SM μ 31 [tv (Zc q),one (.str ([120,195,169]:List UInt8))] [] (ob o) [],([]:List Nat).Nodup,o=false] ⟨c,d,f,g,j,m,(ZaJ k _ _ _ v),nd,n,(ZaJ k _ _ _ x),nd,p,(Zlj k _ y),nd,(ZaJ k _ _ _ z),nd,s,trivial⟩ ?_
 exact ⟨false,jk,b⟩ } }
 {
 have b:=Zj b p
 refine Wo [(2,.bool true),(7,.bool true),(12,.bool true),(17,.bool true),(21,.bool true),(25,.bool true),(27,.callR [] (ob e)),(29,.bool true),(31,.callR [] (ob i)),(34,.bool false)] [(0,ob false)] [] [(a.2 == 0)=true,(a.1.f_Kind == 4)=true,(a.1.f_Min == 2)=true,(a.1.f_Max == 2)=true,(h.2 == 3)=true,(l.2 == 8)=true,SM μ 31 [tv (Zc a.1),one (.str ([97,97]:List UInt8))] [] (ob e) [],([]:List Nat).Nodup,e=true,SM μ 31 [tv (Zc a.1),one (.str ([97]:List UInt8))] [] (ob i) [],([]:List Nat).Nodup,(!i)=false] ⟨c,d,f,g,j,m,(ZaJ k _ _ _ v),nd,n,(ZaJ k _ _ _ x),nd,p,trivial⟩ ?_
 exact ⟨false,jk,b⟩ } }
 {
 have b:=Zj b n
 refine Wo [(2,.bool true),(7,.bool true),(12,.bool true),(17,.bool true),(21,.bool true),(25,.bool true),(27,.callR [] (ob e)),(29,.bool false)] [(0,ob false)] [] [(a.2 == 0)=true,(a.1.f_Kind == 4)=true,(a.1.f_Min == 2)=true,(a.1.f_Max == 2)=true,(h.2 == 3)=true,(l.2 == 8)=true,SM μ 31 [tv (Zc a.1),one (.str ([97,97]:List UInt8))] [] (ob e) [],([]:List Nat).Nodup,e=false] ⟨c,d,f,g,j,m,(ZaJ k _ _ _ v),nd,n,trivial⟩ ?_
 exact ⟨false,jk,b⟩ } }
 {
 have b:=Zj b m
 refine Wo [(2,.bool true),(7,.bool true),(12,.bool true),(17,.bool true),(21,.bool true),(25,.bool false)] [(0,ob false)] [] [(a.2 == 0)=true,(a.1.f_Kind == 4)=true,(a.1.f_Min == 2)=true,(a.1.f_Max == 2)=true,(h.2 == 3)=true,(l.2 == 8)=false] ⟨c,d,f,g,j,m,trivial⟩ ?_
 exact ⟨false,jk,b⟩ } }
 {
 have b:=Zj b j
 refine Wo [(2,.bool true),(7,.bool true),(12,.bool true),(17,.bool true),(21,.bool false)] [(0,ob false)] [] [(a.2 == 0)=true,(a.1.f_Kind == 4)=true,(a.1.f_Min == 2)=true,(a.1.f_Max == 2)=true,(h.2 == 3)=false] ⟨c,d,f,g,j,trivial⟩ ?_
 exact ⟨false,jk,b⟩ } }
 {
 have b:=Zj b g
 refine Wo [(2,.bool true),(7,.bool true),(12,.bool true),(17,.bool false)] [(0,ob false)] [] [(a.2 == 0)=true,(a.1.f_Kind == 4)=true,(a.1.f_Min == 2)=true,(a.1.f_Max == 2)=false] ⟨c,d,f,g,trivial⟩ ?_
 exact ⟨false,jk,b⟩ } }
 {
 have b:=Zj b f
 refine Wo [(2,.bool true),(7,.bool true),(12,.bool false)] [(0,ob false)] [] [(a.2 == 0)=true,(a.1.f_Kind == 4)=true,(a.1.f_Min == 2)=false] ⟨c,d,f,trivial⟩ ?_
 exact ⟨false,jk,b⟩ } }
 {
 have b:=Zj b d
 refine Wo [(2,.bool true),(7,.bool false)] [(0,ob false)] [] [(a.2 == 0)=true,(a.1.f_Kind == 4)=false] ⟨c,d,trivial⟩ ?_
 exact ⟨false,jk,b⟩ } }
 {
 have b:=Zj b c
 refine Wo [(2,.bool false)] [(0,ob false)] [] [(a.2 == 0)=false] ⟨c,trivial⟩ ?_
 exact ⟨false,jk,b⟩ } }
end Go.Proofs.YthilboheomikjaaGreatDoor
end
section
namespace Go.Proofs.YthilboheomikjaaGreatDoor
open Go.AL Go.Lib
set_option maxRecDepth 100000
theorem Znt:∀(n:Nat) (s:List UInt8),s.length≤n→(pts s).length≤s.length∧(s≠[]→0<(pts s).length)
  | n,s,hn=>by
    by_cases e:s=[]
    · subst e;exact ⟨Nat.le_refl _,fun h=>absurd rfl h⟩
    · have hl:0<s.length:=List.length_pos_iff.2 e
      have hw:=decodeL_width s
      have hle:=decodeL_le s e
      obtain ⟨n,rfl⟩:∃q,n=q+1:=⟨n-1,by omega⟩
      have ih:=Znt n (s.drop (decodeL s).2) (by rw [List.length_drop];omega)
      rw [ZdQ e]
      simp only [List.length_cons]
      have:=ih.1
      rw [List.length_drop] at this
      exact ⟨by omega,fun _=>by omega⟩
end Go.Proofs.YthilboheomikjaaGreatDoor
namespace Go.Proofs.YthilboheomikjaaGreatDoor.Pure
open Go.AL
end Go.Proofs.YthilboheomikjaaGreatDoor.Pure
end
section
namespace Go.Proofs.YthilboheomikjaaGreatDoor
open Go.AL Go.Lib
set_option maxRecDepth 100000
def span (cs:List Int) (i j:Nat):List Int:=(cs.drop i).take (j-i)
theorem Zig {cs:List Int} {i j:Nat} (h:i≤j) (hj:j≤cs.length):(span cs i j).length=j-i:=by
  unfold span;rw [List.length_take,List.length_drop];omega
theorem ZjG {cs:List Int} {i j:Nat} {u v:List Int} (h:i≤j) (hj:j≤cs.length):span cs i j=u ++ v↔∃m,i≤m∧m≤j∧u=span cs i m∧v=span cs m j:=by
  constructor
  · intro e
    have hl:=Zig h hj
    rw [e,List.length_append] at hl
    refine ⟨i+u.length,by omega,by omega,?_,?_⟩
    · have h2:(span cs i j).take u.length=span cs i (i+u.length):=by
        unfold span
        rw [List.take_take]
        congr 1
        omega
      rw [←h2,e]
      simp
    · have:(span cs i j).drop u.length=v:=by rw [e];simp
      rw [←this]
      unfold span
      rw [List.drop_take,List.drop_drop]
      congr 1
      omega
  · rintro ⟨m,h1,h2,rfl,rfl⟩
    unfold span
    have e1:cs.drop m=(cs.drop i).drop (m-i):=by rw [List.drop_drop];congr 1;omega
    rw [e1,←List.take_append_drop (m-i) ((cs.drop i).take (j-i)),List.take_take,List.drop_take]
    congr 2
    · omega
    · omega
def Rl (P:List Int→Prop) (cs:List Int) (i j:Nat):Prop:=i≤j∧j≤cs.length∧P (span cs i j)
theorem ZiZ {P Q:List Int→Prop} {cs:List Int} {i j:Nat}:Rl (Cat P Q) cs i j↔∃m,Rl P cs i m∧Rl Q cs m j:=by
  constructor
  · rintro ⟨h1,h2,u,v,e,hu,hv⟩
    obtain ⟨m,m1,m2,rfl,rfl⟩:=(ZjG h1 h2).1 e
    exact ⟨m,⟨m1,by omega,hu⟩,m2,h2,hv⟩
  · rintro ⟨m,⟨h1,h2,h3⟩,h4,h5,h6⟩
    exact ⟨by omega,h5,_,_,(ZjG (by omega) h5).2 ⟨m,h1,h4,rfl,rfl⟩,h3,h6⟩
theorem Zi0 {cs:List Int} {i j:Nat}:Rl (fun w=>w=[]) cs i j↔i=j∧j≤cs.length:=by
  constructor
  · rintro ⟨h1,h2,h3⟩
    have:=Zig h1 h2
    rw [h3] at this
    simp at this
    omega
  · rintro ⟨rfl,h⟩
    exact ⟨Nat.le_refl _,h,by simp [span]⟩
theorem ZlB {P:Int→Prop} {cs:List Int} {i j:Nat}:Rl (fun w=>∃c,w=[c]∧P c) cs i j↔∃c,cs[i]?=some c∧P c∧j=i+1:=by
  constructor
  · rintro ⟨h1,h2,c,h3,h4⟩
    have hl:=Zig h1 h2
    rw [h3] at hl
    simp at hl
    obtain rfl:j=i+1:=by omega
    refine ⟨c,?_,h4,rfl⟩
    unfold span at h3
    have:((cs.drop i).take (i+1-i))[0]?=some c:=by rw [h3];rfl
    rw [List.getElem?_take,if_pos (by omega),List.getElem?_drop] at this
    exact this
  · rintro ⟨c,h1,h2,rfl⟩
    have h3:=(List.getElem?_eq_some_iff.1 h1).1
    refine ⟨by omega,by omega,c,?_,h2⟩
    unfold span
    have:i+1-i=1:=by omega
    rw [this,List.drop_eq_getElem_cons h3,List.take_succ_cons,List.take_zero,(List.getElem?_eq_some_iff.1 h1).2]
theorem ZdH {P Q:List Int→Prop} (h:∀w,P w↔Q w) {cs:List Int} {i j:Nat}:Rl P cs i j↔Rl Q cs i j:=by unfold Rl;rw [h]
def Ends (P:List Int→Prop) (cs:List Int) (f o:List Bool):Prop:=o.length=cs.length+1∧∀j,Sn o j↔∃i,Sn f i∧Rl P cs i j
theorem Ends.congr {P Q:List Int→Prop} {cs:List Int} {f o:List Bool} (h:Ends P cs f o) (e:∀w,P w↔Q w):Ends Q cs f o:=
  ⟨h.1,fun j=>(h.2 j).trans ⟨fun ⟨i,a,b⟩=>⟨i,a,(ZdH e).1 b⟩,fun ⟨i,a,b⟩=>⟨i,a,(ZdH e).2 b⟩⟩⟩
theorem Ends.comp {P Q:List Int→Prop} {cs:List Int} {f g o:List Bool} (h:Ends P cs f g) (h2:Ends Q cs g o):Ends (Cat P Q) cs f o:=
  ⟨h2.1,fun j=>by
    rw [h2.2]
    constructor
    · rintro ⟨m,a,b⟩
      obtain ⟨i,c,d⟩:=(h.2 m).1 a
      exact ⟨i,c,ZiZ.2 ⟨m,d,b⟩⟩
    · rintro ⟨i,c,d⟩
      obtain ⟨m,e1,e2⟩:=ZiZ.1 d
      exact ⟨m,(h.2 m).2 ⟨i,c,e1⟩,e2⟩⟩
theorem ZjC {s:List Bool} {j:Nat} (h:Sn s j):j<s.length:=(List.getElem?_eq_some_iff.1 h).1
theorem Ends.eps {cs:List Int} {f:List Bool} (h:f.length=cs.length+1):Ends (fun w=>w=[]) cs f f:=
  ⟨h,fun j=>⟨fun hj=>⟨j,hj,Zi0.2 ⟨rfl,by have:=ZjC hj;omega⟩⟩,fun ⟨i,a,b⟩=>by rw [←(Zi0.1 b).1];exact a⟩⟩
theorem Zhz {s:List Bool} {i j:Nat} {b:Bool} (hi:i<s.length):Sn (s.set i b) j↔(j=i∧b=true)∨(j≠i∧Sn s j):=by
  unfold Sn
  rw [List.getElem?_set]
  by_cases h:i=j
  · subst h
    rw [if_pos rfl,if_pos hi]
    simp
  · rw [if_neg h]
    have h':j≠i:=fun e=>h e.symm
    simp [h']
theorem Zni {st:List Zb} {c:Int} (hl:st.length≤1048576):∀(l:List Zb) (i m:Nat),st.drop i=l→l.length<m→i≤st.length→∃t,ZeX st c m (i:Int)=some t∧(t=true↔inR l c)
  | [],i,m,hd,hm,hi=>by
    obtain ⟨m,rfl⟩:∃q,m=q+1:=⟨m-1,by simp at hm;omega⟩
    have:=ZP hd
    refine ⟨false,?_,by simp [Zai]⟩
    show ZeW _ _ _ _=_
    unfold ZeW
    rw [df (by omega),zf_]
  | x :: l,i,m,hd,hm,hi=>by
    obtain ⟨m,rfl⟩:∃q,m=q+1:=⟨m-1,by omega⟩
    obtain ⟨g1,g2,g3⟩:=ZA hd
    rw [List.length_cons] at hm
    obtain ⟨t2,e2,p2⟩:=Zni hl l (i+1) m g3 (by omega) (by omega)
    show ∃t,ZeW (ZeX st c m) st c (i:Int)=_∧_
    unfold ZeW ZiJ
    rw [dt (by omega),zt_,Zx,g2,zb_,ZM,ZR (by omega),e2]
    by_cases h1:x.f_Lo≤c
    · rw [dt h1,zt_,zb_]
      by_cases h2:c≤x.f_Hi
      · rw [dt h2,zt_];exact ⟨true,rfl,by simp [h1,h2]⟩
      · rw [df h2,zf_];exact ⟨t2,rfl,by rw [p2];simp [h2]⟩
    · rw [df h1,zf_,zf_];exact ⟨t2,rfl,by rw [p2];simp [h1]⟩
theorem Zsl {k:Nat} {st:List Zb} {c:Int} (hl:st.length≤1048576) (hk:st.length<k):∃t,F68 k st c=some t∧(t=true↔inR st c):=Zni hl st 0 k rfl hk (Nat.zero_le _)
theorem Znr {b:List Bool} {n:Nat} (hb:b.length=n) (hn:n≤1048576):∀(m i:Nat) (acc:List Bool) (fr:Bool),acc.length=n→i≤n→n-i<m→
    ∃fr' o,Zca b m acc fr (i:Int)=some (fr',o)∧o.length=n∧(∀j,Sn o j↔Sn acc j∨(i≤j∧Sn b j))∧(fr'=true↔fr=true∨∃j,i≤j∧Sn b j∧¬Sn acc j)
  | 0,i,acc,fr,_,_,hm=>by omega
  | m+1,i,acc,fr,ha,hi,hm=>by
    show ∃fr' o,ZiK (Zca b m) b acc fr (i:Int)=_∧_
    unfold ZiK
    by_cases h:i<n
    · rw [dt (by omega),zt_]
      obtain ⟨x,hx⟩:∃x,acc[i]?=some x:=⟨_,List.getElem?_eq_getElem (by omega)⟩
      obtain ⟨y,hy⟩:∃y,b[i]?=some y:=⟨_,List.getElem?_eq_getElem (by omega)⟩
      have e5:∀f:Bool,ZdE (Zca b m) b acc (i:Int) f=Zca b m (acc.set i (x || y)) f ((i+1:Nat):Int):=fun f=>by
        unfold ZdE ZiL
        rw [if_pos ⟨by omega,by omega⟩,Zx,hx,zb_,ZR (by omega)]
        cases x
        · rw [zf_,Zx,hy,zb_,if_pos ⟨by omega,by omega⟩,zb_]
          rfl
        · rw [zt_,if_pos ⟨by omega,by omega⟩,zb_]
          rfl
      have hset:(acc.set i (x || y)).length=n:=by rw [List.length_set];exact ha
      have sx:Sn acc i↔x=true:=by unfold Sn;rw [hx];simp
      have sy:Sn b i↔y=true:=by unfold Sn;rw [hy];simp
      have sset:∀j,Sn (acc.set i (x || y)) j↔Sn acc j∨(j=i∧Sn b j):=fun j=>by
        rw [Zhz (by omega)]
        by_cases hj:j=i
        · subst hj;rw [sx,sy];simp
        · simp [hj]
      have go:∀f:Bool,(f=true↔fr=true∨(y=true∧x=false))→∃fr' o,ZdE (Zca b m) b acc (i:Int) f=some (fr',o)∧o.length=n∧(∀j,Sn o j↔Sn acc j∨(i≤j∧Sn b j))∧(fr'=true↔fr=true∨∃j,i≤j∧Sn b j∧¬Sn acc j):=fun f hf=>by
        obtain ⟨fr',o,e1,h1,h2,h3⟩:=Znr hb hn m (i+1) (acc.set i (x || y)) f hset (by omega) (by omega)
        refine ⟨fr',o,by rw [e5,e1],h1,fun j=>?_,?_⟩
        · rw [h2,sset]
          constructor
          · rintro ((h9 | ⟨h8,h9⟩) | ⟨h8,h9⟩)
            · exact .inl h9
            · exact .inr ⟨by omega,h9⟩
            · exact .inr ⟨by omega,h9⟩
          · rintro (h | ⟨h,h'⟩)
            · exact .inl (.inl h)
            · by_cases hj:j=i
              · exact .inl (.inr ⟨hj,h'⟩)
              · exact .inr ⟨by omega,h'⟩
        · rw [h3,hf]
          constructor
          · rintro ((h | ⟨a1,a2⟩) | ⟨j,a1,a2,a3⟩)
            · exact .inl h
            · exact .inr ⟨i,Nat.le_refl _,sy.2 a1,by rw [sx,a2];simp⟩
            · exact .inr ⟨j,by omega,a2,fun h=>a3 ((sset j).2 (.inl h))⟩
          · rintro (h | ⟨j,a1,a2,a3⟩)
            · exact .inl (.inl h)
            · by_cases hj:j=i
              · subst hj
                rw [sx] at a3
                exact .inl (.inr ⟨sy.1 a2,by simpa using a3⟩)
              · refine .inr ⟨j,by omega,a2,fun h=>?_⟩
                rcases (sset j).1 h with h | ⟨h,_⟩
                · exact a3 h
                · exact hj h
      cases fr
      · rw [zf_,Zx,hy,zb_]
        cases y
        · rw [zf_];exact go false (by simp)
        · rw [zt_,if_pos ⟨by omega,by omega⟩,Zx,hx,zb_];exact go _ (by cases x <;> simp)
      · rw [zt_];exact go true (by simp)
    · rw [df (by omega),zf_]
      obtain rfl:i=n:=by omega
      exact ⟨fr,acc,rfl,ha,fun j=>⟨.inl,fun h=>h.elim id (fun ⟨h,h'⟩=>by have:=ZjC h';omega)⟩,⟨.inl,fun h=>h.elim id (fun ⟨j,h,h',_⟩=>by have:=ZjC h';omega)⟩⟩
theorem Zn0 {k:Nat} {a b:List Bool} (hab:b.length=a.length) (hn:a.length≤1048576) (hk:a.length<k) :
    ∃fr o,F69 k a b=some (fr,o)∧o.length=a.length∧(∀j,Sn o j↔Sn a j∨Sn b j)∧(fr=true↔∃j,Sn b j∧¬Sn a j):=by
  obtain ⟨fr,o,e,h1,h2,h3⟩:=Znr hab hn k 0 a false rfl (Nat.zero_le _) (by omega)
  refine ⟨fr,o,e,h1,fun j=>by rw [h2];simp,by rw [h3];simp⟩
theorem ZlT {k:Nat} {v:Zd} {cs:List Int} {f:List Bool} (hs:v.f_Set.length≤1048576) (hk:v.f_Set.length<k) (hc:cs.length≤1048576) (hf:f.length=cs.length+1):∀(m i:Nat) (acc:List Bool),acc.length=cs.length+1→i≤cs.length→cs.length-i<m→
    (∀j,Sn acc j↔∃t,t<i∧Sn f t∧Rl (fun w=>∃c,w=[c]∧inR v.f_Set c) cs t j)→∃o,Zb8 k v cs f m acc (i:Int)=some o∧Ends (fun w=>∃c,w=[c]∧inR v.f_Set c) cs f o
  | 0,i,acc,_,_,hm,_=>by omega
  | m+1,i,acc,ha,hi,hm,hacc=>by
    show ∃o,Ziv k (Zb8 k v cs f m) v cs f acc (i:Int)=_∧_
    unfold Ziv
    by_cases h:i<cs.length
    · rw [dt (by omega),zt_]
      obtain ⟨x,hx⟩:∃x,f[i]?=some x:=⟨_,List.getElem?_eq_getElem (by omega)⟩
      obtain ⟨c,hcc⟩:∃c,cs[i]?=some c:=⟨_,List.getElem?_eq_getElem (by omega)⟩
      have sx:Sn f i↔x=true:=by unfold Sn;rw [hx];simp
      obtain ⟨z,hz⟩:∃z,acc[i+1]?=some z:=⟨_,List.getElem?_eq_getElem (by omega)⟩
      have go:∀b:Bool,(b=true↔x=true∧inR v.f_Set c)→∃o,Zb8 k v cs f m (acc.set (i+1) b) ((i+1:Nat):Int)=some o∧Ends (fun w=>∃c,w=[c]∧inR v.f_Set c) cs f o:=fun b hb=>by
        refine ZlT hs hk hc hf m (i+1) (acc.set (i+1) b) (by rw [List.length_set];exact ha) (by omega) (by omega) fun j=>?_
        rw [Zhz (by omega),hacc]
        constructor
        · rintro (⟨h1,h2⟩ | ⟨h1,t,h2,h3,h4⟩)
          · subst h1
            obtain ⟨g1,g2⟩:=hb.1 h2
            exact ⟨i,by omega,sx.2 g1,ZlB.2 ⟨c,hcc,g2,rfl⟩⟩
          · exact ⟨t,by omega,h3,h4⟩
        · rintro ⟨t,h2,h3,h4⟩
          obtain ⟨c',e1,e2,e3⟩:=ZlB.1 h4
          by_cases ht:t=i
          · subst ht
            rw [hcc] at e1
            obtain rfl:=zj_ e1
            exact .inl ⟨e3,hb.2 ⟨sx.1 h3,e2⟩⟩
          · exact .inr ⟨by omega,t,by omega,h3,h4⟩
      rw [Zx,hx,zb_,ZR (by omega)]
      have ei:∀b,((if (0:Int)≤((i+1:Nat):Int)∧((i+1:Nat):Int)<(acc.length:Int) then (idxL acc ((i+1:Nat):Int)).bind fun _=>Zf0 (Zb8 k v cs f m) (i:Int) (acc.set (Int.toNat ((i+1:Nat):Int)) b) else none))=Zb8 k v cs f m (acc.set (i+1) b) ((i+1:Nat):Int):=fun b=>by
        rw [if_pos ⟨by omega,by omega⟩,Zx,hz,zb_,Int.toNat_natCast]
        unfold Zf0
        rw [ZR (by omega)]
      cases x
      · rw [zf_,ei];exact go false (by simp)
      · obtain ⟨t,e,p⟩:=Zsl (k:=k) (c:=c) hs hk
        rw [zt_,Zx,hcc,zb_,e,zb_,ei]
        exact go t (by rw [p];simp)
    · rw [df (by omega),zf_]
      obtain rfl:i=cs.length:=by omega
      refine ⟨acc,rfl,ha,fun j=>(hacc j).trans ⟨fun ⟨t,_,a,b⟩=>⟨t,a,b⟩,fun ⟨t,a,b⟩=>⟨t,?_,a,b⟩⟩⟩
      obtain ⟨c',e1,_,_⟩:=ZlB.1 b
      exact (List.getElem?_eq_some_iff.1 e1).1
def Zek (R:Zd→List Int→List Bool→Option (List Bool)) (cs:List Int) (x:Zd):Prop:=∀g:List Bool,g.length=cs.length+1→∃o,R x cs g=some o∧Ends (Lang x) cs g o
theorem ZlS {R:Zd→List Int→List Bool→Option (List Bool)} {v:Zd} {cs:List Int} {f:List Bool} (hl:v.f_L.length≤1048576) (hc:cs.length≤1048576) (hR:∀x∈v.f_L,Zek R cs x):∀(l:List Zd) (g:List Bool) (i m:Nat),v.f_L.drop i=l→l.length<m→i≤v.f_L.length→g.length=cs.length+1→
    ∃o,ZeK R v cs f m g (i:Int)=some o∧Ends (LSeq l) cs g o
  | [],g,i,m,hd,hm,hi,hg=>by
    obtain ⟨m,rfl⟩:∃q,m=q+1:=⟨m-1,by simp at hm;omega⟩
    have:=ZP hd
    refine ⟨g,?_,(Ends.eps hg).congr fun w=>by simp only [LSeq]⟩
    show ZeI _ _ _ _ _ _ _=_
    unfold ZeI
    rw [df (by omega),zf_,if_pos ⟨by omega,by omega⟩,if_pos (by simp;omega)]
    rfl
  | x :: l,g,i,m,hd,hm,hi,hg=>by
    obtain ⟨m,rfl⟩:∃q,m=q+1:=⟨m-1,by omega⟩
    obtain ⟨g1,g2,g3⟩:=ZA hd
    rw [List.length_cons] at hm
    obtain ⟨h,e1,E1⟩:=hR x (List.mem_of_getElem? g2) g hg
    obtain ⟨o,e2,E2⟩:=ZlS (f:=f) hl hc hR l h (i+1) m g3 (by omega) (by omega) E1.1
    refine ⟨o,?_,(E1.comp E2).congr fun w=>by simp only [LSeq,Cat]⟩
    show ZeI R (ZeK R v cs f m) v cs f g (i:Int)=_
    unfold ZeI
    rw [dt (by omega),zt_,Zx,g2,zb_,e1,zb_,ZR (by omega),e2]
theorem ZlP {R:Zd→List Int→List Bool→Option (List Bool)} {k:Nat} {v:Zd} {cs:List Int} {f:List Bool} (hl:v.f_L.length≤1048576) (hc:cs.length≤100000) (hk:cs.length+1<k) (hf:f.length=cs.length+1) (hR:∀x∈v.f_L,Zek R cs x):∀(l:List Zd) (acc:List Bool) (i m:Nat),v.f_L.drop i=l→l.length<m→i≤v.f_L.length→acc.length=cs.length+1→
    ∃o,ZeJ R k v cs f m acc (i:Int)=some o∧o.length=cs.length+1∧∀j,Sn o j↔Sn acc j∨∃i,Sn f i∧Rl (LAlt l) cs i j
  | [],acc,i,m,hd,hm,hi,ha=>by
    obtain ⟨m,rfl⟩:∃q,m=q+1:=⟨m-1,by simp at hm;omega⟩
    have:=ZP hd
    refine ⟨acc,?_,ha,fun j=>⟨.inl,fun h=>h.elim id (fun ⟨_,_,_,_,h⟩=>by simp only [LAlt] at h)⟩⟩
    show ZeH _ _ _ _ _ _ _ _=_
    unfold ZeH
    rw [df (by omega),zf_]
  | x :: l,acc,i,m,hd,hm,hi,ha=>by
    obtain ⟨m,rfl⟩:∃q,m=q+1:=⟨m-1,by omega⟩
    obtain ⟨g1,g2,g3⟩:=ZA hd
    rw [List.length_cons] at hm
    obtain ⟨h,e1,E1⟩:=hR x (List.mem_of_getElem? g2) f hf
    obtain ⟨fr,o1,e2,l2,s2,_⟩:=Zn0 (k:=k) (a:=acc) (b:=h) (by rw [E1.1,ha]) (by omega) (by omega)
    obtain ⟨o,e3,l3,s3⟩:=ZlP hl hc hk hf hR l o1 (i+1) m g3 (by omega) (by omega) (by omega)
    refine ⟨o,?_,l3,fun j=>?_⟩
    · show ZeH R k (ZeJ R k v cs f m) v cs f acc (i:Int)=_
      unfold ZeH
      rw [dt (by omega),zt_,Zx,g2,zb_,e1,zb_,e2,zb_,if_pos l2,ZR (by omega),e3]
    · rw [s3,s2,E1.2]
      have:∀i,Rl (LAlt (x :: l)) cs i j↔Rl (Lang x) cs i j∨Rl (LAlt l) cs i j:=fun i=>by
        unfold Rl;simp only [LAlt]
        constructor
        · rintro ⟨a,b,c | c⟩
          · exact .inl ⟨a,b,c⟩
          · exact .inr ⟨a,b,c⟩
        · rintro (⟨a,b,c⟩ | ⟨a,b,c⟩)
          · exact ⟨a,b,.inl c⟩
          · exact ⟨a,b,.inr c⟩
      constructor
      · rintro ((h | ⟨i,a,b⟩) | ⟨i,a,b⟩)
        · exact .inl h
        · exact .inr ⟨i,a,(this i).2 (.inl b)⟩
        · exact .inr ⟨i,a,(this i).2 (.inr b)⟩
      · rintro (h | ⟨i,a,b⟩)
        · exact .inl (.inl h)
        · rcases (this i).1 b with b | b
          · exact .inl (.inr ⟨i,a,b⟩)
          · exact .inr ⟨i,a,b⟩
theorem ZqV {P:List Int→Prop} (w:List Int):Pow P 1 w↔P w:=by
  constructor
  · rintro ⟨u,v,rfl,h,h2⟩
    have h2:v=[]:=h2
    rw [h2,List.append_nil];exact h
  · exact fun h=>⟨w,[],by simp,h,rfl⟩
theorem ZlA {P:List Int→Prop} (n:Nat) (w:List Int):Cat (Pow P n) P w↔Pow P (n+1) w:=by
  rw [←ZqU n 1 w]
  unfold Cat
  simp only [ZqV]
def St (P:List Int→Prop) (cs:List Int) (f:List Bool) (n j:Nat):Prop:=∃i,Sn f i∧Rl (Pow P n) cs i j
theorem Zhl {P:List Int→Prop} {cs:List Int} {f:List Bool} {n j:Nat}:St P cs f (n+1) j↔∃m,St P cs f n m∧Rl P cs m j:=by
  unfold St
  constructor
  · rintro ⟨i,a,b⟩
    obtain ⟨m,c,d⟩:=ZiZ.1 ((ZdH fun w=>(ZlA n w).symm).1 b)
    exact ⟨m,⟨i,a,c⟩,d⟩
  · rintro ⟨m,⟨i,a,c⟩,d⟩
    exact ⟨i,a,(ZdH fun w=>ZlA n w).1 (ZiZ.2 ⟨m,c,d⟩)⟩
theorem ZpG {a o:List Bool} (hl:o.length=a.length) (h:∀j,Sn a j→Sn o j) (hf:∃j,Sn o j∧¬Sn a j):o.count false<a.count false:=by
  induction a generalizing o with
  | nil=>
    obtain ⟨j,h1,h2⟩:=hf
    have:=ZjC h1
    rw [hl] at this
    simp at this
  | cons x a ih=>
    cases o with
    | nil=>simp at hl
    | cons y o=>
      have hl':o.length=a.length:=by simpa using hl
      have h0:x=true→y=true:=fun e=>by have:=h 0;unfold Sn at this;simp at this;exact this e
      have hs:∀j,Sn a j→Sn o j:=fun j hj=>by have:=h (j+1);unfold Sn at this hj ⊢;simpa using this (by simpa using hj)
      have hle:o.count false≤a.count false:=by
        by_cases h3:∃j,Sn o j∧¬Sn a j
        · exact Nat.le_of_lt (ih hl' hs h3)
        · have:o=a:=by
            apply List.ext_getElem?
            intro j
            by_cases hj:j<a.length
            · have h4:¬(Sn o j∧¬Sn a j):=fun c=>h3 ⟨j,c⟩
              have h5:=hs j
              unfold Sn at h4 h5
              rw [List.getElem?_eq_getElem hj,List.getElem?_eq_getElem (by omega:j<o.length)] at h4 h5 ⊢
              cases hx:a[j] <;> cases hy:o[j] <;> simp_all
            · rw [List.getElem?_eq_none (by omega),List.getElem?_eq_none (by omega)]
          rw [this];exact Nat.le_refl _
      obtain ⟨j,h1,h2⟩:=hf
      cases j with
      | zero=>
        unfold Sn at h1 h2
        simp at h1 h2
        subst h1;subst h2
        simp;omega
      | succ j=>
        have h3:=ih hl' hs ⟨j,by unfold Sn at h1 ⊢;simpa using h1,by unfold Sn at h2 ⊢;simpa using h2⟩
        cases x <;> cases y <;> simp_all
        omega
theorem ZlR {R:Zd→List Int→List Bool→Option (List Bool)} {k:Nat} {v x:Zd} {cs:List Int} {f:List Bool} {a:Nat} (hc:cs.length≤100000) (hk:cs.length+1<k) (hx:idxL v.f_L 0=some x) (hR:Zek R cs x) (hmx:v.f_Max<0∨(a:Int)≤v.f_Max) :
    ∀(m:Nat) (o now:List Bool) (kk:Nat),o.length=cs.length+1→now.length=cs.length+1→o.count false<m→kk+m≤1000000000→a≤kk→(v.f_Max<0∨(kk:Int)≤v.f_Max)→(∀j,Sn now j↔St (Lang x) cs f kk j)→(∀j,Sn o j↔∃n,a≤n∧n≤kk∧St (Lang x) cs f n j)→
    ∃o',ZeM R k v cs m o now (kk:Int)=some o'∧o'.length=cs.length+1∧∀j,Sn o' j↔∃n:Nat,a≤n∧(v.f_Max<0∨(n:Int)≤v.f_Max)∧St (Lang x) cs f n j
  | 0,o,now,kk,_,_,hm,_,_,_,_,_=>by omega
  | m+1,o,now,kk,ho,hn,hm,hkm,hak,hkx,hnow,hout=>by
    show ∃o',Zix R k (ZeM R k v cs m) v cs o now (kk:Int)=_∧_
    unfold Zix Ziy
    by_cases he:(kk:Int)=v.f_Max
    · rw [show ((kk:Int) != v.f_Max)=false by simp [he],zf_]
      refine ⟨o,rfl,ho,fun j=>(hout j).trans ⟨fun ⟨n,h1,h2,h3⟩=>⟨n,h1,.inr (by omega),h3⟩,fun ⟨n,h1,h2,h3⟩=>⟨n,h1,by omega,h3⟩⟩⟩
    · rw [show ((kk:Int) != v.f_Max)=true by simp [he],zt_,hx,zb_]
      obtain ⟨nx,e1,E1⟩:=hR now hn
      obtain ⟨fr,o1,e2,l2,s2,f2⟩:=Zn0 (k:=k) (a:=o) (b:=nx) (by rw [E1.1,ho]) (by omega) (by omega)
      have hnx:∀j,Sn nx j↔St (Lang x) cs f (kk+1) j:=fun j=>by
        rw [E1.2,Zhl]
        exact ⟨fun ⟨i,a,b⟩=>⟨i,(hnow i).1 a,b⟩,fun ⟨i,a,b⟩=>⟨i,(hnow i).2 a,b⟩⟩
      have ho1:∀j,Sn o1 j↔∃n,a≤n∧n≤kk+1∧St (Lang x) cs f n j:=fun j=>by
        rw [s2,hout,hnx]
        constructor
        · rintro (⟨n,h1,h2,h3⟩ | h)
          · exact ⟨n,h1,by omega,h3⟩
          · exact ⟨kk+1,by omega,Nat.le_refl _,h⟩
        · rintro ⟨n,h1,h2,h3⟩
          by_cases h4:n=kk+1
          · subst h4;exact .inr h3
          · exact .inl ⟨n,h1,by omega,h3⟩
      rw [e1,zb_,e2,zb_,if_pos l2]
      cases fr
      · rw [Bool.not_false,zt_]
        have old:∀j,Sn nx j→Sn o j:=fun j h=>Classical.byContradiction fun c=>by have:=f2.2 ⟨j,h,c⟩;cases this
        have all:∀(n:Nat),a≤n→∀j,St (Lang x) cs f n j→Sn o j:=fun n=>by
          induction n with
          | zero=>exact fun h1 j h3=>(hout j).2 ⟨0,h1,by omega,h3⟩
          | succ n ih=>
            intro h1 j h3
            by_cases h4:n+1≤kk
            · exact (hout j).2 ⟨n+1,h1,h4,h3⟩
            · by_cases h5:a≤n
              · obtain ⟨i,g1,g2⟩:=Zhl.1 h3
                obtain ⟨n',q1,q2,q3⟩:=(hout i).1 (ih h5 i g1)
                have q4:St (Lang x) cs f (n'+1) j:=Zhl.2 ⟨i,q3,g2⟩
                by_cases h6:n'=kk
                · subst h6;exact old j ((hnx j).2 q4)
                · exact (hout j).2 ⟨n'+1,by omega,by omega,q4⟩
              · have:n+1=kk+1:=by omega
                rw [this] at h3
                exact old j ((hnx j).2 h3)
        refine ⟨o1,rfl,by omega,fun j=>?_⟩
        rw [ho1]
        constructor
        · rintro ⟨n,h1,h2,h3⟩
          obtain ⟨n',q1,q2,q3⟩:=(hout j).1 (all n h1 j h3)
          exact ⟨n',q1,by omega,q3⟩
        · rintro ⟨n,h1,h2,h3⟩
          obtain ⟨n',q1,q2,q3⟩:=(hout j).1 (all n h1 j h3)
          exact ⟨n',q1,by omega,q3⟩
      · rw [Bool.not_true,zf_,ZR (by omega)]
        have hcnt:=ZpG l2 (fun j h=>(s2 j).2 (.inl h)) (by obtain ⟨j,h1,h2⟩:=f2.1 rfl;exact ⟨j,(s2 j).2 (.inr h1),h2⟩)
        exact ZlR hc hk hx hR hmx m o1 nx (kk+1) (by omega) E1.1 (by omega) (by omega) (by omega) (by omega) hnx ho1
theorem Zhy (n j:Nat):¬Sn (List.replicate n false) j:=ZjD n j
theorem ZlQ {R:Zd→List Int→List Bool→Option (List Bool)} {k:Nat} {v x:Zd} {cs:List Int} {f:List Bool} {a:Nat} (hc:cs.length≤100000) (hk:cs.length+2<k) (hk2:k≤1048576) (hx:idxL v.f_L 0=some x) (hR:Zek R cs x) (hf:f.length=cs.length+1) (ha:v.f_Min=(a:Int)) (ha2:a≤20) (hmx:v.f_Max<0∨(a:Int)≤v.f_Max) :
    ∀(m:Nat) (now:List Bool) (kk:Nat),now.length=cs.length+1→a-kk<m→kk≤a→(∀j,Sn now j↔St (Lang x) cs f kk j)→
    ∃o',ZeL R k v cs f m now (kk:Int)=some o'∧o'.length=cs.length+1∧∀j,Sn o' j↔∃n:Nat,a≤n∧(v.f_Max<0∨(n:Int)≤v.f_Max)∧St (Lang x) cs f n j
  | 0,now,kk,_,hm,_,_=>by omega
  | m+1,now,kk,hn,hm,hka,hnow=>by
    show ∃o',Ziw R k (ZeL R k v cs f m) v cs f now (kk:Int)=_∧_
    unfold Ziw
    by_cases h:kk<a
    · obtain ⟨nx,e1,E1⟩:=hR now hn
      rw [ha,dt (by omega),zt_,hx,zb_,e1,zb_,ZR (by omega)]
      refine ZlQ hc hk hk2 hx hR hf ha ha2 hmx m nx (kk+1) E1.1 (by omega) (by omega) fun j=>?_
      rw [E1.2,Zhl]
      exact ⟨fun ⟨i,a,b⟩=>⟨i,(hnow i).1 a,b⟩,fun ⟨i,a,b⟩=>⟨i,(hnow i).2 a,b⟩⟩
    · obtain rfl:kk=a:=by omega
      have er:(List.replicate (Int.toNat (f.length:Int)) false).length=cs.length+1:=by rw [List.length_replicate,Int.toNat_natCast,hf]
      obtain ⟨fr,o1,e2,l2,s2,_⟩:=Zn0 (k:=k) (a:=List.replicate (Int.toNat (f.length:Int)) false) (b:=now) (by rw [er,hn]) (by omega) (by omega)
      rw [ha,df (by omega),zf_,e2,zb_,if_pos l2]
      have hcnt:o1.count false≤o1.length:=List.count_le_length
      refine ZlR (f:=f) (a:=kk) hc (by omega) hx hR hmx k o1 now kk (by omega) hn (by omega) (by omega) (Nat.le_refl _) hmx hnow fun j=>?_
      rw [s2,hnow]
      constructor
      · rintro (h | h)
        · exact absurd h (Zhy _ _)
        · exact ⟨kk,Nat.le_refl _,Nat.le_refl _,h⟩
      · rintro ⟨n,h1,h2,h3⟩
        obtain rfl:n=kk:=by omega
        exact .inr h3
theorem Zne {cs:List Int} (hc:cs.length≤100000):∀(k:Nat) (r:Zd),k≤1048576→WF r→fs r+cs.length≤k→Zek (F45 k) cs r
  | 0,⟨kd,st,l,a,b⟩,_,_,hf=>by simp only [fs] at hf;omega
  | k+1,⟨kd,st,l,a,b⟩,hk,hw,hfu=>by
    intro f hf
    simp only [fs] at hfu
    obtain ⟨⟨hkd,h4,hst,hll⟩,hwl⟩:=hw
    simp only [] at hkd h4 hst hll
    have hR:∀x∈l,Zek (F45 k) cs x:=fun x hx=>Zne hc k x (by omega) (ZqW hwl hx) (by have:=ZaP hx;omega)
    show ∃o,Zk2 (F45 k) k ⟨kd,st,l,a,b⟩ cs f=_∧_
    unfold Zk2
    rw [if_pos ⟨by omega,by omega⟩]
    simp only
    have er:(List.replicate (Int.toNat (f.length:Int)) false).length=cs.length+1:=by rw [List.length_replicate,Int.toNat_natCast,hf]
    by_cases k1:kd=1
    · subst k1
      obtain ⟨o,e,E⟩:=ZlT (k:=k) (v:=⟨1,st,l,a,b⟩) (cs:=cs) (f:=f) (by show st.length≤_;omega) (by show st.length<k;omega) (by omega) hf k 0 _ er (Nat.zero_le _) (by omega) (fun j=>⟨fun h=>absurd h (Zhy _ _),fun ⟨t,h,_⟩=>by omega⟩)
      refine ⟨o,by rw [ZV rfl,zt_];exact e,E.congr fun w=>?_⟩
      rw [Zhk]
      simp
    rw [ZF k1,zf_]
    by_cases k3:kd=3
    · subst k3
      obtain ⟨o,e,l1,s1⟩:=ZlP (R:=F45 k) (k:=k) (v:=⟨3,st,l,a,b⟩) (cs:=cs) (f:=f) (by show l.length≤_;omega) hc (by omega) hf hR l _ 0 k rfl (by omega) (Nat.zero_le _) er
      refine ⟨o,by rw [ZV rfl,zt_];exact e,l1,fun j=>(s1 j).trans ?_⟩
      have:∀i,Rl (LAlt l) cs i j↔Rl (Lang ⟨3,st,l,a,b⟩) cs i j:=fun i=>ZdH fun w=>by rw [Zhk];simp
      simp only [this]
      exact ⟨fun h=>h.elim (fun h=>absurd h (Zhy _ _)) id,.inr⟩
    rw [ZF k3,zf_]
    by_cases k2:kd=2
    · subst k2
      obtain ⟨o,e,E⟩:=ZlS (R:=F45 k) (v:=⟨2,st,l,a,b⟩) (cs:=cs) (f:=f) (by show l.length≤_;omega) (by omega) hR l f 0 k rfl (by omega) (Nat.zero_le _) hf
      exact ⟨o,by rw [ZV rfl,zt_];exact e,E.congr fun w=>by rw [Zhk];simp⟩
    rw [ZF k2,zf_]
    obtain rfl:kd=4:=by omega
    obtain ⟨h5,h6,h7,h8,h9⟩:=h4 rfl
    obtain ⟨x,rfl⟩:=List.length_eq_one_iff.1 h5
    obtain ⟨o,e,l1,s1⟩:=ZlQ (R:=F45 k) (k:=k) (v:=⟨4,st,[x],a,b⟩) (x:=x) (cs:=cs) (f:=f) (a:=a.toNat) hc (by omega) (by omega) rfl (hR x List.mem_cons_self) hf (by simp only;omega) (by omega) (by simp only;omega) k f 0 hf (by omega) (Nat.zero_le _) (fun j=>by
      unfold St
      exact ⟨fun h=>⟨j,h,Zi0.2 ⟨rfl,by have:=ZjC h;omega⟩⟩,fun ⟨i,h1,h2⟩=>by
        have:=(Zi0.1 h2).1
        subst this;exact h1⟩)
    refine ⟨o,?_,l1,fun j=>(s1 j).trans ?_⟩
    · rw [if_pos (by simp;omega),List.nil_append]
      exact e
    · unfold St
      constructor
      · rintro ⟨n,h1,h2,i,h3,h10,h11,h12⟩
        exact ⟨i,h3,h10,h11,(Zmm _).2 ⟨n,by omega,h2,h12⟩⟩
      · rintro ⟨i,h3,h10,h11,h12⟩
        obtain ⟨n,h1,h2,h13⟩:=(Zmm _).1 h12
        exact ⟨n,by omega,h2,i,h3,h10,h11,h13⟩
theorem ZhN {k:Nat} {s:List UInt8} (hk:5≤k) (hs:s.length≤100000):∀(m i:Nat) (acc:List Int),i≤s.length→s.length-i<m→validD (s.drop i)=true→acc.length≤i→ZeG k s m acc (i:Int)=some (acc ++ pts (s.drop i))
  | 0,i,acc,_,hm,_,_=>by omega
  | m+1,i,acc,hi,hm,hv,ha=>by
    show Ziu k (ZeG k s m) s acc (i:Int)=_
    unfold Ziu
    by_cases h:i<s.length
    · have hne:s.drop i≠[]:=fun c=>by have:=List.drop_eq_nil_iff.1 c;omega
      obtain ⟨h1,h2⟩:=ZjJ hne hv
      have hle:=decodeL_le _ hne
      rw [List.length_drop] at hle
      have hw:=decodeL_width (s.drop i)
      rw [dt (by omega),zt_,Ziz hk h (by omega),zb_]
      unfold nxt
      rw [if_neg h1,if_pos (by simp;omega)]
      simp only
      rw [Zv (by omega) (by omega),show (i:Int)+((decodeL (s.drop i)).2:Int)=((i+(decodeL (s.drop i)).2:Nat):Int) by omega]
      rw [List.drop_drop] at h2
      rw [ZhN hk hs m (i+(decodeL (s.drop i)).2) _ (by omega) (by omega) h2 (by simp;omega),ZdQ hne,List.drop_drop,List.append_assoc]
      rfl
    · rw [df (by omega),zf_,List.drop_eq_nil_of_le (by omega),Zhv,List.append_nil]
theorem Zo9 {k:Nat} {r:Zd} {s:List UInt8} (hk:k≤1048576) (hw:WF r) (hf:fs r+s.length+40≤k) (hs:s.length≤100000) (hm:F22 k r=some true) (hv:validD s=true):∃b,F23 k r s=some b∧(b=true↔Lang r (pts s)):=by
  have hp:=(Znt s.length s (Nat.le_refl _)).1
  have e1:F44 k s=some (pts s):=by
    have:=ZhN (k:=k) (s:=s) (by omega) hs k 0 [] (Nat.zero_le _) (by omega) (by rw [List.drop_zero];exact hv) (Nat.le_refl _)
    rw [List.nil_append,List.drop_zero] at this
    exact this
  have ew:w64 (((pts s).length:Int)+1)=(((pts s).length+1:Nat):Int):=ZR (by omega)
  obtain ⟨o,e2,E⟩:=Zne (cs:=pts s) (by omega) k r hk hw (by omega) ((List.replicate ((pts s).length+1) false).set 0 true) (by rw [List.length_set,List.length_replicate])
  obtain ⟨b,hb⟩:∃b,o[(pts s).length]?=some b:=⟨_,List.getElem?_eq_getElem (by rw [E.1];omega)⟩
  refine ⟨b,?_,?_⟩
  · unfold F23 Zez
    rw [hm,zb_,Bool.not_true,zf_,Zlc (by omega) (by omega) (by omega),zb_,hv,Bool.not_true,zf_,e1,zb_,ew,if_pos ⟨by omega,by omega⟩,Int.toNat_natCast,if_pos ⟨by omega,by rw [List.length_replicate];omega⟩]
    have e0:idxL (List.replicate ((pts s).length+1) false) 0=some false:=rfl
    rw [e0,zb_,show (Int.toNat 0)=0 from rfl,e2,zb_,Zx,hb]
    rfl
  · have:b=true↔Sn o (pts s).length:=by unfold Sn;rw [hb];simp
    rw [this,E.2]
    have hsp:span (pts s) 0 (pts s).length=pts s:=by unfold span;simp
    constructor
    · rintro ⟨i,h1,h2,h3,h4⟩
      rw [Zhz (by simp)] at h1
      rcases h1 with ⟨rfl,_⟩ | ⟨_,h1⟩
      · rw [hsp] at h4;exact h4
      · exact absurd h1 (Zhy _ _)
    · exact fun h=>⟨0,(Zhz (by simp)).2 (.inl ⟨rfl,rfl⟩),Nat.zero_le _,Nat.le_refl _,by rw [hsp];exact h⟩
end Go.Proofs.YthilboheomikjaaGreatDoor
end
section
namespace Go.Proofs.YthilboheomikjaaGreatDoor
open Go.AL Go.Lib
set_option maxRecDepth 100000
theorem Zhq {a b c:Int}:mn a b≤c↔a≤c∨b≤c:=by unfold mn;split <;> omega
mutual
theorem Zqv:∀r:Zd,OK r→sz r≤200→fs r≤4000→WF r∧(cnt r:Int)≤2*sz r-1
  | ⟨kd,st,l,a,b⟩,ho,hs,hf=>by
    simp only [OK] at ho
    simp only [fs] at hf
    obtain ⟨h0,hl⟩:=ho
    have hL:=Zax l
    rcases h0 with ⟨rfl,_,h3,_⟩ | ⟨rfl,_,h3,_⟩ | ⟨rfl,_,h3,_⟩ | ⟨rfl,h3,_,h5,h6,h7,h8⟩
    · obtain rfl:l=[]:=h3
      refine ⟨⟨⟨.inl rfl,fun h=>absurd h (by show ¬(1:Int)=4;omega),by show st.length≤_;omega,by simp⟩,trivial⟩,?_⟩
      simp [cnt,sz]
    · have e:sz ⟨2,st,l,a,b⟩=mn (szL l+1) 1000:=by simp [sz]
      rw [e] at hs ⊢
      have e2:mn (szL l+1) 1000=szL l+1:=mn_l (by rw [Zhq] at hs;omega)
      rw [e2] at hs ⊢
      obtain ⟨h9,h10⟩:=ZgL l hl (by omega) (by omega)
      refine ⟨⟨⟨.inr (.inl rfl),fun h=>absurd h (by show ¬(2:Int)=4;omega),by show st.length≤_;omega,by have:=ZhA l;show l.length≤_;omega⟩,h9⟩,?_⟩
      simp only [cnt,if_neg (show ¬(2:Int)=1 by omega),if_true]
      omega
    · have e:sz ⟨3,st,l,a,b⟩=mn (szL l+1) 1000:=by simp [sz]
      rw [e] at hs ⊢
      have e2:mn (szL l+1) 1000=szL l+1:=mn_l (by rw [Zhq] at hs;omega)
      rw [e2] at hs ⊢
      obtain ⟨h9,h10⟩:=ZgL l hl (by omega) (by omega)
      refine ⟨⟨⟨.inr (.inr (.inl rfl)),fun h=>absurd h (by show ¬(3:Int)=4;omega),by show st.length≤_;omega,by have:=ZhA l;show l.length≤_;omega⟩,h9⟩,?_⟩
      simp only [cnt,if_neg (show ¬(3:Int)=1 by omega),if_neg (show ¬(3:Int)=2 by omega),if_true]
      have:1<l.length:=h3
      omega
    · simp only at h3 h5 h6 h7 h8
      obtain ⟨x,rfl⟩:=List.length_eq_one_iff.1 h3
      have e:sz ⟨4,st,[x],a,b⟩=mn (sz x*mn (mx (if b<0 then w64 (a+1) else b) 1) 1000+1) 1000:=by simp [sz,szH]
      have hx:=Zar x
      have eq:mn (mx (if b<0 then w64 (a+1) else b) 1) 1000=if b<0 then a+1 else if b<1 then 1 else b:=by
        rw [Zv (x:=a+1) (by omega) (by omega)]
        by_cases hb:b<0
        · rw [if_pos hb,if_pos hb,mx_l (by omega),mn_l (by omega)]
        · rw [if_neg hb,if_neg hb]
          by_cases hb1:b<1
          · rw [if_pos hb1,mx_r (by omega),mn_l (by omega)]
          · rw [if_neg hb1,mx_l (by omega),mn_l (by omega)]
      rw [eq] at e
      obtain ⟨n,rfl⟩:∃n:Nat,a=(n:Int):=⟨a.toNat,by omega⟩
      obtain ⟨s,hsz⟩:∃s:Nat,sz x=(s:Int):=⟨(sz x).toNat,by omega⟩
      rw [hsz] at e hx
      have hcx:∀q:Nat,cntL [x]=q→q=cnt x:=fun q hq=>by simp [cntL] at hq;omega
      by_cases hb:b<0
      · rw [if_pos hb] at e
        have e1:(s:Int)*((n:Int)+1)=((s*(n+1):Nat):Int):=by simp
        rw [e1] at e
        have e2:mn (((s*(n+1):Nat):Int)+1) 1000=((s*(n+1):Nat):Int)+1:=mn_l (by rw [e,Zhq] at hs;omega)
        rw [e2] at e
        rw [e] at hs ⊢
        have hsl:s≤s*(n+1):=Nat.le_mul_of_pos_right s (by omega)
        obtain ⟨h9,h10⟩:=ZgL [x] hl (by simp [szL];omega) (by simp only [fsL] at hf ⊢;omega)
        refine ⟨⟨⟨.inr (.inr (.inr rfl)),fun _=>⟨rfl,by simp only;omega,h6,h7,h8⟩,by show st.length≤_;omega,by simp⟩,h9⟩,?_⟩
        simp only [cnt,if_neg (show ¬(4:Int)=1 by omega),if_neg (show ¬(4:Int)=2 by omega),if_neg (show ¬(4:Int)=3 by omega),if_pos hb,Int.toNat_natCast]
        have hc:cntL [x]+1≤2*s:=by simp [szL,hsz] at h10;omega
        have hm:(n+1)*(cntL [x]+1)≤(n+1)*(2*s):=Nat.mul_le_mul_left _ hc
        rw [Nat.mul_add,Nat.mul_one] at hm
        have e3:(n+1)*(2*s)=2*(s*(n+1)):=by rw [Nat.mul_comm s,Nat.mul_left_comm]
        omega
      · rw [if_neg hb] at e
        obtain ⟨m,rfl⟩:∃m:Nat,b=(m:Int):=⟨b.toNat,by omega⟩
        have e1:(s:Int)*(if (m:Int)<1 then 1 else (m:Int))=((s*(if m<1 then 1 else m):Nat):Int):=by
          by_cases hm:m<1
          · rw [if_pos hm,if_pos (by omega)];simp
          · rw [if_neg hm,if_neg (by omega)];simp
        rw [e1] at e
        have e2:mn (((s*(if m<1 then 1 else m):Nat):Int)+1) 1000=((s*(if m<1 then 1 else m):Nat):Int)+1:=mn_l (by rw [e,Zhq] at hs;omega)
        rw [e2] at e
        rw [e] at hs ⊢
        have hsl:s≤s*(if m<1 then 1 else m):=Nat.le_mul_of_pos_right s (by split <;> omega)
        have hml:s*m≤s*(if m<1 then 1 else m):=Nat.mul_le_mul_left _ (by split <;> omega)
        obtain ⟨h9,h10⟩:=ZgL [x] hl (by simp [szL];omega) (by simp only [fsL] at hf ⊢;omega)
        refine ⟨⟨⟨.inr (.inr (.inr rfl)),fun _=>⟨rfl,by simp only;omega,h6,h7,h8⟩,by show st.length≤_;omega,by simp⟩,h9⟩,?_⟩
        simp only [cnt,if_neg (show ¬(4:Int)=1 by omega),if_neg (show ¬(4:Int)=2 by omega),if_neg (show ¬(4:Int)=3 by omega),if_neg hb,Int.toNat_natCast]
        have hc:cntL [x]+1≤2*s:=by simp [szL,hsz] at h10;omega
        have hm:m*(cntL [x]+1)≤m*(2*s):=Nat.mul_le_mul_left _ hc
        rw [Nat.mul_add,Nat.mul_one] at hm
        have e3:m*(2*s)=2*(s*m):=by rw [Nat.mul_comm s,Nat.mul_left_comm]
        omega
theorem ZgL:∀l:List Zd,OKL l→szL l≤199→fsL l≤4000→WFL l∧(cntL l:Int)≤2*szL l-l.length
  | [],_,_,_=>⟨trivial,by simp [cntL,szL]⟩
  | x :: l,ho,hs,hf=>by
    simp only [OKL] at ho
    simp only [szL] at hs
    simp only [fsL] at hf
    have h1:=Zar x
    have h2:=Zax l
    obtain ⟨a1,a2⟩:=Zqv x ho.1 (by omega) (by omega)
    obtain ⟨b1,b2⟩:=ZgL l ho.2 (by omega) (by omega)
    refine ⟨⟨a1,b1⟩,?_⟩
    simp only [cntL,szL,List.length_cons]
    omega
theorem ZhA:∀l:List Zd,(l.length:Int)≤szL l
  | []=>by simp [szL]
  | x :: l=>by
    have h1:=Zar x
    have:=ZhA l
    simp only [szL,List.length_cons];omega
end
def MayP (r:Zd):Prop:=(OK r∧dp r≤16)∧sz r≤200
theorem Zjt {k:Nat} {r:Zd} {s:List UInt8} (hk:k≤1048576) (hf:fs r≤4000) (hk2:fs r+s.length+1500≤k) (hs:s.length≤100000) :
    ∃b,F23 k r s=some b∧(b=true↔MayP r∧validD s=true∧Lang r (pts s)):=by
  obtain ⟨t,e,p⟩:=Znw (k:=k) (r:=r) hk (by omega)
  cases t
  · refine ⟨false,?_,by simp;intro h;exact absurd (p.2 h) (by simp)⟩
    unfold F23 Zez
    rw [e];rfl
  · have hm:=p.1 rfl
    cases hv:validD s
    · refine ⟨false,?_,by simp⟩
      unfold F23 Zez
      rw [e,zb_,Bool.not_true,zf_,Zlc (by omega) (by omega) (by omega),hv];rfl
    · obtain ⟨hw,hc⟩:=Zqv r hm.1.1 hm.2 hf
      obtain ⟨b,e2,p2⟩:=Zo9 (k:=k) hk hw (by omega) hs e hv
      exact ⟨b,e2,p2.trans ⟨fun h=>⟨hm,rfl,h⟩,fun h=>h.2.2⟩⟩
end Go.Proofs.YthilboheomikjaaGreatDoor
end
section
namespace Go.Proofs.YthilboheomikjaaGreatDoor
open Go.AL Go.Lib
set_option maxRecDepth 100000
theorem ZmC {n n' b0 b1 b2 b3 c1 c2 c3:Nat} (hn:n≤n') (e1:1<n→c1=b1) (e2:2<n→c2=b2) (e3:3<n→c3=b3) (h:¬((decodeN n b0 b1 b2 b3).1=65533∧(decodeN n b0 b1 b2 b3).2=1)):decodeN n' b0 c1 c2 c3=decodeN n b0 b1 b2 b3:=by
  by_cases h0:b0<128
  · simp [decodeN,h0]
  by_cases h2:b0 / 32=6∧(1<n∧b1 / 64=2)
  · have:=e1 h2.2.1
    subst this
    simp only [decodeN,if_neg h0,if_pos h2]
    rw [if_pos ⟨h2.1,by omega,h2.2.2⟩]
  by_cases h3:b0 / 16=14∧(1<n∧b1 / 64=2)∧(2<n∧b2 / 64=2)
  · have:=e1 h3.2.1.1
    subst this
    have:=e2 h3.2.2.1
    subst this
    simp only [decodeN,if_neg h0,if_neg h2,if_pos h3]
    rw [if_neg (by omega),if_pos ⟨h3.1,⟨by omega,h3.2.1.2⟩,by omega,h3.2.2.2⟩]
  by_cases h4:b0 / 8=30∧(1<n∧b1 / 64=2)∧(2<n∧b2 / 64=2)∧(3<n∧b3 / 64=2)
  · have:=e1 h4.2.1.1
    subst this
    have:=e2 h4.2.2.1.1
    subst this
    have:=e3 h4.2.2.2.1
    subst this
    simp only [decodeN,if_neg h0,if_neg h2,if_neg h3,if_pos h4]
    rw [if_neg (by omega),if_neg (by omega),if_pos ⟨h4.1,⟨by omega,h4.2.1.2⟩,⟨by omega,h4.2.2.1.2⟩,by omega,h4.2.2.2.2⟩]
  · exact absurd (by simp only [decodeN,if_neg h0,if_neg h2,if_neg h3,if_neg h4];exact ⟨trivial,trivial⟩) h
theorem ZhF {s:List UInt8} (t:List UInt8) (hne:s≠[]) (h:¬bad s):decodeL (s ++ t)=decodeL s:=by
  unfold bad at h
  rw [decodeL_N] at h ⊢
  rw [decodeL_N s]
  have hl:0<s.length:=List.length_pos_iff.2 hne
  have g:∀i,i<s.length→(s ++ t).getD i 0=s.getD i 0:=fun i hi=>by simp [List.getElem?_append_left hi]
  rw [g 0 hl]
  exact ZmC (by simp) (fun h=>by rw [g 1 h]) (fun h=>by rw [g 2 h]) (fun h=>by rw [g 3 h]) h
theorem Zby:∀(n:Nat) (s t:List UInt8),s.length≤n→validD s=true→validD (s ++ t)=validD t∧pts (s ++ t)=pts s ++ pts t
  | 0,s,t,hn,_=>by
    obtain rfl:s=[]:=List.length_eq_zero_iff.1 (by omega)
    exact ⟨rfl,by rw [Zhv];rfl⟩
  | n+1,s,t,hn,hv=>by
    by_cases hne:s=[]
    · subst hne
      exact ⟨rfl,by rw [Zhv];rfl⟩
    · obtain ⟨h1,h2⟩:=ZjJ hne hv
      have hd:=ZhF t hne h1
      have hne2:s ++ t≠[]:=fun c=>hne (List.append_eq_nil_iff.1 c).1
      have hw:=decodeL_width s
      have hle:=decodeL_le s hne
      have h3:¬bad (s ++ t):=by unfold bad at h1 ⊢;rw [hd];exact h1
      have hdr:(s ++ t).drop (decodeL s).2=s.drop (decodeL s).2 ++ t:=List.drop_append_of_le_length hle
      obtain ⟨a,b⟩:=Zby n (s.drop (decodeL s).2) t (by rw [List.length_drop];omega) h2
      refine ⟨by rw [ZcZ hne2 h3,hd,hdr,a],?_⟩
      rw [ZdQ hne2,ZdQ hne,hd,hdr,b]
      rfl
end Go.Proofs.YthilboheomikjaaGreatDoor
end
section
namespace Go.Proofs.YthilboheomikjaaGreatDoor
open Go.AL Go.Lib
set_option maxRecDepth 100000
theorem ZnK {l:List UInt8} {b:UInt8} (h:b.toNat<128):decodeL (b :: l)=(b.toNat,1)∧¬bad (b :: l):=by
  have e:=decodeL_ascii b l h
  refine ⟨e,?_⟩
  unfold bad
  rw [e]
  simp only
  omega
theorem ZcV:∀(s:List UInt8),(∀b∈s,b.toNat<128)→validD s=true∧pts s=s.map fun b=>(b.toNat:Int)
  | [],_=>⟨rfl,Zhv⟩
  | b :: s,h=>by
    obtain ⟨a1,a2⟩:=ZnK (l:=s) (h b List.mem_cons_self)
    obtain ⟨b1,b2⟩:=ZcV s fun x hx=>h x (List.mem_cons_of_mem _ hx)
    have hne:b :: s≠[]:=by simp
    rw [ZcZ hne a2,ZdQ hne,a1]
    exact ⟨b1,by rw [List.map_cons];congr 1⟩
end Go.Proofs.YthilboheomikjaaGreatDoor
end
section
namespace Go.Proofs.YthilboheomikjaaGreatDoor
open Go.AL Go.Lib
set_option maxRecDepth 100000
def Zqj (b:UInt8):Bool:=(decide (48≤b.toNat) && decide (b.toNat≤57)) || (decide (65≤b.toNat) && decide (b.toNat≤90)) || (decide (97≤b.toNat) && decide (b.toNat≤122))
structure Item where
  a:UInt8
  b:UInt8
def Item.good (x:Item):Prop:=Zqj x.a=true∧Zqj x.b=true∧x.a.toNat≤x.b.toNat
def Item.enc (x:Item):List UInt8:=if x.a.toNat<x.b.toNat then [x.a,45,x.b] else [x.a]
end Go.Proofs.YthilboheomikjaaGreatDoor
end
section
namespace Go.Proofs.YthilboheomikjaaGreatDoor
open Go.AL
variable {μ:Int}
set_option maxRecDepth 100000
def Zdy (self8:(List Zb)→Int→Option (List Zb)) (d:Int→Option (List Zb)) (v0:List Zb) (a:List Zb) (e:Int) (b:Int) (f:Bool):Option (List Zb):=
  cond f ((d (w64 (b-1)))) ((if (0:Int)≤0∧(0:Int)≤b∧b≤(a.length:Int) then if ([]:List Zb).length+((a.take (Int.toNat b)).drop (Int.toNat 0)).length≤1073741824 then (idxL v0 e).bind fun c=>if (([]:List Zb) ++ ((a.take (Int.toNat b)).drop (Int.toNat 0))).length+([c]:List Zb).length≤1073741824 then if (0:Int)≤b∧(b:Int)≤(a.length:Int)∧(a.length:Int)≤(a.length:Int) then if ((([]:List Zb) ++ ((a.take (Int.toNat b)).drop (Int.toNat 0))) ++ ([c]:List Zb)).length+((a.take (Int.toNat (a.length:Int))).drop (Int.toNat b)).length≤1073741824 then (self8 (((([]:List Zb) ++ ((a.take (Int.toNat b)).drop (Int.toNat 0))) ++ ([c]:List Zb)) ++ ((a.take (Int.toNat (a.length:Int))).drop (Int.toNat b))) (w64 (e+1))) else none else none else none else none else none))
def Zcs (self8:(List Zb)→Int→Option (List Zb)) (b:Int→Option (List Zb)) (v0:List Zb) (c:List Zb) (d:Int) (a:Int):Option (List Zb):=
  cond (decide (a > 0)) ((idxL c (w64 (a-1))).bind fun e=>(idxL v0 d).bind fun f=>(Zdy self8 b v0 c d a (decide (e.f_Lo > f.f_Lo)))) ((Zdy self8 b v0 c d a false))
def ZbW (self8:(List Zb)→Int→Option (List Zb)) (v0:List Zb) (a:List Zb) (b:Int):Nat→Int→Option (List Zb)
  | 0,_=>none
  | d+1,c=>Zcs self8 (ZbW self8 v0 a b d) v0 a b c
def ZdA (a:(List Zb)→Int→Option (List Zb)) (b:Int) (c:List Zb):Option (List Zb):=
  a c (w64 (b+1))
def Zdz (c:(List Zb)→Int→Option (List Zb)) (d:List Zb) (a:List Zb) (b:Int) (f:Bool):Option (List Zb):=
  cond f (if (0:Int)≤(w64 ((a.length:Int)-1))∧(w64 ((a.length:Int)-1))<(a.length:Int) then (idxL a (w64 ((a.length:Int)-1))).bind fun g=>(idxL d b).bind fun h=>if (0:Int)≤(w64 ((a.length:Int)-1))∧(w64 ((a.length:Int)-1))<(a.length:Int) then (idxL a (w64 ((a.length:Int)-1))).bind fun i=>((ZdA c b (a.set (Int.toNat (w64 ((a.length:Int)-1))) ({ i with f_Hi:=(mx g.f_Hi h.f_Hi) }:Zb)))) else none else none) ((idxL d b).bind fun e=>if a.length+([e]:List Zb).length≤1073741824 then (ZdA c b (a ++ ([e]:List Zb))) else none)
def ZaX (k:Nat) (d:(List Zb)→Int→Option (List Zb)) (b:List Zb) (a:List Zb) (c:Int):Option (List Zb):=
  (cond (decide (c<(b.length:Int))) (((cond (decide ((a.length:Int) > 0)) ((idxL b c).bind fun e=>if (0:Int)≤(w64 ((a.length:Int)-1))∧(w64 ((a.length:Int)-1))<(a.length:Int) then (idxL a (w64 ((a.length:Int)-1))).bind fun f=>(Zdz d b a c (decide (e.f_Lo≤(w64 (f.f_Hi+1))))) else none) ((Zdz d b a c false))))) ((F143 k).bind fun g=>(F190 k a g).bind fun h=>(some h)))
def Zbs (k:Nat) (a:List Zb):Nat→(List Zb)→Int→Option (List Zb)
  | 0,_,_=>none
  | d+1,b,c=>ZaX k (Zbs k a d) a b c
def Zdi (k:Nat) (self8:(List Zb)→Int→Option (List Zb)) (v0:List Zb) (a:List Zb) (b:Int):Option (List Zb):=
  (cond (decide (b<(v0.length:Int))) (((ZbW self8 v0 a b k (a.length:Int)))) ((((Zbs k a k ([]:List Zb) 0)))))
def Zdj (k:Nat) (v0:List Zb):Nat→(List Zb)→Int→Option (List Zb)
  | 0,_,_=>none
  | c+1,a,b=>Zdi k (Zdj k v0 c) v0 a b
def F174 (k:Nat) (v0:List Zb):Option (List Zb):=
  (((Zdj k v0 k ([]:List Zb) 0)))
theorem ZqQ (k:Nat) (v0:List Zb) (r:List Zb) (d:F174 k v0=some r):SM μ 174 [one (.sl (v0.map Za))] [] (one (.sl (r.map Za))) []:=by
 refine Zz [] Tryz.func174 rfl kr kr ?_
 show WA _ _ 102 _ _ _
 refine Ws [] [(0,one (.sl (v0.map Za)))] [] ?_
 refine Ws [] [(0,one (.sl (v0.map Za))),(3,one (.sl (([]:List Zb).map Za)))] [] ?_
 refine WA.seq ?_
 refine Ws [] [(0,one (.sl (v0.map Za))),(3,one (.sl (([]:List Zb).map Za))),(4,oi 0)] [] ?_
 refine WA.block ?_
 refine WA.loop (fun m q=>∃(a:List Zb) (i:Int),J q [(0,one (.sl (v0.map Za))),(3,one (.sl (a.map Za))),(4,oi i)] []∧Zdj k v0 m a i=some r) k ⟨([]:List Zb),0,jk,d⟩ ?_
 clear d
 rintro m8 q ⟨a,i,p,d⟩
 refine Wj p ?_
 clear p
 cases m8 with
 | zero=>cases d
 | succ m8=>
  obtain ⟨self8,b7⟩:∃g,g=Zdj k v0 m8:=⟨_,rfl⟩
  have d:Zdi k self8 v0 a i=some r:=by first | (rw [b7];exact d) | exact d
  refine WA.seq ?_
  refine WA.seq ?_
  refine Wm ((v0.map Za).length:Int) (v0.length:Int) (fun o=>([(0,one (.sl (v0.map Za))),(3,one (.sl (a.map Za))),(4,oi i),(12,ob (decide (i<o)))],[],[])) ((by first | (simp only [zl,Zi];done) | (simp only [zl,Zi];omega) | omega)) [] trivial ?_
  refine WA.cond (b:=(decide (i<(v0.length:Int)))) rfl (fun a6=>?_) (fun a6=>?_)
  {
 have d:=Zk d a6
 refine WA.skip ?_
 refine WA.seq ?_
 refine WA.block ?_
 refine WA.seq ?_
 refine Wm ((a.map Za).length:Int) (a.length:Int) (fun o=>([(0,one (.sl (v0.map Za))),(3,one (.sl (a.map Za))),(4,oi i),(5,oi o)],[],[])) ((by first | (simp only [zl,Zi];done) | (simp only [zl,Zi];omega) | omega)) [] trivial ?_
 refine WA.seq ?_
 refine WA.block ?_
 refine WA.loop (fun m q=>∃(e:Int),J q [(0,one (.sl (v0.map Za))),(3,one (.sl (a.map Za))),(4,oi i),(5,oi e)] []∧ZbW self8 v0 a i m e=some r) k ⟨(a.length:Int),jk,d⟩ ?_
 clear d
 rintro m11 q ⟨e,p,d⟩
 refine Wj p ?_
 clear p
 cases m11 with
 | zero=>cases d
 | succ m11=>
  obtain ⟨b8,a4⟩:∃g,g=ZbW self8 v0 a i m11:=⟨_,rfl⟩
  have d:Zcs self8 b8 v0 a i e=some r:=by first | (rw [a4];exact d) | exact d
  refine WA.seq ?_
  refine WA.join (fun q=>∃(b0:Bool),J q [(0,one (.sl (v0.map Za))),(3,one (.sl (a.map Za))),(4,oi i),(5,oi e),(32,ob b0)] []∧Zdy self8 b8 v0 a i e b0=some r) ?_ ?_
  {
 rintro q ⟨b0,p,d⟩
 refine Wj p ?_
 clear p
 refine WA.cond (b:=b0) rfl (fun a7=>?_) (fun a7=>?_)
 {
 have d:=Zk d a7
 refine WA.skip ?_
 refine WA.block ?_
 refine Wr [] [(0,one (.sl (v0.map Za))),(3,one (.sl (a.map Za))),(4,oi i),(5,oi (w64 (e-1)))] [] ?_
 exact ⟨m11,zl_ _,(w64 (e-1)),jk,by rw [a4] at d;exact d⟩ }
 {
 have d:=Zj d a7
 refine WA.exit ?_
 obtain ⟨x,d⟩:=Zn d
 obtain ⟨c0,d⟩:=Zn d
 obtain ⟨l,c9,d⟩:=Zh d
 obtain ⟨c1,d⟩:=Zn d
 obtain ⟨y,d⟩:=Zn d
 obtain ⟨c2,d⟩:=Zn d
 have z1:∀es,(a.map Za)[0]?=some es→es.length=2:=(fun es h=>(ZT a) es (List.mem_of_getElem? h))
 refine Wdm (((((0+(((a.map Za).take (Int.toNat e)).drop (Int.toNat 0)).length)+1)+(((a.map Za).take (Int.toNat ((a.map Za).length:Int))).drop (Int.toNat e)).length),((((([]:List Zb).map Za) ++ (((a.map Za).take (Int.toNat e)).drop (Int.toNat 0))) ++ (([l]:List Zb).map Za)) ++ (((a.map Za).take (Int.toNat ((a.map Za).length:Int))).drop (Int.toNat e))),(((a.map Za).take (Int.toNat e)).drop (Int.toNat 0)),(0+(((a.map Za).take (Int.toNat e)).drop (Int.toNat 0)).length),((([]:List Zb).map Za) ++ (((a.map Za).take (Int.toNat e)).drop (Int.toNat 0))),((a.map Za).length:Int),(((([]:List Zb).map Za) ++ (((a.map Za).take (Int.toNat e)).drop (Int.toNat 0))) ++ (([l]:List Zb).map Za)),(((a.map Za).take (Int.toNat ((a.map Za).length:Int))).drop (Int.toNat e))):Nat×(List (List PV))×(List (List PV))×Nat×(List (List PV))×Int×(List (List PV))×(List (List PV))) ((((0+((a.take (Int.toNat e)).drop (Int.toNat 0)).length)+1)+((a.take (Int.toNat (a.length:Int))).drop (Int.toNat e)).length),((((([]:List Zb) ++ ((a.take (Int.toNat e)).drop (Int.toNat 0))) ++ ([l]:List Zb)) ++ ((a.take (Int.toNat (a.length:Int))).drop (Int.toNat e))).map Za),(((a.take (Int.toNat e)).drop (Int.toNat 0)).map Za),(0+((a.take (Int.toNat e)).drop (Int.toNat 0)).length),((([]:List Zb) ++ ((a.take (Int.toNat e)).drop (Int.toNat 0))).map Za),(a.length:Int),(((([]:List Zb) ++ ((a.take (Int.toNat e)).drop (Int.toNat 0))) ++ ([l]:List Zb)).map Za),(((a.take (Int.toNat (a.length:Int))).drop (Int.toNat e)).map Za)) (fun o=>([(0,one (.sl (v0.map Za))),(3,ar 135 o.1),(4,oi i)],[(135,.arr 2 o.2.1)],[(0:Int)≤0,(0:Int)≤e,e≤((a.map Za).length:Int),∀es,(a.map Za)[0]?=some es→es.length=2,0=(([]:List Zb).map Za).length,(([]:List Zb).map Za).length+o.2.2.1.length≤1073741824,∀es,es∈o.2.2.1→es.length=2,idxL (v0.map Za) i=some (Za l),o.2.2.2.1=o.2.2.2.2.1.length,o.2.2.2.2.1.length+(([l]:List Zb).map Za).length≤1073741824,∀es,es∈(([l]:List Zb).map Za)→es.length=2,(0:Int)≤e,(e:Int)≤o.2.2.2.2.2.1,o.2.2.2.2.2.1≤((a.map Za).length:Int),∀es,(a.map Za)[0]?=some es→es.length=2,(o.2.2.2.1+1)=o.2.2.2.2.2.2.1.length,o.2.2.2.2.2.2.1.length+o.2.2.2.2.2.2.2.length≤1073741824,∀es,es∈o.2.2.2.2.2.2.2→es.length=2])) (ZJ (by first | (simp only [zl,Zi];done) | (simp only [zl,Zi];omega) | omega) (ZJ zm (ZJ zm (ZJ (by first | (simp only [zl,Zi];done) | (simp only [zl,Zi];omega) | omega) (ZJ zm (ZJ (by first | (simp only [zl,Zi];done) | (simp only [zl,Zi];omega) | omega) (ZJ zm zm))))))) [(0,.obj 135),(7,.cells (Za l))] ⟨x.1,x.2.1,(by first | exact x.2.2 | (simp only [List.length_map,Zi];exact x.2.2)),z1,zt,(by first | exact c0 | (simp only [List.length_map,Zi];exact c0)),(ZT ((a.take (Int.toNat e)).drop (Int.toNat 0))),(Zs _ c9),zt,(by first | exact c1 | (simp only [List.length_map,Zi];exact c1)),(ZT ([l]:List Zb)),y.1,y.2.1,(by first | exact y.2.2 | (simp only [List.length_map,Zi];exact y.2.2)),z1,zt,(by first | exact c2 | (simp only [List.length_map,Zi];exact c2)),(ZT ((a.take (Int.toNat (a.length:Int))).drop (Int.toNat e))),trivial⟩ ?_
 refine WA.freeze 135 3 (s:=2) (n:=(((0+((a.take (Int.toNat e)).drop (Int.toNat 0)).length)+1)+((a.take (Int.toNat (a.length:Int))).drop (Int.toNat e)).length)) (els:=((((([]:List Zb) ++ ((a.take (Int.toNat e)).drop (Int.toNat 0))) ++ ([l]:List Zb)) ++ ((a.take (Int.toNat (a.length:Int))).drop (Int.toNat e))).map Za)) rfl rfl zt ?_
 refine Wk [(0,one (.sl (v0.map Za))),(3,one (.sl ((((([]:List Zb) ++ ((a.take (Int.toNat e)).drop (Int.toNat 0))) ++ ([l]:List Zb)) ++ ((a.take (Int.toNat (a.length:Int))).drop (Int.toNat e))).map Za))),(4,oi i)] [] ?_
 refine Wr [] [(0,one (.sl (v0.map Za))),(3,one (.sl ((((([]:List Zb) ++ ((a.take (Int.toNat e)).drop (Int.toNat 0))) ++ ([l]:List Zb)) ++ ((a.take (Int.toNat (a.length:Int))).drop (Int.toNat e))).map Za))),(4,oi (w64 (i+1)))] [] ?_
 exact ⟨m8,zl_ _,(((([]:List Zb) ++ ((a.take (Int.toNat e)).drop (Int.toNat 0))) ++ ([l]:List Zb)) ++ ((a.take (Int.toNat (a.length:Int))).drop (Int.toNat e))),(w64 (i+1)),jk,by rw [b7] at d;exact d⟩ } }
  {
 rcases zo_ (decide (e > 0)) with u | u
 {
 have d:=Zk d u
 obtain ⟨b2,c7,d⟩:=Zh d
 obtain ⟨b3,c8,d⟩:=Zh d
 refine Wd [(2,.bool true),(6,.cells (Za b2)),(11,.cells (Za b3))] [(0,one (.sl (v0.map Za))),(3,one (.sl (a.map Za))),(4,oi i),(5,oi e),(32,ob (decide (b2.f_Lo > b3.f_Lo)))] [] [(decide (e > 0))=true,idxL (a.map Za) (w64 (e-1))=some (Za b2),idxL (v0.map Za) i=some (Za b3)] ⟨u,(Zs _ c7),(Zs _ c8),trivial⟩ ?_
 exact ⟨(decide (b2.f_Lo > b3.f_Lo)),jk,d⟩ }
 {
 have d:=Zj d u
 refine Wd [(2,.bool false)] [(0,one (.sl (v0.map Za))),(3,one (.sl (a.map Za))),(4,oi i),(5,oi e),(32,ob false)] [] [(decide (e > 0))=false] ⟨u,trivial⟩ ?_
 exact ⟨false,jk,d⟩ } } }
  {
 have d:=Zj d a6
 refine WA.exit ?_
 refine Ws [(0,.obj 106)] [(3,one (.sl (a.map Za))),(6,ar 106 0)] [(106,.arr 2 (([]:List Zb).map Za))] ?_
 refine WA.seq ?_
 refine Ws [] [(3,one (.sl (a.map Za))),(6,ar 106 0),(7,oi 0)] [(106,.arr 2 (([]:List Zb).map Za))] ?_
 refine WA.block ?_
 refine WA.loop (fun m q=>∃(c:List Zb) (f:Nat) (j:Int),J q [(3,one (.sl (a.map Za))),(6,ar 106 f),(7,oi j)] [(106,.arr 2 (c.map Za))]∧f=(c:List _).length∧Zbs k a m c j=some r) k ⟨([]:List Zb),0,0,jk,zt,d⟩ ?_
 clear d
 rintro m17 q ⟨c,f,j,p,d8,d⟩
 refine Wj p ?_
 clear p
 cases m17 with
 | zero=>cases d
 | succ m17=>
  obtain ⟨z,a5⟩:∃g,g=Zbs k a m17:=⟨_,rfl⟩
  have d:ZaX k z a c j=some r:=by first | (rw [a5];exact d) | exact d
  refine WA.seq ?_
  refine WA.seq ?_
  refine Wm ((a.map Za).length:Int) (a.length:Int) (fun o=>([(3,one (.sl (a.map Za))),(6,ar 106 f),(7,oi j),(53,ob (decide (j<o)))],[(106,.arr 2 (c.map Za))],[])) ((by first | (simp only [zl,Zi];done) | (simp only [zl,Zi];omega) | omega)) [] trivial ?_
  refine WA.cond (b:=(decide (j<(a.length:Int)))) rfl (fun a8=>?_) (fun a8=>?_)
  {
 have d:=Zk d a8
 refine WA.skip ?_
 refine WA.join (fun q=>∃(w:List Zb) (a0:Nat),J q [(3,one (.sl (a.map Za))),(6,ar 106 a0),(7,oi j)] [(106,.arr 2 (w.map Za))]∧a0=(w:List _).length∧ZdA z j w=some r) ?_ ?_
 {
 rintro q ⟨w,a0,p,d9,d⟩
 refine Wj p ?_
 clear p
 refine Wr [] [(3,one (.sl (a.map Za))),(6,ar 106 a0),(7,oi (w64 (j+1)))] [(106,.arr 2 (w.map Za))] ?_
 exact ⟨m17,zl_ _,w,a0,(w64 (j+1)),jk,zt,by rw [a5] at d;exact d⟩ }
 {
 refine WA.block ?_
 refine WA.seq ?_
 refine Wm ((f:Nat):Int) (c.length:Int) (fun o=>([(3,one (.sl (a.map Za))),(6,ar 106 f),(7,oi j),(8,oi o)],[(106,.arr 2 (c.map Za))],[])) ((by first | (simp only [zl,Zi];done) | (simp only [zl,Zi];omega) | omega)) [] trivial ?_
 refine WA.seq ?_
 refine WA.join (fun q=>∃(b1:Bool),J q [(3,one (.sl (a.map Za))),(6,ar 106 f),(7,oi j),(8,oi (c.length:Int)),(74,ob b1)] [(106,.arr 2 (c.map Za))]∧Zdz z a c j b1=some r) ?_ ?_
 {
 rintro q ⟨b1,p,d⟩
 refine Wj p ?_
 clear p
 refine WA.cond (b:=b1) rfl (fun a9=>?_) (fun a9=>?_)
 {
 have d:=Zk d a9
 refine WA.seq ?_
 obtain ⟨c4,d⟩:=Zn d
 obtain ⟨a1,d2,d⟩:=Zh d
 obtain ⟨a2,d3,d⟩:=Zh d
 obtain ⟨c6,d⟩:=Zn d
 obtain ⟨a3,d4,d⟩:=Zh d
 have z0:(w64 ((c.length:Int)-1))<((f:Nat):Int):=(by have h_:=c4.2;(try simp only [zl,Zi] at h_ ⊢);omega)
 refine Wdm (((c.map Za).set (Int.toNat (w64 ((c.length:Int)-1))) (Za ({ a3 with f_Hi:=(mx a1.f_Hi a2.f_Hi) }:Zb))):(List (List PV))) ((c.set (Int.toNat (w64 ((c.length:Int)-1))) ({ a3 with f_Hi:=(mx a1.f_Hi a2.f_Hi) }:Zb)).map Za) (fun o=>([(3,one (.sl (a.map Za))),(6,ar 106 f),(7,oi j)],[(106,.arr 2 o)],[f=(c.map Za).length,(0:Int)≤(w64 ((c.length:Int)-1)),(w64 ((c.length:Int)-1))<((f:Nat):Int),f=(c.map Za).length,0<f,f=(c.map Za).length,(c.map Za)[Int.toNat (w64 ((c.length:Int)-1))]?=some (Za a1),idxL (a.map Za) j=some (Za a2),f=(c.map Za).length,(0:Int)≤(w64 ((c.length:Int)-1)),(w64 ((c.length:Int)-1))<((f:Nat):Int),f=(c.map Za).length,0<f,f=(c.map Za).length,(c.map Za)[Int.toNat (w64 ((c.length:Int)-1))]?=some (Za a3)])) (zm) [(8,.cells (Za a1)),(11,.cells (Za a2)),(17,.cells (Za a3))] ⟨zt,c4.1,z0,zt,(by omega),zt,(Zr (Zs _ d2)),(Zs _ d3),zt,c6.1,z0,zt,(by omega),zt,(Zr (Zs _ d4)),trivial⟩ ?_
 refine WA.exit ?_
 exact ⟨(c.set (Int.toNat (w64 ((c.length:Int)-1))) ({ a3 with f_Hi:=(mx a1.f_Hi a2.f_Hi) }:Zb)),f,jk,zt,d⟩ }
 {
 have d:=Zj d a9
 refine WA.skip ?_
 obtain ⟨t,d5,d⟩:=Zh d
 obtain ⟨c5,d⟩:=Zn d
 refine Wm (((c.map Za) ++ (([t]:List Zb).map Za)):(List (List PV))) ((c ++ ([t]:List Zb)).map Za) (fun o=>([(3,one (.sl (a.map Za))),(6,ar 106 (f+1)),(7,oi j)],[(106,.arr 2 o)],[idxL (a.map Za) j=some (Za t),f=(c.map Za).length,(c.map Za).length+(([t]:List Zb).map Za).length≤1073741824,∀es,es∈(([t]:List Zb).map Za)→es.length=2])) (zm) [(3,.cells (Za t))] ⟨(Zs _ d5),zt,(by first | exact c5 | (simp only [List.length_map,Zi];exact c5)),(ZT ([t]:List Zb)),trivial⟩ ?_
 exact ⟨(c ++ ([t]:List Zb)),(f+1),jk,zt,d⟩ } }
 {
 rcases zo_ (decide ((c.length:Int) > 0)) with v | v
 {
 have d:=Zk d v
 obtain ⟨b4,d0,d⟩:=Zh d
 obtain ⟨c3,d⟩:=Zn d
 obtain ⟨b5,d1,d⟩:=Zh d
 refine Wd [(2,.bool true),(5,.cells (Za b4)),(13,.cells (Za b5))] [(3,one (.sl (a.map Za))),(6,ar 106 f),(7,oi j),(8,oi (c.length:Int)),(74,ob (decide (b4.f_Lo≤(w64 (b5.f_Hi+1)))))] [(106,.arr 2 (c.map Za))] [(decide ((c.length:Int) > 0))=true,idxL (a.map Za) j=some (Za b4),f=(c.map Za).length,(0:Int)≤(w64 ((c.length:Int)-1)),(w64 ((c.length:Int)-1))<((f:Nat):Int),f=(c.map Za).length,0<f,f=(c.map Za).length,(c.map Za)[Int.toNat (w64 ((c.length:Int)-1))]?=some (Za b5)] ⟨v,(Zs _ d0),zt,c3.1,(by have h_:=c3.2;(try simp only [zl,Zi] at h_ ⊢);omega),zt,(by omega),zt,(Zr (Zs _ d1)),trivial⟩ ?_
 exact ⟨(decide (b4.f_Lo≤(w64 (b5.f_Hi+1)))),jk,d⟩ }
 {
 have d:=Zj d v
 refine Wd [(2,.bool false)] [(3,one (.sl (a.map Za))),(6,ar 106 f),(7,oi j),(8,oi (c.length:Int)),(74,ob false)] [(106,.arr 2 (c.map Za))] [(decide ((c.length:Int) > 0))=false] ⟨v,trivial⟩ ?_
 exact ⟨false,jk,d⟩ } } } }
  {
 have d:=Zj d a8
 refine WA.exit ?_
 refine WA.seq ?_
 refine WA.freeze 106 6 (s:=2) (n:=f) (els:=(c.map Za)) rfl rfl zt ?_
 refine Wk [(6,one (.sl (c.map Za)))] [] ?_
 obtain ⟨b9,d6,d⟩:=Zh d
 obtain ⟨b6,d7,d⟩:=Zh d
 refine Wo [(1,.callR [] (one (.sl (b9.map Za)))),(2,.callR [] (one (.sl (b6.map Za))))] [(2,one (.sl (b6.map Za)))] [] [SM μ 143 [] [] (one (.sl (b9.map Za))) [],([]:List Nat).Nodup,SM μ 190 [one (.sl (c.map Za)),one (.sl (b9.map Za))] [] (one (.sl (b6.map Za))) [],([]:List Nat).Nodup] ⟨(ZjS k _ d6),nd,(Zm2 k _ _ _ d7),nd,trivial⟩ ?_
 refine WA.ret ?_
 obtain rfl:=zj_ d
 exact Zo (one (.sl (b6.map Za))) [] kr kr kr kr nd rfl rfl } }
end Go.Proofs.YthilboheomikjaaGreatDoor
end
section
namespace Go.Proofs.YthilboheomikjaaGreatDoor
open Go.AL
variable {μ:Int}
set_option maxRecDepth 100000
structure Zf where
  f_S:List UInt8
  f_I:Int
  f_Bad:Bool
  f_Long:Bool
def Ze (x:Zf):List PV:=[.str x.f_S,.int .i64 x.f_I,.bool x.f_Bad,.bool x.f_Long]
def F100 (k:Nat) (v0:Zf):Option Int:=
  ((cond (decide (v0.f_I<(v0.f_S.length:Int))) ((idxL v0.f_S v0.f_I).bind fun a=>(some (a.toNat:Int))) (((some 0)))))
theorem Zas (k:Nat) (v0:Zf) (r:Int) (d:F100 k v0=some r):SM μ 100 [pt 0] [bx (Ze v0)] (one (.int .u8 r)) [bx (Ze v0)]:=by
 refine Zz [0] Tryz.func100 rfl kr kr ?_
 show WA _ _ 22 _ _ _
 refine Ws [] [(0,pt 0)] [(0,bx (Ze v0))] ?_
 refine WA.seq ?_
 refine WA.seq ?_
 refine Wd [] [(0,pt 0),(12,ob (decide (v0.f_I<(v0.f_S.length:Int))))] [(0,bx (Ze v0))] [] trivial ?_
 refine WA.cond (b:=(decide (v0.f_I<(v0.f_S.length:Int)))) rfl (fun a=>?_) (fun a=>?_)
 {
 have d:=Zk d a
 refine WA.seq ?_
 obtain ⟨c,e,d⟩:=Zh d
 refine Wd [(8,.num (c.toNat:Int))] [(2,one (.int .u8 (c.toNat:Int)))] [(0,bx (Ze v0))] [(idxL v0.f_S v0.f_I).map (fun b=>(b.toNat:Int))=some (c.toNat:Int)] ⟨(by rw [e];rfl),trivial⟩ ?_
 refine WA.ret ?_
 obtain rfl:=zj_ d
 exact Zo (one (.int .u8 (c.toNat:Int))) [bx (Ze v0)] kr kr kr kr nd rfl rfl }
 {
 have d:=Zj d a
 refine WA.skip ?_
 refine Ws [] [(2,one (.int .u8 0))] [(0,bx (Ze v0))] ?_
 refine WA.ret ?_
 obtain rfl:=zj_ d
 exact Zo (one (.int .u8 0)) [bx (Ze v0)] kr kr kr kr nd rfl rfl }
def Zf7 (v0:Zf) (a:Bool):Option (Bool×Zf):=
  cond a (((some (true,({ v0 with f_I:=(w64 (v0.f_I+1)) }:Zf))))) (((some (false,v0))))
def F74 (k:Nat) (v0:Zf) (v1:Int):Option (Bool×Zf):=
  (cond (decide (v0.f_I<(v0.f_S.length:Int))) ((idxL v0.f_S v0.f_I).bind fun a=>(Zf7 v0 ((a.toNat:Int) == v1))) ((Zf7 v0 false)))
theorem ZaA (k:Nat) (v0:Zf) (v1:Int) (r:Bool×Zf) (a:F74 k v0 v1=some r):SM μ 74 [pt 0,one (.int .u8 v1)] [bx (Ze v0)] (ob r.1) [bx (Ze r.2)]:=by
 refine Zz [0] Tryz.func74 rfl kr kr ?_
 show WA _ _ 35 _ _ _
 refine Ws [] [(0,pt 0),(1,one (.int .u8 v1))] [(0,bx (Ze v0))] ?_
 refine WA.seq ?_
 refine WA.join (fun i=>∃(e:Bool),J i [(0,pt 0),(27,ob e)] [(0,bx (Ze v0))]∧Zf7 v0 e=some r) ?_ ?_
 {
 rintro i ⟨e,h,a⟩
 refine Wj h ?_
 clear h
 refine WA.cond (b:=e) rfl (fun d=>?_) (fun d=>?_)
 {
 have a:=Zk a d
 refine Ws [] [] [(0,bx (Ze ({ v0 with f_I:=(w64 (v0.f_I+1)) }:Zf)))] ?_
 refine Ws [] [(4,ob true)] [(0,bx (Ze ({ v0 with f_I:=(w64 (v0.f_I+1)) }:Zf)))] ?_
 refine WA.ret ?_
 obtain rfl:=zj_ a
 exact Zo (ob true) [bx (Ze ({ v0 with f_I:=(w64 (v0.f_I+1)) }:Zf))] kr kr kr kr nd rfl rfl }
 {
 have a:=Zj a d
 refine WA.skip ?_
 refine Ws [] [(4,ob false)] [(0,bx (Ze v0))] ?_
 refine WA.ret ?_
 obtain rfl:=zj_ a
 exact Zo (ob false) [bx (Ze v0)] kr kr kr kr nd rfl rfl } }
 {
 rcases zo_ (decide (v0.f_I<(v0.f_S.length:Int))) with c | c
 {
 have a:=Zk a c
 obtain ⟨f,g,a⟩:=Zh a
 refine Wd [(10,.bool true),(19,.num (f.toNat:Int))] [(0,pt 0),(27,ob ((f.toNat:Int) == v1))] [(0,bx (Ze v0))] [(decide (v0.f_I<(v0.f_S.length:Int)))=true,(idxL v0.f_S v0.f_I).map (fun b=>(b.toNat:Int))=some (f.toNat:Int)] ⟨c,(by rw [g];rfl),trivial⟩ ?_
 exact ⟨((f.toNat:Int) == v1),jk,a⟩ }
 {
 have a:=Zj a c
 refine Wd [(10,.bool false)] [(0,pt 0),(27,ob false)] [(0,bx (Ze v0))] [(decide (v0.f_I<(v0.f_S.length:Int)))=false] ⟨c,trivial⟩ ?_
 exact ⟨false,jk,a⟩ } }
def Zg5 (a:Int) (b:Zf):Option (Int×Zf):=
  (some (a,b))
def Zg4 (a:Zf) (b:Int) (c:Bool):Option (Int×Zf):=
  cond c ((Zg5 b ({ a with f_Bad:=true }:Zf))) ((Zg5 b a))
def Zco (k:Nat) (d:Zf→Int→Int→Option (Int×Zf)) (a:Zf) (b:Int) (c:Int) (e:Bool):Option (Int×Zf):=
  cond e ((F100 k a).bind fun f=>((d ({ a with f_I:=(w64 (a.f_I+1)) }:Zf) (w64 ((w64 (b*10))+(w64 (IntKind.wrap .u8 (f-48))))) (w64 (c+1))))) ((cond (c == 0) ((Zg4 a b true)) ((Zg4 a b (decide (c > 3))))))
def Zdb (k:Nat) (b:Zf→Int→Int→Option (Int×Zf)) (a:Zf) (d:Int) (c:Int):Option (Int×Zf):=
  (F100 k a).bind fun e=>cond (decide (e≥48)) ((F100 k a).bind fun f=>cond (decide (f≤57)) ((Zco k b a d c (decide (c<4)))) ((Zco k b a d c false))) ((Zco k b a d c false))
def Za1 (k:Nat):Nat→Zf→Int→Int→Option (Int×Zf)
  | 0,_,_,_=>none
  | d+1,a,b,c=>Zdb k (Za1 k d) a b c
def F148 (k:Nat) (v0:Zf):Option (Int×Zf):=
  ((Za1 k k v0 0 0))
theorem ZmW (k:Nat) (v0:Zf) (r:Int×Zf) (c:F148 k v0=some r):SM μ 148 [pt 0] [bx (Ze v0)] (oi r.1) [bx (Ze r.2)]:=by
 refine Zz [0] Tryz.func148 rfl kr kr ?_
 show WA _ _ 43 _ _ _
 refine Ws [] [(0,pt 0)] [(0,bx (Ze v0))] ?_
 refine Ws [] [(0,pt 0),(3,oi 0),(4,oi 0)] [(0,bx (Ze v0))] ?_
 refine WA.seq ?_
 refine WA.block ?_
 refine WA.loop (fun m p=>∃(a:Zf) (d:Int) (e:Int),J p [(0,pt 0),(3,oi d),(4,oi e)] [(0,bx (Ze a))]∧Za1 k m a d e=some r) k ⟨v0,0,0,jk,c⟩ ?_
 clear c
 rintro m2 p ⟨a,d,e,o,c⟩
 refine Wj o ?_
 clear o
 cases m2 with
 | zero=>cases c
 | succ m2=>
  obtain ⟨z,x⟩:∃g,g=Za1 k m2:=⟨_,rfl⟩
  have c:Zdb k z a d e=some r:=by first | (rw [x];exact c) | exact c
  refine WA.seq ?_
  refine WA.join (fun p=>∃(v:Bool),J p [(0,pt 0),(3,oi d),(4,oi e),(16,ob v)] [(0,bx (Ze a))]∧Zco k z a d e v=some r) ?_ ?_
  {
 rintro p ⟨v,o,c⟩
 refine Wj o ?_
 clear o
 refine WA.cond (b:=v) rfl (fun s=>?_) (fun s=>?_)
 {
 have c:=Zk c s
 refine WA.skip ?_
 refine WA.block ?_
 obtain ⟨n,a0,c⟩:=Zh c
 refine Wos [(3,.callR [0] (one (.int .u8 n)))] [(0,pt 0),(3,oi (w64 ((w64 (d*10))+(w64 (IntKind.wrap .u8 (n-48)))))),(4,oi e)] [(0,bx (Ze a))] [SM μ 100 [pt 0] [bx (Ze a)] (one (.int .u8 n)) [bx (Ze a)],([0]:List Nat).Nodup] ⟨(Zas k _ _ a0),nd,trivial⟩ ?_
 refine Ws [] [(0,pt 0),(3,oi (w64 ((w64 (d*10))+(w64 (IntKind.wrap .u8 (n-48)))))),(4,oi e)] [(0,bx (Ze ({ a with f_I:=(w64 (a.f_I+1)) }:Zf)))] ?_
 refine Wr [] [(0,pt 0),(3,oi (w64 ((w64 (d*10))+(w64 (IntKind.wrap .u8 (n-48)))))),(4,oi (w64 (e+1)))] [(0,bx (Ze ({ a with f_I:=(w64 (a.f_I+1)) }:Zf)))] ?_
 exact ⟨m2,zl_ _,({ a with f_I:=(w64 (a.f_I+1)) }:Zf),(w64 ((w64 (d*10))+(w64 (IntKind.wrap .u8 (n-48))))),(w64 (e+1)),jk,by rw [x] at c;exact c⟩ }
 {
 have c:=Zj c s
 refine WA.exit ?_
 refine WA.join (fun p=>∃(q:Zf),J p [(3,oi d)] [(0,bx (Ze q))]∧Zg5 d q=some r) ?_ ?_
 {
 rintro p ⟨q,o,c⟩
 refine Wj o ?_
 clear o
 refine Ws [] [(2,oi d)] [(0,bx (Ze q))] ?_
 refine WA.ret ?_
 obtain rfl:=zj_ c
 exact Zo (oi d) [bx (Ze q)] kr kr kr kr nd rfl rfl }
 {
 refine WA.join (fun p=>∃(w:Bool),J p [(0,pt 0),(3,oi d),(38,ob w)] [(0,bx (Ze a))]∧Zg4 a d w=some r) ?_ ?_
 {
 rintro p ⟨w,o,c⟩
 refine Wj o ?_
 clear o
 refine WA.cond (b:=w) rfl (fun t=>?_) (fun t=>?_)
 {
 have c:=Zk c t
 refine Wr [] [(3,oi d)] [(0,bx (Ze ({ a with f_Bad:=true }:Zf)))] ?_
 exact ⟨({ a with f_Bad:=true }:Zf),jk,c⟩ }
 {
 have c:=Zj c t
 refine WA.skip ?_
 exact ⟨a,jk,c⟩ } }
 {
 rcases zo_ (e == 0) with l | l
 {
 have c:=Zk c l
 refine Wo [(2,.bool true)] [(0,pt 0),(3,oi d),(38,ob true)] [(0,bx (Ze a))] [(e == 0)=true] ⟨l,trivial⟩ ?_
 exact ⟨true,jk,c⟩ }
 {
 have c:=Zj c l
 refine Wo [(2,.bool false)] [(0,pt 0),(3,oi d),(38,ob (decide (e > 3)))] [(0,bx (Ze a))] [(e == 0)=false] ⟨l,trivial⟩ ?_
 exact ⟨(decide (e > 3)),jk,c⟩ } } } } }
  {
 obtain ⟨f,u,c⟩:=Zh c
 rcases zo_ (decide (f≥48)) with h | h
 {
 have c:=Zk c h
 obtain ⟨i,y,c⟩:=Zh c
 rcases zo_ (decide (i≤57)) with j | j
 {
 have c:=Zk c j
 refine Wo [(1,.callR [0] (one (.int .u8 f))),(3,.bool true),(5,.callR [0] (one (.int .u8 i))),(8,.bool true)] [(0,pt 0),(3,oi d),(4,oi e),(16,ob (decide (e<4)))] [(0,bx (Ze a))] [SM μ 100 [pt 0] [bx (Ze a)] (one (.int .u8 f)) [bx (Ze a)],([0]:List Nat).Nodup,(decide (f≥48))=true,SM μ 100 [pt 0] [bx (Ze a)] (one (.int .u8 i)) [bx (Ze a)],([0]:List Nat).Nodup,(decide (i≤57))=true] ⟨(Zas k _ _ u),nd,h,(Zas k _ _ y),nd,j,trivial⟩ ?_
 exact ⟨(decide (e<4)),jk,c⟩ }
 {
 have c:=Zj c j
 refine Wo [(1,.callR [0] (one (.int .u8 f))),(3,.bool true),(5,.callR [0] (one (.int .u8 i))),(8,.bool false)] [(0,pt 0),(3,oi d),(4,oi e),(16,ob false)] [(0,bx (Ze a))] [SM μ 100 [pt 0] [bx (Ze a)] (one (.int .u8 f)) [bx (Ze a)],([0]:List Nat).Nodup,(decide (f≥48))=true,SM μ 100 [pt 0] [bx (Ze a)] (one (.int .u8 i)) [bx (Ze a)],([0]:List Nat).Nodup,(decide (i≤57))=false] ⟨(Zas k _ _ u),nd,h,(Zas k _ _ y),nd,j,trivial⟩ ?_
 exact ⟨false,jk,c⟩ } }
 {
 have c:=Zj c h
 refine Wo [(1,.callR [0] (one (.int .u8 f))),(3,.bool false)] [(0,pt 0),(3,oi d),(4,oi e),(16,ob false)] [(0,bx (Ze a))] [SM μ 100 [pt 0] [bx (Ze a)] (one (.int .u8 f)) [bx (Ze a)],([0]:List Nat).Nodup,(decide (f≥48))=false] ⟨(Zas k _ _ u),nd,h,trivial⟩ ?_
 exact ⟨false,jk,c⟩ } }
def ZgT (v1:Zd) (c:Int×Zf) (a:Int) (b:Zf):Option (Zd×Zf):=
  (some ((⟨4,([]:List Zb),([v1]:List Zd),c.1,a⟩:Zd),b))
def Zc5 (v1:Zd) (c:Int×Zf) (a:Int) (b:Zf) (d:Bool):Option (Zd×Zf):=
  cond d ((ZgT v1 c a ({ b with f_Long:=true }:Zf))) ((ZgT v1 c a b))
def Zep (v1:Zd) (b:Int×Zf) (a:Int) (c:Zf):Option (Zd×Zf):=
  cond (decide (b.1 > 20)) ((Zc5 v1 b a c true)) (cond (decide (a > 20)) ((Zc5 v1 b a c true)) (cond (decide (a≥0)) ((Zc5 v1 b a c (decide (a<b.1)))) ((Zc5 v1 b a c false))))
def Zc4 (k:Nat) (v1:Zd) (c:Int×Zf) (d:Zf) (b:Int):Option (Zd×Zf):=
  (F74 k d 125).bind fun a=>(cond (!a.1) ((Zep v1 c b ({ a.2 with f_Bad:=true }:Zf))) ((Zep v1 c b a.2)))
def F120 (k:Nat) (v0:Zf) (v1:Zd):Option (Zd×Zf):=
  (F148 k v0).bind fun a=>((F74 k a.2 44).bind fun b=>(cond b.1 ((F100 k b.2).bind fun d=>(cond (d != 125) ((F148 k b.2).bind fun c=>(Zc4 k v1 a c.2 c.1)) ((Zc4 k v1 a b.2 (-1))))) ((Zc4 k v1 a b.2 a.1))))
theorem ZqB (k:Nat) (v0:Zf) (v1:Zd) (r:Zd×Zf) (d:F120 k v0 v1=some r):SM μ 120 [pt 0,tv (Zc v1)] [bx (Ze v0)] (tv (Zc r.1)) [bx (Ze r.2)]:=by
 refine Zz [0] Tryz.func120 rfl kr kr ?_
 show WA _ _ 46 _ _ _
 refine Ws [(0,.obj 103),(1,.obj 104)] [(0,pt 0),(3,pt 103),(4,pt 104)] [(0,bx (Ze v0)),(103,bx (Zc v1)),(104,bx (Zc (⟨0,([]:List Zb),([]:List Zd),0,0⟩:Zd)))] ?_
 obtain ⟨a,x,d⟩:=Zh d
 refine Wos [(1,.call [0] (oi a.1) [bx (Ze a.2)] [])] [(0,pt 0),(3,pt 103),(4,pt 104),(5,oi a.1)] [(0,bx (Ze a.2)),(103,bx (Zc v1)),(104,bx (Zc (⟨0,([]:List Zb),([]:List Zd),0,0⟩:Zd)))] [SM μ 148 [pt 0] [bx (Ze v0)] (oi a.1) [bx (Ze a.2)],([0]:List Nat).Nodup] ⟨(ZmW k _ _ x),nd,trivial⟩ ?_
 refine Ws [] [(0,pt 0),(3,pt 103),(4,pt 104),(5,oi a.1),(6,oi a.1)] [(0,bx (Ze a.2)),(103,bx (Zc v1)),(104,bx (Zc (⟨0,([]:List Zb),([]:List Zd),0,0⟩:Zd)))] ?_
 refine WA.join (fun n=>∃(u:Zf) (c:Int),J n [(0,pt 0),(3,pt 103),(4,pt 104),(5,oi a.1),(6,oi c)] [(0,bx (Ze u)),(103,bx (Zc v1)),(104,bx (Zc (⟨0,([]:List Zb),([]:List Zd),0,0⟩:Zd)))]∧Zc4 k v1 a u c=some r) ?_ ?_
 {
 rintro n ⟨u,c,m,d⟩
 refine Wj m ?_
 clear m
 refine WA.join (fun n=>∃(f:Zf),J n [(0,pt 0),(3,pt 103),(4,pt 104),(5,oi a.1),(6,oi c)] [(0,bx (Ze f)),(103,bx (Zc v1)),(104,bx (Zc (⟨0,([]:List Zb),([]:List Zd),0,0⟩:Zd)))]∧Zep v1 a c f=some r) ?_ ?_
 {
 rintro n ⟨f,m,d⟩
 refine Wj m ?_
 clear m
 refine WA.join (fun n=>∃(o:Zf),J n [(3,pt 103),(4,pt 104),(5,oi a.1),(6,oi c)] [(0,bx (Ze o)),(103,bx (Zc v1)),(104,bx (Zc (⟨0,([]:List Zb),([]:List Zd),0,0⟩:Zd)))]∧ZgT v1 a c o=some r) ?_ ?_
 {
 rintro n ⟨o,m,d⟩
 refine Wj m ?_
 clear m
 refine WA.seq ?_
 refine Wm ([(Zc v1)]:(List (List PV))) (Zm ([v1]:List Zd)) (fun m_=>([(4,pt 104)],[(0,bx (Ze o)),(104,bx ([.int .i64 4] ++ [.sl (([]:List Zb).map Za)] ++ [.sl m_] ++ [.int .i64 a.1] ++ [.int .i64 c]))],[])) (zm) [] trivial ?_
 refine WA.ret ?_
 obtain rfl:=zj_ d
 exact Zo (tv (Zc (⟨4,([]:List Zb),([v1]:List Zd),a.1,c⟩:Zd))) [bx (Ze o)] kr kr kr kr nd rfl rfl }
 {
 refine WA.join (fun n=>∃(v:Bool),J n [(0,pt 0),(3,pt 103),(4,pt 104),(5,oi a.1),(6,oi c),(37,ob v)] [(0,bx (Ze f)),(103,bx (Zc v1)),(104,bx (Zc (⟨0,([]:List Zb),([]:List Zd),0,0⟩:Zd)))]∧Zc5 v1 a c f v=some r) ?_ ?_
 {
 rintro n ⟨v,m,d⟩
 refine Wj m ?_
 clear m
 refine WA.cond (b:=v) rfl (fun t=>?_) (fun t=>?_)
 {
 have d:=Zk d t
 refine Wr [] [(3,pt 103),(4,pt 104),(5,oi a.1),(6,oi c)] [(0,bx (Ze ({ f with f_Long:=true }:Zf))),(103,bx (Zc v1)),(104,bx (Zc (⟨0,([]:List Zb),([]:List Zd),0,0⟩:Zd)))] ?_
 exact ⟨({ f with f_Long:=true }:Zf),jk,d⟩ }
 {
 have d:=Zj d t
 refine WA.skip ?_
 exact ⟨f,jk,d⟩ } }
 {
 rcases zo_ (decide (a.1 > 20)) with h | h
 {
 have d:=Zk d h
 refine Wo [(2,.bool true)] [(0,pt 0),(3,pt 103),(4,pt 104),(5,oi a.1),(6,oi c),(37,ob true)] [(0,bx (Ze f)),(103,bx (Zc v1)),(104,bx (Zc (⟨0,([]:List Zb),([]:List Zd),0,0⟩:Zd)))] [(decide (a.1 > 20))=true] ⟨h,trivial⟩ ?_
 exact ⟨true,jk,d⟩ }
 {
 have d:=Zj d h
 rcases zo_ (decide (c > 20)) with j | j
 {
 have d:=Zk d j
 refine Wo [(2,.bool false),(6,.bool true)] [(0,pt 0),(3,pt 103),(4,pt 104),(5,oi a.1),(6,oi c),(37,ob true)] [(0,bx (Ze f)),(103,bx (Zc v1)),(104,bx (Zc (⟨0,([]:List Zb),([]:List Zd),0,0⟩:Zd)))] [(decide (a.1 > 20))=false,(decide (c > 20))=true] ⟨h,j,trivial⟩ ?_
 exact ⟨true,jk,d⟩ }
 {
 have d:=Zj d j
 rcases zo_ (decide (c≥0)) with l | l
 {
 have d:=Zk d l
 refine Wo [(2,.bool false),(6,.bool false),(9,.bool true)] [(0,pt 0),(3,pt 103),(4,pt 104),(5,oi a.1),(6,oi c),(37,ob (decide (c<a.1)))] [(0,bx (Ze f)),(103,bx (Zc v1)),(104,bx (Zc (⟨0,([]:List Zb),([]:List Zd),0,0⟩:Zd)))] [(decide (a.1 > 20))=false,(decide (c > 20))=false,(decide (c≥0))=true] ⟨h,j,l,trivial⟩ ?_
 exact ⟨(decide (c<a.1)),jk,d⟩ }
 {
 have d:=Zj d l
 refine Wo [(2,.bool false),(6,.bool false),(9,.bool false)] [(0,pt 0),(3,pt 103),(4,pt 104),(5,oi a.1),(6,oi c),(37,ob false)] [(0,bx (Ze f)),(103,bx (Zc v1)),(104,bx (Zc (⟨0,([]:List Zb),([]:List Zd),0,0⟩:Zd)))] [(decide (a.1 > 20))=false,(decide (c > 20))=false,(decide (c≥0))=false] ⟨h,j,l,trivial⟩ ?_
 exact ⟨false,jk,d⟩ } } } } } }
 {
 obtain ⟨g,a1,d⟩:=Zh d
 refine Wos [(1,.call [0] (ob g.1) [bx (Ze g.2)] [])] [(0,pt 0),(3,pt 103),(4,pt 104),(5,oi a.1),(6,oi c),(19,ob (!g.1))] [(0,bx (Ze g.2)),(103,bx (Zc v1)),(104,bx (Zc (⟨0,([]:List Zb),([]:List Zd),0,0⟩:Zd)))] [SM μ 74 [pt 0,one (.int .u8 125)] [bx (Ze u)] (ob g.1) [bx (Ze g.2)],([0]:List Nat).Nodup] ⟨(ZaA k _ _ _ a1),nd,trivial⟩ ?_
 refine WA.cond (b:=(!g.1)) rfl (fun s=>?_) (fun s=>?_)
 {
 have d:=Zk d s
 refine Wr [] [(0,pt 0),(3,pt 103),(4,pt 104),(5,oi a.1),(6,oi c)] [(0,bx (Ze ({ g.2 with f_Bad:=true }:Zf))),(103,bx (Zc v1)),(104,bx (Zc (⟨0,([]:List Zb),([]:List Zd),0,0⟩:Zd)))] ?_
 exact ⟨({ g.2 with f_Bad:=true }:Zf),jk,d⟩ }
 {
 have d:=Zj d s
 refine WA.skip ?_
 exact ⟨g.2,jk,d⟩ } } }
 {
 obtain ⟨e,y,d⟩:=Zh d
 refine Wos [(1,.call [0] (ob e.1) [bx (Ze e.2)] [])] [(0,pt 0),(3,pt 103),(4,pt 104),(5,oi a.1),(6,oi a.1),(11,ob e.1)] [(0,bx (Ze e.2)),(103,bx (Zc v1)),(104,bx (Zc (⟨0,([]:List Zb),([]:List Zd),0,0⟩:Zd)))] [SM μ 74 [pt 0,one (.int .u8 44)] [bx (Ze a.2)] (ob e.1) [bx (Ze e.2)],([0]:List Nat).Nodup] ⟨(ZaA k _ _ _ y),nd,trivial⟩ ?_
 refine WA.cond (b:=e.1) rfl (fun p=>?_) (fun p=>?_)
 {
 have d:=Zk d p
 refine Ws [] [(0,pt 0),(3,pt 103),(4,pt 104),(5,oi a.1),(6,oi (-1))] [(0,bx (Ze e.2)),(103,bx (Zc v1)),(104,bx (Zc (⟨0,([]:List Zb),([]:List Zd),0,0⟩:Zd)))] ?_
 obtain ⟨w,z,d⟩:=Zh d
 refine Wos [(1,.callR [0] (one (.int .u8 w)))] [(0,pt 0),(3,pt 103),(4,pt 104),(5,oi a.1),(6,oi (-1)),(14,ob (w != 125))] [(0,bx (Ze e.2)),(103,bx (Zc v1)),(104,bx (Zc (⟨0,([]:List Zb),([]:List Zd),0,0⟩:Zd)))] [SM μ 100 [pt 0] [bx (Ze e.2)] (one (.int .u8 w)) [bx (Ze e.2)],([0]:List Nat).Nodup] ⟨(Zas k _ _ z),nd,trivial⟩ ?_
 refine WA.cond (b:=(w != 125)) rfl (fun q=>?_) (fun q=>?_)
 {
 have d:=Zk d q
 obtain ⟨i,a0,d⟩:=Zh d
 refine Wo [(1,.call [0] (oi i.1) [bx (Ze i.2)] [])] [(0,pt 0),(3,pt 103),(4,pt 104),(5,oi a.1),(6,oi i.1)] [(0,bx (Ze i.2)),(103,bx (Zc v1)),(104,bx (Zc (⟨0,([]:List Zb),([]:List Zd),0,0⟩:Zd)))] [SM μ 148 [pt 0] [bx (Ze e.2)] (oi i.1) [bx (Ze i.2)],([0]:List Nat).Nodup] ⟨(ZmW k _ _ a0),nd,trivial⟩ ?_
 exact ⟨i.2,i.1,jk,d⟩ }
 {
 have d:=Zj d q
 refine WA.skip ?_
 exact ⟨e.2,(-1),jk,d⟩ } }
 {
 have d:=Zj d p
 refine WA.skip ?_
 exact ⟨e.2,a.1,jk,d⟩ } }
def Zda (v0:Zf) (a:Int×Int) (b:Bool):Option (Int×Zf):=
  cond b (((some (0,({ v0 with f_Bad:=true }:Zf))))) ((((some (a.1,({ v0 with f_I:=(w64 (v0.f_I+a.2)) }:Zf))))))
def F147 (k:Nat) (v0:Zf):Option (Int×Zf):=
  (F46 k v0.f_S v0.f_I).bind fun a=>(cond (decide (a.1<0)) ((Zda v0 a true)) ((Zda v0 a (a.2 == 0))))
theorem ZmV (k:Nat) (v0:Zf) (r:Int×Zf) (c:F147 k v0=some r):SM μ 147 [pt 0] [bx (Ze v0)] (oi r.1) [bx (Ze r.2)]:=by
 refine Zz [0] Tryz.func147 rfl kr kr ?_
 show WA _ _ 36 _ _ _
 refine Ws [] [(0,pt 0)] [(0,bx (Ze v0))] ?_
 refine WA.seq ?_
 obtain ⟨a,g,c⟩:=Zh c
 refine Wd [(8,.callR [] (.tup [(false,[.pv (.int .i64 a.1)]),(false,[.pv (.int .i64 a.2)])]))] [(0,pt 0),(3,oi a.1),(4,oi a.2)] [(0,bx (Ze v0))] [SM μ 46 [one (.str v0.f_S),oi v0.f_I] [] (.tup [(false,[.pv (.int .i64 a.1)]),(false,[.pv (.int .i64 a.2)])]) [],([]:List Nat).Nodup] ⟨(Zlm k _ _ _ g),nd,trivial⟩ ?_
 refine WA.seq ?_
 refine WA.join (fun i=>∃(f:Bool),J i [(0,pt 0),(3,oi a.1),(4,oi a.2),(22,ob f)] [(0,bx (Ze v0))]∧Zda v0 a f=some r) ?_ ?_
 {
 rintro i ⟨f,h,c⟩
 refine Wj h ?_
 clear h
 refine WA.cond (b:=f) rfl (fun e=>?_) (fun e=>?_)
 {
 have c:=Zk c e
 refine Ws [] [] [(0,bx (Ze ({ v0 with f_Bad:=true }:Zf)))] ?_
 refine Ws [] [(2,oi 0)] [(0,bx (Ze ({ v0 with f_Bad:=true }:Zf)))] ?_
 refine WA.ret ?_
 obtain rfl:=zj_ c
 exact Zo (oi 0) [bx (Ze ({ v0 with f_Bad:=true }:Zf))] kr kr kr kr nd rfl rfl }
 {
 have c:=Zj c e
 refine WA.skip ?_
 refine Ws [] [(3,oi a.1)] [(0,bx (Ze ({ v0 with f_I:=(w64 (v0.f_I+a.2)) }:Zf)))] ?_
 refine Ws [] [(2,oi a.1)] [(0,bx (Ze ({ v0 with f_I:=(w64 (v0.f_I+a.2)) }:Zf)))] ?_
 refine WA.ret ?_
 obtain rfl:=zj_ c
 exact Zo (oi a.1) [bx (Ze ({ v0 with f_I:=(w64 (v0.f_I+a.2)) }:Zf))] kr kr kr kr nd rfl rfl } }
 {
 rcases zo_ (decide (a.1<0)) with d | d
 {
 have c:=Zk c d
 refine Wo [(2,.bool true)] [(0,pt 0),(3,oi a.1),(4,oi a.2),(22,ob true)] [(0,bx (Ze v0))] [(decide (a.1<0))=true] ⟨d,trivial⟩ ?_
 exact ⟨true,jk,c⟩ }
 {
 have c:=Zj c d
 refine Wo [(2,.bool false)] [(0,pt 0),(3,oi a.1),(4,oi a.2),(22,ob (a.2 == 0))] [(0,bx (Ze v0))] [(decide (a.1<0))=false] ⟨d,trivial⟩ ?_
 exact ⟨(a.2 == 0),jk,c⟩ } }
def Zhc (k:Nat) (b:Zf):Option (Int×Zf):=
  (F147 k b).bind fun a=>(some (a.1,a.2))
def Zhb (k:Nat) (a:Bool×Zf) (b:Bool):Option (Int×Zf):=
  cond b ((Zhc k ({ a.2 with f_Bad:=true }:Zf))) ((Zhc k a.2))
def Zhd (a:Bool×Zf) (c:Int) (b:Bool):Option (Int×Zf):=
  cond b ((some ((w64 c),({ a.2 with f_I:=(w64 (a.2.f_I+1)) }:Zf)))) ((((some (0,({ ({ a.2 with f_I:=(w64 (a.2.f_I+1)) }:Zf) with f_Bad:=true }:Zf))))))
def F173 (k:Nat) (v0:Zf):Option (Int×Zf):=
  (F74 k v0 92).bind fun a=>(cond (!a.1) (cond (decide (a.2.f_I<(a.2.f_S.length:Int))) ((F100 k a.2).bind fun c=>(F146 k ([93,91,94,45]:List UInt8) c).bind fun d=>(Zhb k a d)) ((Zhb k a false))) ((F100 k a.2).bind fun b=>(((cond (b == 100) ((some ((-1),({ a.2 with f_I:=(w64 (a.2.f_I+1)) }:Zf)))) ((cond (b == 110) ((some (10,({ a.2 with f_I:=(w64 (a.2.f_I+1)) }:Zf)))) ((cond (b == 116) ((some (9,({ a.2 with f_I:=(w64 (a.2.f_I+1)) }:Zf)))) (cond (b != 0) ((F146 k ([92,46,91,93,40,41,123,125,42,43,63,124,94,36,45,47]:List UInt8) b).bind fun e=>(Zhd a b e)) ((Zhd a b false))))))))))))
theorem ZmZ (k:Nat) (v0:Zf) (r:Int×Zf) (c:F173 k v0=some r):SM μ 173 [pt 0] [bx (Ze v0)] (oi r.1) [bx (Ze r.2)]:=by
 refine Zz [0] Tryz.func173 rfl kr kr ?_
 show WA _ _ 57 _ _ _
 refine Ws [] [(0,pt 0)] [(0,bx (Ze v0))] ?_
 refine WA.seq ?_
 obtain ⟨a,x,c⟩:=Zh c
 refine Wos [(1,.call [0] (ob a.1) [bx (Ze a.2)] [])] [(0,pt 0),(6,ob (!a.1))] [(0,bx (Ze a.2))] [SM μ 74 [pt 0,one (.int .u8 92)] [bx (Ze v0)] (ob a.1) [bx (Ze a.2)],([0]:List Nat).Nodup] ⟨(ZaA k _ _ _ x),nd,trivial⟩ ?_
 refine WA.cond (b:=(!a.1)) rfl (fun h=>?_) (fun h=>?_)
 {
 have c:=Zk c h
 refine WA.join (fun v=>∃(p:Zf),J v [(0,pt 0)] [(0,bx (Ze p))]∧Zhc k p=some r) ?_ ?_
 {
 rintro v ⟨p,u,c⟩
 refine Wj u ?_
 clear u
 obtain ⟨e,a0,c⟩:=Zh c
 refine Wos [(1,.call [0] (oi e.1) [bx (Ze e.2)] [])] [(2,oi e.1)] [(0,bx (Ze e.2))] [SM μ 147 [pt 0] [bx (Ze p)] (oi e.1) [bx (Ze e.2)],([0]:List Nat).Nodup] ⟨(ZmV k _ _ a0),nd,trivial⟩ ?_
 refine WA.ret ?_
 obtain rfl:=zj_ c
 exact Zo (oi e.1) [bx (Ze e.2)] kr kr kr kr nd rfl rfl }
 {
 refine WA.join (fun v=>∃(o:Bool),J v [(0,pt 0),(21,ob o)] [(0,bx (Ze a.2))]∧Zhb k a o=some r) ?_ ?_
 {
 rintro v ⟨o,u,c⟩
 refine Wj u ?_
 clear u
 refine WA.cond (b:=o) rfl (fun i=>?_) (fun i=>?_)
 {
 have c:=Zk c i
 refine Wr [] [(0,pt 0)] [(0,bx (Ze ({ a.2 with f_Bad:=true }:Zf)))] ?_
 exact ⟨({ a.2 with f_Bad:=true }:Zf),jk,c⟩ }
 {
 have c:=Zj c i
 refine WA.skip ?_
 exact ⟨a.2,jk,c⟩ } }
 {
 rcases zo_ (decide (a.2.f_I<(a.2.f_S.length:Int))) with f | f
 {
 have c:=Zk c f
 obtain ⟨w,y,c⟩:=Zh c
 obtain ⟨s,z,c⟩:=Zh c
 refine Wd [(10,.bool true),(12,.callR [0] (one (.int .u8 w))),(13,.callR [] (ob s))] [(0,pt 0),(21,ob s)] [(0,bx (Ze a.2))] [(decide (a.2.f_I<(a.2.f_S.length:Int)))=true,SM μ 100 [pt 0] [bx (Ze a.2)] (one (.int .u8 w)) [bx (Ze a.2)],([0]:List Nat).Nodup,SM μ 146 [one (.str ([93,91,94,45]:List UInt8)),one (.int .u8 w)] [] (ob s) [],([]:List Nat).Nodup] ⟨f,(Zas k _ _ y),nd,(Zg3 k _ _ _ z),nd,trivial⟩ ?_
 exact ⟨s,jk,c⟩ }
 {
 have c:=Zj c f
 refine Wd [(10,.bool false),(12,.callR [] (.tup [])),(13,.callR [] (.tup []))] [(0,pt 0),(21,ob false)] [(0,bx (Ze a.2))] [(decide (a.2.f_I<(a.2.f_S.length:Int)))=false] ⟨f,trivial⟩ ?_
 exact ⟨false,jk,c⟩ } } } }
 {
 have c:=Zj c h
 refine WA.skip ?_
 obtain ⟨d,a1,c⟩:=Zh c
 refine Wos [(1,.callR [0] (one (.int .u8 d)))] [(0,pt 0),(3,one (.int .u8 d))] [(0,bx (Ze a.2))] [SM μ 100 [pt 0] [bx (Ze a.2)] (one (.int .u8 d)) [bx (Ze a.2)],([0]:List Nat).Nodup] ⟨(Zas k _ _ a1),nd,trivial⟩ ?_
 refine Ws [] [(0,pt 0),(3,one (.int .u8 d))] [(0,bx (Ze ({ a.2 with f_I:=(w64 (a.2.f_I+1)) }:Zf)))] ?_
 refine WA.seq ?_
 refine WA.block ?_
 refine Ws [] [(0,pt 0),(3,one (.int .u8 d)),(36,ob (d == 100))] [(0,bx (Ze ({ a.2 with f_I:=(w64 (a.2.f_I+1)) }:Zf)))] ?_
 refine WA.cond (b:=(d == 100)) rfl (fun j=>?_) (fun j=>?_)
 {
 have c:=Zk c j
 refine Ws [] [(2,oi (-1))] [(0,bx (Ze ({ a.2 with f_I:=(w64 (a.2.f_I+1)) }:Zf)))] ?_
 refine WA.ret ?_
 obtain rfl:=zj_ c
 exact Zo (oi (-1)) [bx (Ze ({ a.2 with f_I:=(w64 (a.2.f_I+1)) }:Zf))] kr kr kr kr nd rfl rfl }
 {
 have c:=Zj c j
 refine Ws [] [(0,pt 0),(3,one (.int .u8 d)),(39,ob (d == 110))] [(0,bx (Ze ({ a.2 with f_I:=(w64 (a.2.f_I+1)) }:Zf)))] ?_
 refine WA.cond (b:=(d == 110)) rfl (fun l=>?_) (fun l=>?_)
 {
 have c:=Zk c l
 refine Ws [] [(2,oi 10)] [(0,bx (Ze ({ a.2 with f_I:=(w64 (a.2.f_I+1)) }:Zf)))] ?_
 refine WA.ret ?_
 obtain rfl:=zj_ c
 exact Zo (oi 10) [bx (Ze ({ a.2 with f_I:=(w64 (a.2.f_I+1)) }:Zf))] kr kr kr kr nd rfl rfl }
 {
 have c:=Zj c l
 refine Ws [] [(0,pt 0),(3,one (.int .u8 d)),(42,ob (d == 116))] [(0,bx (Ze ({ a.2 with f_I:=(w64 (a.2.f_I+1)) }:Zf)))] ?_
 refine WA.cond (b:=(d == 116)) rfl (fun m=>?_) (fun m=>?_)
 {
 have c:=Zk c m
 refine Ws [] [(2,oi 9)] [(0,bx (Ze ({ a.2 with f_I:=(w64 (a.2.f_I+1)) }:Zf)))] ?_
 refine WA.ret ?_
 obtain rfl:=zj_ c
 exact Zo (oi 9) [bx (Ze ({ a.2 with f_I:=(w64 (a.2.f_I+1)) }:Zf))] kr kr kr kr nd rfl rfl }
 {
 have c:=Zj c m
 refine WA.join (fun v=>∃(q:Bool),J v [(0,pt 0),(3,one (.int .u8 d)),(45,ob q)] [(0,bx (Ze ({ a.2 with f_I:=(w64 (a.2.f_I+1)) }:Zf)))]∧Zhd a d q=some r) ?_ ?_
 {
 rintro v ⟨q,u,c⟩
 refine Wj u ?_
 clear u
 refine WA.cond (b:=q) rfl (fun n=>?_) (fun n=>?_)
 {
 have c:=Zk c n
 refine Ws [] [(2,oi (w64 d))] [(0,bx (Ze ({ a.2 with f_I:=(w64 (a.2.f_I+1)) }:Zf)))] ?_
 refine WA.ret ?_
 obtain rfl:=zj_ c
 exact Zo (oi (w64 d)) [bx (Ze ({ a.2 with f_I:=(w64 (a.2.f_I+1)) }:Zf))] kr kr kr kr nd rfl rfl }
 {
 have c:=Zj c n
 refine WA.skip ?_
 refine Ws [] [] [(0,bx (Ze ({ ({ a.2 with f_I:=(w64 (a.2.f_I+1)) }:Zf) with f_Bad:=true }:Zf)))] ?_
 refine Ws [] [(2,oi 0)] [(0,bx (Ze ({ ({ a.2 with f_I:=(w64 (a.2.f_I+1)) }:Zf) with f_Bad:=true }:Zf)))] ?_
 refine WA.ret ?_
 obtain rfl:=zj_ c
 exact Zo (oi 0) [bx (Ze ({ ({ a.2 with f_I:=(w64 (a.2.f_I+1)) }:Zf) with f_Bad:=true }:Zf))] kr kr kr kr nd rfl rfl } }
 {
 rcases zo_ (d != 0) with g | g
 {
 have c:=Zk c g
 obtain ⟨t,a2,c⟩:=Zh c
 refine Wo [(2,.bool true),(4,.callR [] (ob t))] [(0,pt 0),(3,one (.int .u8 d)),(45,ob t)] [(0,bx (Ze ({ a.2 with f_I:=(w64 (a.2.f_I+1)) }:Zf)))] [(d != 0)=true,SM μ 146 [one (.str ([92,46,91,93,40,41,123,125,42,43,63,124,94,36,45,47]:List UInt8)),one (.int .u8 d)] [] (ob t) [],([]:List Nat).Nodup] ⟨g,(Zg3 k _ _ _ a2),nd,trivial⟩ ?_
 exact ⟨t,jk,c⟩ }
 {
 have c:=Zj c g
 refine Wo [(2,.bool false)] [(0,pt 0),(3,one (.int .u8 d)),(45,ob false)] [(0,bx (Ze ({ a.2 with f_I:=(w64 (a.2.f_I+1)) }:Zf)))] [(d != 0)=false] ⟨g,trivial⟩ ?_
 exact ⟨false,jk,c⟩ } } } } } }
def Zer (a:Zf) (b:List Zb):Option (Zd×Zf):=
  (some ((⟨1,b,([]:List Zd),0,0⟩:Zd),a))
def Zcn (k:Nat) (d:Bool×Zf) (a:Zf) (c:List Zb):Option (Zd×Zf):=
  (cond a.f_Bad ((some ((⟨0,([]:List Zb),([]:List Zd),0,0⟩:Zd),a))) ((F174 k c).bind fun b=>((cond d.1 ((F175 k b).bind fun e=>(Zer a e)) ((Zer a b))))))
def ZbZ (k:Nat) (c:Zf→(List Zb)→Option (Zd×Zf)) (e:Bool×Zf) (d:Zf) (b:List Zb):Option (Zd×Zf):=
  (F74 k d 93).bind fun a=>(cond a.1 ((Zcn k e a.2 b)) (c a.2 b))
def ZbB (k:Nat) (d:Zf→(List Zb)→Option (Zd×Zf)) (f:Bool×Zf) (a:List Zb) (c:Int×Zf) (e:Zf) (b:Int):Option (Zd×Zf):=
  if a.length+([(⟨c.1,b⟩:Zb)]:List Zb).length≤1073741824 then (ZbZ k d f e (a ++ ([(⟨c.1,b⟩:Zb)]:List Zb))) else none
def Zg1 (k:Nat) (c:Zf→(List Zb)→Option (Zd×Zf)) (d:Bool×Zf) (f:Zf) (b:List Zb):Option (Zd×Zf):=
  (cond (!f.f_Bad) ((F173 k f).bind fun a=>((cond (a.1 == (-1)) (if b.length+([(⟨48,57⟩:Zb)]:List Zb).length≤1073741824 then (ZbZ k c d a.2 (b ++ ([(⟨48,57⟩:Zb)]:List Zb))) else none) ((F74 k a.2 45).bind fun g=>(cond g.1 ((F173 k g.2).bind fun e=>((cond (decide (e.1<a.1)) ((ZbB k c d b a ({ e.2 with f_Bad:=true }:Zf) e.1)) ((ZbB k c d b a e.2 e.1))))) ((ZbB k c d b a g.2 a.1))))))) ((Zcn k d f b)))
def Zc7 (k:Nat) (a:Bool×Zf):Nat→Zf→(List Zb)→Option (Zd×Zf)
  | 0,_,_=>none
  | d+1,b,c=>Zg1 k (Zc7 k a d) a b c
def F144 (k:Nat) (v0:Zf):Option (Zd×Zf):=
  (F74 k v0 94).bind fun a=>((Zc7 k a k a.2 ([]:List Zb)))
theorem ZqD (k:Nat) (v0:Zf) (r:Zd×Zf) (c:F144 k v0=some r):SM μ 144 [pt 0] [bx (Ze v0)] (tv (Zc r.1)) [bx (Ze r.2)]:=by
 refine Zz [0] Tryz.func144 rfl kr kr ?_
 show WA _ _ 53 _ _ _
 refine Ws [(0,.obj 102)] [(0,pt 0),(2,pt 102)] [(0,bx (Ze v0)),(102,bx (Zc (⟨0,([]:List Zb),([]:List Zd),0,0⟩:Zd)))] ?_
 obtain ⟨a,b3,c⟩:=Zh c
 refine Wos [(1,.call [0] (ob a.1) [bx (Ze a.2)] [])] [(0,pt 0),(2,pt 102),(3,ob a.1)] [(0,bx (Ze a.2)),(102,bx (Zc (⟨0,([]:List Zb),([]:List Zd),0,0⟩:Zd)))] [SM μ 74 [pt 0,one (.int .u8 94)] [bx (Ze v0)] (ob a.1) [bx (Ze a.2)],([0]:List Nat).Nodup] ⟨(ZaA k _ _ _ b3),nd,trivial⟩ ?_
 refine Ws [(0,.obj 104)] [(0,pt 0),(2,pt 102),(3,ob a.1),(4,ar 104 0)] [(0,bx (Ze a.2)),(102,bx (Zc (⟨0,([]:List Zb),([]:List Zd),0,0⟩:Zd))),(104,.arr 2 (([]:List Zb).map Za))] ?_
 refine WA.join (fun v=>∃(h:Zf) (q:List Zb) (v158:Nat),J v [(0,pt 0),(2,pt 102),(3,ob a.1),(4,ar 104 v158)] [(0,bx (Ze h)),(102,bx (Zc (⟨0,([]:List Zb),([]:List Zd),0,0⟩:Zd))),(104,.arr 2 (q.map Za))]∧v158=(q:List _).length∧Zcn k a h q=some r) ?_ ?_
 {
 rintro v ⟨h,q,v158,u,c3,c⟩
 refine Wj u ?_
 clear u
 refine WA.seq ?_
 refine Ws [] [(2,pt 102),(3,ob a.1),(4,ar 104 v158),(44,ob h.f_Bad)] [(0,bx (Ze h)),(102,bx (Zc (⟨0,([]:List Zb),([]:List Zd),0,0⟩:Zd))),(104,.arr 2 (q.map Za))] ?_
 refine WA.cond (b:=h.f_Bad) rfl (fun a5=>?_) (fun a5=>?_)
 {
 have c:=Zk c a5
 refine Ws [] [(2,pt 102)] [(0,bx (Ze h)),(102,bx (Zc (⟨0,([]:List Zb),([]:List Zd),0,0⟩:Zd)))] ?_
 refine WA.ret ?_
 obtain rfl:=zj_ c
 exact Zo (tv (Zc (⟨0,([]:List Zb),([]:List Zd),0,0⟩:Zd))) [bx (Ze h)] kr kr kr kr nd rfl rfl }
 {
 have c:=Zj c a5
 refine WA.skip ?_
 refine WA.seq ?_
 refine WA.freeze 104 4 (s:=2) (n:=v158) (els:=(q.map Za)) rfl rfl zt ?_
 refine Wk [(2,pt 102),(3,ob a.1),(4,one (.sl (q.map Za)))] [(0,bx (Ze h)),(102,bx (Zc (⟨0,([]:List Zb),([]:List Zd),0,0⟩:Zd)))] ?_
 obtain ⟨x,b8,c⟩:=Zh c
 refine Wo [(1,.callR [] (one (.sl (x.map Za))))] [(2,pt 102),(3,ob a.1),(4,one (.sl (x.map Za)))] [(0,bx (Ze h)),(102,bx (Zc (⟨0,([]:List Zb),([]:List Zd),0,0⟩:Zd)))] [SM μ 174 [one (.sl (q.map Za))] [] (one (.sl (x.map Za))) [],([]:List Nat).Nodup] ⟨(ZqQ k _ _ b8),nd,trivial⟩ ?_
 refine WA.join (fun v=>∃(z:List Zb),J v [(2,pt 102),(4,one (.sl (z.map Za)))] [(0,bx (Ze h)),(102,bx (Zc (⟨0,([]:List Zb),([]:List Zd),0,0⟩:Zd)))]∧Zer h z=some r) ?_ ?_
 {
 rintro v ⟨z,u,c⟩
 refine Wj u ?_
 clear u
 refine Ws [] [(2,pt 102)] [(0,bx (Ze h)),(102,bx (Zc (⟨1,z,([]:List Zd),0,0⟩:Zd)))] ?_
 refine WA.ret ?_
 obtain rfl:=zj_ c
 exact Zo (tv (Zc (⟨1,z,([]:List Zd),0,0⟩:Zd))) [bx (Ze h)] kr kr kr kr nd rfl rfl }
 {
 refine Ws [] [(2,pt 102),(4,one (.sl (x.map Za))),(48,ob a.1)] [(0,bx (Ze h)),(102,bx (Zc (⟨0,([]:List Zb),([]:List Zd),0,0⟩:Zd)))] ?_
 refine WA.cond (b:=a.1) rfl (fun a6=>?_) (fun a6=>?_)
 {
 have c:=Zk c a6
 obtain ⟨a9,b9,c⟩:=Zh c
 refine Wo [(1,.callR [] (one (.sl (a9.map Za))))] [(2,pt 102),(4,one (.sl (a9.map Za)))] [(0,bx (Ze h)),(102,bx (Zc (⟨0,([]:List Zb),([]:List Zd),0,0⟩:Zd)))] [SM μ 175 [one (.sl (x.map Za))] [] (one (.sl (a9.map Za))) [],([]:List Nat).Nodup] ⟨(ZqR k _ _ b9),nd,trivial⟩ ?_
 exact ⟨a9,jk,c⟩ }
 {
 have c:=Zj c a6
 refine WA.skip ?_
 exact ⟨x,jk,c⟩ } } } }
 {
 refine WA.block ?_
 refine WA.loop (fun m v=>∃(j:Zf) (e:List Zb) (f:Nat),J v [(0,pt 0),(2,pt 102),(3,ob a.1),(4,ar 104 f)] [(0,bx (Ze j)),(102,bx (Zc (⟨0,([]:List Zb),([]:List Zd),0,0⟩:Zd))),(104,.arr 2 (e.map Za))]∧f=(e:List _).length∧Zc7 k a m j e=some r) k ⟨a.2,([]:List Zb),0,jk,zt,c⟩ ?_
 clear c
 rintro m4 v ⟨j,e,f,u,c1,c⟩
 refine Wj u ?_
 clear u
 cases m4 with
 | zero=>cases c
 | succ m4=>
  obtain ⟨a7,b0⟩:∃g,g=Zc7 k a m4:=⟨_,rfl⟩
  have c:Zg1 k a7 a j e=some r:=by first | (rw [b0];exact c) | exact c
  refine WA.seq ?_
  refine Ws [] [(0,pt 0),(2,pt 102),(3,ob a.1),(4,ar 104 f),(13,ob (!j.f_Bad))] [(0,bx (Ze j)),(102,bx (Zc (⟨0,([]:List Zb),([]:List Zd),0,0⟩:Zd))),(104,.arr 2 (e.map Za))] ?_
  refine WA.cond (b:=(!j.f_Bad)) rfl (fun a0=>?_) (fun a0=>?_)
  {
 have c:=Zk c a0
 refine WA.skip ?_
 refine WA.block ?_
 obtain ⟨d,b4,c⟩:=Zh c
 refine Wos [(1,.call [0] (oi d.1) [bx (Ze d.2)] [])] [(0,pt 0),(2,pt 102),(3,ob a.1),(4,ar 104 f),(5,oi d.1)] [(0,bx (Ze d.2)),(102,bx (Zc (⟨0,([]:List Zb),([]:List Zd),0,0⟩:Zd))),(104,.arr 2 (e.map Za))] [SM μ 173 [pt 0] [bx (Ze j)] (oi d.1) [bx (Ze d.2)],([0]:List Nat).Nodup] ⟨(ZmZ k _ _ b4),nd,trivial⟩ ?_
 refine WA.join (fun v=>∃(a8:Zf) (t:List Zb) (w:Nat),J v [(0,pt 0),(2,pt 102),(3,ob a.1),(4,ar 104 w)] [(0,bx (Ze a8)),(102,bx (Zc (⟨0,([]:List Zb),([]:List Zd),0,0⟩:Zd))),(104,.arr 2 (t.map Za))]∧w=(t:List _).length∧ZbZ k a7 a a8 t=some r) ?_ ?_
 {
 rintro v ⟨a8,t,w,u,c2,c⟩
 refine Wj u ?_
 clear u
 obtain ⟨p,b7,c⟩:=Zh c
 refine Wos [(1,.call [0] (ob p.1) [bx (Ze p.2)] [])] [(0,pt 0),(2,pt 102),(3,ob a.1),(4,ar 104 w),(40,ob p.1)] [(0,bx (Ze p.2)),(102,bx (Zc (⟨0,([]:List Zb),([]:List Zd),0,0⟩:Zd))),(104,.arr 2 (t.map Za))] [SM μ 74 [pt 0,one (.int .u8 93)] [bx (Ze a8)] (ob p.1) [bx (Ze p.2)],([0]:List Nat).Nodup] ⟨(ZaA k _ _ _ b7),nd,trivial⟩ ?_
 refine WA.cond (b:=p.1) rfl (fun a4=>?_) (fun a4=>?_)
 {
 have c:=Zk c a4
 refine WA.exit ?_
 exact ⟨p.2,t,w,jk,zt,c⟩ }
 {
 have c:=Zj c a4
 refine WA.skip ?_
 exact ⟨m4,zl_ _,p.2,t,w,jk,zt,by rw [b0] at c;exact c⟩ } }
 {
 refine Ws [] [(0,pt 0),(2,pt 102),(3,ob a.1),(4,ar 104 f),(5,oi d.1),(17,ob (d.1 == (-1)))] [(0,bx (Ze d.2)),(102,bx (Zc (⟨0,([]:List Zb),([]:List Zd),0,0⟩:Zd))),(104,.arr 2 (e.map Za))] ?_
 refine WA.cond (b:=(d.1 == (-1))) rfl (fun a1=>?_) (fun a1=>?_)
 {
 have c:=Zk c a1
 obtain ⟨b1,c⟩:=Zn c
 refine Wm (((e.map Za) ++ (([(⟨48,57⟩:Zb)]:List Zb).map Za)):(List (List PV))) ((e ++ ([(⟨48,57⟩:Zb)]:List Zb)).map Za) (fun m_=>([(0,pt 0),(2,pt 102),(3,ob a.1),(4,ar 104 (f+1))],[(0,bx (Ze d.2)),(102,bx (Zc (⟨0,([]:List Zb),([]:List Zd),0,0⟩:Zd))),(104,.arr 2 m_)],[f=(e.map Za).length,(e.map Za).length+(([(⟨48,57⟩:Zb)]:List Zb).map Za).length≤1073741824,∀es,es∈(([(⟨48,57⟩:Zb)]:List Zb).map Za)→es.length=2])) (zm) [] ⟨zt,(by first | exact b1 | (simp only [List.length_map,Zi];exact b1)),(ZT ([(⟨48,57⟩:Zb)]:List Zb)),trivial⟩ ?_
 exact ⟨d.2,(e ++ ([(⟨48,57⟩:Zb)]:List Zb)),(f+1),jk,zt,c⟩ }
 {
 have c:=Zj c a1
 refine Ws [] [(0,pt 0),(2,pt 102),(3,ob a.1),(4,ar 104 f),(5,oi d.1),(6,oi d.1)] [(0,bx (Ze d.2)),(102,bx (Zc (⟨0,([]:List Zb),([]:List Zd),0,0⟩:Zd))),(104,.arr 2 (e.map Za))] ?_
 refine WA.join (fun v=>∃(y:Zf) (l:Int),J v [(0,pt 0),(2,pt 102),(3,ob a.1),(4,ar 104 f),(5,oi d.1),(6,oi l)] [(0,bx (Ze y)),(102,bx (Zc (⟨0,([]:List Zb),([]:List Zd),0,0⟩:Zd))),(104,.arr 2 (e.map Za))]∧ZbB k a7 a e d y l=some r) ?_ ?_
 {
 rintro v ⟨y,l,u,c⟩
 refine Wj u ?_
 clear u
 obtain ⟨b2,c⟩:=Zn c
 refine Wm (((e.map Za) ++ (([(⟨d.1,l⟩:Zb)]:List Zb).map Za)):(List (List PV))) ((e ++ ([(⟨d.1,l⟩:Zb)]:List Zb)).map Za) (fun m_=>([(0,pt 0),(2,pt 102),(3,ob a.1),(4,ar 104 (f+1))],[(0,bx (Ze y)),(102,bx (Zc (⟨0,([]:List Zb),([]:List Zd),0,0⟩:Zd))),(104,.arr 2 m_)],[f=(e.map Za).length,(e.map Za).length+(([(⟨d.1,l⟩:Zb)]:List Zb).map Za).length≤1073741824,∀es,es∈(([(⟨d.1,l⟩:Zb)]:List Zb).map Za)→es.length=2])) (zm) [] ⟨zt,(by first | exact b2 | (simp only [List.length_map,Zi];exact b2)),(ZT ([(⟨d.1,l⟩:Zb)]:List Zb)),trivial⟩ ?_
 exact ⟨y,(e ++ ([(⟨d.1,l⟩:Zb)]:List Zb)),(f+1),jk,zt,c⟩ }
 {
 obtain ⟨o,b5,c⟩:=Zh c
 refine Wos [(1,.call [0] (ob o.1) [bx (Ze o.2)] [])] [(0,pt 0),(2,pt 102),(3,ob a.1),(4,ar 104 f),(5,oi d.1),(6,oi d.1),(24,ob o.1)] [(0,bx (Ze o.2)),(102,bx (Zc (⟨0,([]:List Zb),([]:List Zd),0,0⟩:Zd))),(104,.arr 2 (e.map Za))] [SM μ 74 [pt 0,one (.int .u8 45)] [bx (Ze d.2)] (ob o.1) [bx (Ze o.2)],([0]:List Nat).Nodup] ⟨(ZaA k _ _ _ b5),nd,trivial⟩ ?_
 refine WA.cond (b:=o.1) rfl (fun a2=>?_) (fun a2=>?_)
 {
 have c:=Zk c a2
 obtain ⟨i,b6,c⟩:=Zh c
 refine Wos [(1,.call [0] (oi i.1) [bx (Ze i.2)] [])] [(0,pt 0),(2,pt 102),(3,ob a.1),(4,ar 104 f),(5,oi d.1),(6,oi i.1)] [(0,bx (Ze i.2)),(102,bx (Zc (⟨0,([]:List Zb),([]:List Zd),0,0⟩:Zd))),(104,.arr 2 (e.map Za))] [SM μ 173 [pt 0] [bx (Ze o.2)] (oi i.1) [bx (Ze i.2)],([0]:List Nat).Nodup] ⟨(ZmZ k _ _ b6),nd,trivial⟩ ?_
 refine Ws [] [(0,pt 0),(2,pt 102),(3,ob a.1),(4,ar 104 f),(5,oi d.1),(6,oi i.1),(29,ob (decide (i.1<d.1)))] [(0,bx (Ze i.2)),(102,bx (Zc (⟨0,([]:List Zb),([]:List Zd),0,0⟩:Zd))),(104,.arr 2 (e.map Za))] ?_
 refine WA.cond (b:=(decide (i.1<d.1))) rfl (fun a3=>?_) (fun a3=>?_)
 {
 have c:=Zk c a3
 refine Wr [] [(0,pt 0),(2,pt 102),(3,ob a.1),(4,ar 104 f),(5,oi d.1),(6,oi i.1)] [(0,bx (Ze ({ i.2 with f_Bad:=true }:Zf))),(102,bx (Zc (⟨0,([]:List Zb),([]:List Zd),0,0⟩:Zd))),(104,.arr 2 (e.map Za))] ?_
 exact ⟨({ i.2 with f_Bad:=true }:Zf),i.1,jk,c⟩ }
 {
 have c:=Zj c a3
 refine WA.skip ?_
 exact ⟨i.2,i.1,jk,c⟩ } }
 {
 have c:=Zj c a2
 refine WA.skip ?_
 exact ⟨o.2,d.1,jk,c⟩ } } } } }
  {
 have c:=Zj c a0
 refine WA.exit ?_
 exact ⟨j,e,f,jk,zt,c⟩ } }
def ZgR (b:Zd×Zf) (a:Zf):Option (Zd×Zf):=
  (some (b.1,a))
def ZbY (k:Nat) (b:Zf):Option (Zd×Zf):=
  (F147 k b).bind fun a=>(F145 k a.1).bind fun c=>(some (c,a.2))
def Zc3 (k:Nat) (a:Bool×Zf) (c:Int) (b:Bool):Option (Zd×Zf):=
  cond b ((F145 k (w64 c)).bind fun d=>(some (d,({ a.2 with f_I:=(w64 (a.2.f_I+1)) }:Zf)))) (((ZbY k ({ ({ a.2 with f_I:=(w64 (a.2.f_I+1)) }:Zf) with f_Bad:=true }:Zf))))
def ZgS (k:Nat) (a:Bool×Zf) (b:Bool):Option (Zd×Zf):=
  cond b ((ZbY k ({ a.2 with f_Bad:=true }:Zf))) ((ZbY k a.2))
def F119 (R51:Zf→Option (Zd×Zf)) (k:Nat) (v0:Zf):Option (Zd×Zf):=
  (F100 k v0).bind fun i=>(F74 k v0 46).bind fun c=>(cond c.1 ((F143 k).bind fun j=>(some ((⟨1,j,([]:List Zd),0,0⟩:Zd),c.2))) ((F74 k c.2 40).bind fun d=>(cond d.1 ((R51 d.2).bind fun e=>(F74 k e.2 41).bind fun f=>(cond (!f.1) ((ZgR e ({ f.2 with f_Bad:=true }:Zf))) ((ZgR e f.2)))) ((F74 k d.2 91).bind fun g=>(cond g.1 ((F144 k g.2).bind fun h=>(some (h.1,h.2))) ((F74 k g.2 92).bind fun a=>(cond a.1 ((F100 k a.2).bind fun b=>(((cond (b == 100) ((some ((⟨1,([(⟨48,57⟩:Zb)]:List Zb),([]:List Zd),0,0⟩:Zd),({ a.2 with f_I:=(w64 (a.2.f_I+1)) }:Zf)))) ((cond (b == 110) ((F145 k 10).bind fun l=>(some (l,({ a.2 with f_I:=(w64 (a.2.f_I+1)) }:Zf)))) ((cond (b == 116) ((F145 k 9).bind fun m=>(some (m,({ a.2 with f_I:=(w64 (a.2.f_I+1)) }:Zf)))) (cond (b != 0) ((F146 k ([92,46,91,93,40,41,123,125,42,43,63,124,94,36,45,47]:List UInt8) b).bind fun n=>(Zc3 k a b n)) ((Zc3 k a b false))))))))))) (cond (decide (a.2.f_I<(a.2.f_S.length:Int))) ((F146 k ([93,91,40,41,123,125,42,43,63,124,94,36]:List UInt8) i).bind fun o=>(ZgS k a o)) ((ZgS k a false))))))))))
theorem ZqA (R51:Zf→Option (Zd×Zf)) (IH51:∀(v0:Zf) (r:Zd×Zf),R51 v0=some r→SM μ 51 [pt 0] [bx (Ze v0)] (tv (Zc r.1)) [bx (Ze r.2)]) (k:Nat) (v0:Zf) (r:Zd×Zf) (c:F119 R51 k v0=some r):SM μ 119 [pt 0] [bx (Ze v0)] (tv (Zc r.1)) [bx (Ze r.2)]:=by
 refine Zz [0] Tryz.func119 rfl kr kr ?_
 show WA _ _ 90 _ _ _
 refine Ws [(0,.obj 102)] [(0,pt 0),(2,pt 102)] [(0,bx (Ze v0)),(102,bx (Zc (⟨0,([]:List Zb),([]:List Zd),0,0⟩:Zd)))] ?_
 refine WA.join (fun q=>∃(a5:Zf),J q [(0,pt 0),(2,pt 102)] [(0,bx (Ze a5)),(102,bx (Zc (⟨0,([]:List Zb),([]:List Zd),0,0⟩:Zd)))]∧ZbY k a5=some r) ?_ ?_
 {
 rintro q ⟨a5,p,c⟩
 refine Wj p ?_
 clear p
 obtain ⟨m,c8,c⟩:=Zh c
 obtain ⟨b2,c9,c⟩:=Zh c
 refine Wos [(1,.call [0] (oi m.1) [bx (Ze m.2)] []),(2,.callR [] (tv (Zc b2)))] [(2,pt 102)] [(0,bx (Ze m.2)),(102,bx (Zc b2))] [SM μ 147 [pt 0] [bx (Ze a5)] (oi m.1) [bx (Ze m.2)],([0]:List Nat).Nodup,SM μ 145 [oi m.1] [] (tv (Zc b2)) [],([]:List Nat).Nodup] ⟨(ZmV k _ _ c8),nd,(Zg2 k _ _ c9),nd,trivial⟩ ?_
 refine WA.ret ?_
 obtain rfl:=zj_ c
 exact Zo (tv (Zc b2)) [bx (Ze m.2)] kr kr kr kr nd rfl rfl }
 {
 obtain ⟨j,b3,c⟩:=Zh c
 refine Wos [(1,.callR [0] (one (.int .u8 j)))] [(0,pt 0),(2,pt 102),(3,one (.int .u8 j))] [(0,bx (Ze v0)),(102,bx (Zc (⟨0,([]:List Zb),([]:List Zd),0,0⟩:Zd)))] [SM μ 100 [pt 0] [bx (Ze v0)] (one (.int .u8 j)) [bx (Ze v0)],([0]:List Nat).Nodup] ⟨(Zas k _ _ b3),nd,trivial⟩ ?_
 refine WA.block ?_
 obtain ⟨f,b4,c⟩:=Zh c
 refine Wos [(1,.call [0] (ob f.1) [bx (Ze f.2)] [])] [(0,pt 0),(2,pt 102),(3,one (.int .u8 j)),(8,ob f.1)] [(0,bx (Ze f.2)),(102,bx (Zc (⟨0,([]:List Zb),([]:List Zd),0,0⟩:Zd)))] [SM μ 74 [pt 0,one (.int .u8 46)] [bx (Ze v0)] (ob f.1) [bx (Ze f.2)],([0]:List Nat).Nodup] ⟨(ZaA k _ _ _ b4),nd,trivial⟩ ?_
 refine WA.cond (b:=f.1) rfl (fun t=>?_) (fun t=>?_)
 {
 have c:=Zk c t
 obtain ⟨a6,b5,c⟩:=Zh c
 refine Wos [(0,.callR [] (one (.sl (a6.map Za))))] [(2,pt 102)] [(0,bx (Ze f.2)),(102,bx (Zc (⟨1,a6,([]:List Zd),0,0⟩:Zd)))] [SM μ 143 [] [] (one (.sl (a6.map Za))) [],([]:List Nat).Nodup] ⟨(ZjS k _ b5),nd,trivial⟩ ?_
 refine WA.ret ?_
 obtain rfl:=zj_ c
 exact Zo (tv (Zc (⟨1,a6,([]:List Zd),0,0⟩:Zd))) [bx (Ze f.2)] kr kr kr kr nd rfl rfl }
 {
 have c:=Zj c t
 obtain ⟨h,b6,c⟩:=Zh c
 refine Wos [(1,.call [0] (ob h.1) [bx (Ze h.2)] [])] [(0,pt 0),(2,pt 102),(3,one (.int .u8 j)),(13,ob h.1)] [(0,bx (Ze h.2)),(102,bx (Zc (⟨0,([]:List Zb),([]:List Zd),0,0⟩:Zd)))] [SM μ 74 [pt 0,one (.int .u8 40)] [bx (Ze f.2)] (ob h.1) [bx (Ze h.2)],([0]:List Nat).Nodup] ⟨(ZaA k _ _ _ b6),nd,trivial⟩ ?_
 refine WA.cond (b:=h.1) rfl (fun u=>?_) (fun u=>?_)
 {
 have c:=Zk c u
 obtain ⟨e,b7,c⟩:=Zh c
 refine Wos [(1,.call [0] (tv (Zc e.1)) [bx (Ze e.2)] []),(2,.obj 104)] [(0,pt 0),(2,pt 102),(4,pt 104)] [(0,bx (Ze e.2)),(102,bx (Zc (⟨0,([]:List Zb),([]:List Zd),0,0⟩:Zd))),(104,bx (Zc e.1))] [SM μ 51 [pt 0] [bx (Ze h.2)] (tv (Zc e.1)) [bx (Ze e.2)],([0]:List Nat).Nodup] ⟨(IH51 _ _ b7),nd,trivial⟩ ?_
 refine WA.join (fun q=>∃(s:Zf),J q [(2,pt 102),(4,pt 104)] [(0,bx (Ze s)),(102,bx (Zc (⟨0,([]:List Zb),([]:List Zd),0,0⟩:Zd))),(104,bx (Zc e.1))]∧ZgR e s=some r) ?_ ?_
 {
 rintro q ⟨s,p,c⟩
 refine Wj p ?_
 clear p
 refine Ws [] [(2,pt 102)] [(0,bx (Ze s)),(102,bx (Zc e.1))] ?_
 refine WA.ret ?_
 obtain rfl:=zj_ c
 exact Zo (tv (Zc e.1)) [bx (Ze s)] kr kr kr kr nd rfl rfl }
 {
 obtain ⟨g,b8,c⟩:=Zh c
 refine Wos [(1,.call [0] (ob g.1) [bx (Ze g.2)] [])] [(0,pt 0),(2,pt 102),(4,pt 104),(20,ob (!g.1))] [(0,bx (Ze g.2)),(102,bx (Zc (⟨0,([]:List Zb),([]:List Zd),0,0⟩:Zd))),(104,bx (Zc e.1))] [SM μ 74 [pt 0,one (.int .u8 41)] [bx (Ze e.2)] (ob g.1) [bx (Ze g.2)],([0]:List Nat).Nodup] ⟨(ZaA k _ _ _ b8),nd,trivial⟩ ?_
 refine WA.cond (b:=(!g.1)) rfl (fun v=>?_) (fun v=>?_)
 {
 have c:=Zk c v
 refine Wr [] [(2,pt 102),(4,pt 104)] [(0,bx (Ze ({ g.2 with f_Bad:=true }:Zf))),(102,bx (Zc (⟨0,([]:List Zb),([]:List Zd),0,0⟩:Zd))),(104,bx (Zc e.1))] ?_
 exact ⟨({ g.2 with f_Bad:=true }:Zf),jk,c⟩ }
 {
 have c:=Zj c v
 refine WA.skip ?_
 exact ⟨g.2,jk,c⟩ } } }
 {
 have c:=Zj c u
 obtain ⟨i,b9,c⟩:=Zh c
 refine Wos [(1,.call [0] (ob i.1) [bx (Ze i.2)] [])] [(0,pt 0),(2,pt 102),(3,one (.int .u8 j)),(25,ob i.1)] [(0,bx (Ze i.2)),(102,bx (Zc (⟨0,([]:List Zb),([]:List Zd),0,0⟩:Zd)))] [SM μ 74 [pt 0,one (.int .u8 91)] [bx (Ze h.2)] (ob i.1) [bx (Ze i.2)],([0]:List Nat).Nodup] ⟨(ZaA k _ _ _ b9),nd,trivial⟩ ?_
 refine WA.cond (b:=i.1) rfl (fun w=>?_) (fun w=>?_)
 {
 have c:=Zk c w
 obtain ⟨l,c0,c⟩:=Zh c
 refine Wos [(1,.call [0] (tv (Zc l.1)) [bx (Ze l.2)] [])] [(2,pt 102)] [(0,bx (Ze l.2)),(102,bx (Zc l.1))] [SM μ 144 [pt 0] [bx (Ze i.2)] (tv (Zc l.1)) [bx (Ze l.2)],([0]:List Nat).Nodup] ⟨(ZqD k _ _ c0),nd,trivial⟩ ?_
 refine WA.ret ?_
 obtain rfl:=zj_ c
 exact Zo (tv (Zc l.1)) [bx (Ze l.2)] kr kr kr kr nd rfl rfl }
 {
 have c:=Zj c w
 obtain ⟨a,c1,c⟩:=Zh c
 refine Wos [(1,.call [0] (ob a.1) [bx (Ze a.2)] [])] [(0,pt 0),(2,pt 102),(3,one (.int .u8 j)),(30,ob a.1)] [(0,bx (Ze a.2)),(102,bx (Zc (⟨0,([]:List Zb),([]:List Zd),0,0⟩:Zd)))] [SM μ 74 [pt 0,one (.int .u8 92)] [bx (Ze i.2)] (ob a.1) [bx (Ze a.2)],([0]:List Nat).Nodup] ⟨(ZaA k _ _ _ c1),nd,trivial⟩ ?_
 refine WA.cond (b:=a.1) rfl (fun x=>?_) (fun x=>?_)
 {
 have c:=Zk c x
 obtain ⟨d,c2,c⟩:=Zh c
 refine Wos [(1,.callR [0] (one (.int .u8 d)))] [(0,pt 0),(2,pt 102),(5,one (.int .u8 d))] [(0,bx (Ze a.2)),(102,bx (Zc (⟨0,([]:List Zb),([]:List Zd),0,0⟩:Zd)))] [SM μ 100 [pt 0] [bx (Ze a.2)] (one (.int .u8 d)) [bx (Ze a.2)],([0]:List Nat).Nodup] ⟨(Zas k _ _ c2),nd,trivial⟩ ?_
 refine Ws [] [(0,pt 0),(2,pt 102),(5,one (.int .u8 d))] [(0,bx (Ze ({ a.2 with f_I:=(w64 (a.2.f_I+1)) }:Zf))),(102,bx (Zc (⟨0,([]:List Zb),([]:List Zd),0,0⟩:Zd)))] ?_
 refine WA.seq ?_
 refine WA.block ?_
 refine Ws [] [(0,pt 0),(2,pt 102),(5,one (.int .u8 d)),(42,ob (d == 100))] [(0,bx (Ze ({ a.2 with f_I:=(w64 (a.2.f_I+1)) }:Zf))),(102,bx (Zc (⟨0,([]:List Zb),([]:List Zd),0,0⟩:Zd)))] ?_
 refine WA.cond (b:=(d == 100)) rfl (fun y=>?_) (fun y=>?_)
 {
 have c:=Zk c y
 refine Ws [] [(2,pt 102)] [(0,bx (Ze ({ a.2 with f_I:=(w64 (a.2.f_I+1)) }:Zf))),(102,bx (Zc (⟨1,([(⟨48,57⟩:Zb)]:List Zb),([]:List Zd),0,0⟩:Zd)))] ?_
 refine WA.ret ?_
 obtain rfl:=zj_ c
 exact Zo (tv (Zc (⟨1,([(⟨48,57⟩:Zb)]:List Zb),([]:List Zd),0,0⟩:Zd))) [bx (Ze ({ a.2 with f_I:=(w64 (a.2.f_I+1)) }:Zf))] kr kr kr kr nd rfl rfl }
 {
 have c:=Zj c y
 refine Ws [] [(0,pt 0),(2,pt 102),(5,one (.int .u8 d)),(48,ob (d == 110))] [(0,bx (Ze ({ a.2 with f_I:=(w64 (a.2.f_I+1)) }:Zf))),(102,bx (Zc (⟨0,([]:List Zb),([]:List Zd),0,0⟩:Zd)))] ?_
 refine WA.cond (b:=(d == 110)) rfl (fun z=>?_) (fun z=>?_)
 {
 have c:=Zk c z
 obtain ⟨a7,c3,c⟩:=Zh c
 refine Wos [(0,.callR [] (tv (Zc a7)))] [(2,pt 102)] [(0,bx (Ze ({ a.2 with f_I:=(w64 (a.2.f_I+1)) }:Zf))),(102,bx (Zc a7))] [SM μ 145 [oi 10] [] (tv (Zc a7)) [],([]:List Nat).Nodup] ⟨(Zg2 k _ _ c3),nd,trivial⟩ ?_
 refine WA.ret ?_
 obtain rfl:=zj_ c
 exact Zo (tv (Zc a7)) [bx (Ze ({ a.2 with f_I:=(w64 (a.2.f_I+1)) }:Zf))] kr kr kr kr nd rfl rfl }
 {
 have c:=Zj c z
 refine Ws [] [(0,pt 0),(2,pt 102),(5,one (.int .u8 d)),(52,ob (d == 116))] [(0,bx (Ze ({ a.2 with f_I:=(w64 (a.2.f_I+1)) }:Zf))),(102,bx (Zc (⟨0,([]:List Zb),([]:List Zd),0,0⟩:Zd)))] ?_
 refine WA.cond (b:=(d == 116)) rfl (fun a0=>?_) (fun a0=>?_)
 {
 have c:=Zk c a0
 obtain ⟨a8,c4,c⟩:=Zh c
 refine Wos [(0,.callR [] (tv (Zc a8)))] [(2,pt 102)] [(0,bx (Ze ({ a.2 with f_I:=(w64 (a.2.f_I+1)) }:Zf))),(102,bx (Zc a8))] [SM μ 145 [oi 9] [] (tv (Zc a8)) [],([]:List Nat).Nodup] ⟨(Zg2 k _ _ c4),nd,trivial⟩ ?_
 refine WA.ret ?_
 obtain rfl:=zj_ c
 exact Zo (tv (Zc a8)) [bx (Ze ({ a.2 with f_I:=(w64 (a.2.f_I+1)) }:Zf))] kr kr kr kr nd rfl rfl }
 {
 have c:=Zj c a0
 refine WA.join (fun q=>∃(a3:Bool),J q [(0,pt 0),(2,pt 102),(5,one (.int .u8 d)),(56,ob a3)] [(0,bx (Ze ({ a.2 with f_I:=(w64 (a.2.f_I+1)) }:Zf))),(102,bx (Zc (⟨0,([]:List Zb),([]:List Zd),0,0⟩:Zd)))]∧Zc3 k a d a3=some r) ?_ ?_
 {
 rintro q ⟨a3,p,c⟩
 refine Wj p ?_
 clear p
 refine WA.cond (b:=a3) rfl (fun a1=>?_) (fun a1=>?_)
 {
 have c:=Zk c a1
 obtain ⟨b0,c6,c⟩:=Zh c
 refine Wos [(2,.callR [] (tv (Zc b0)))] [(2,pt 102)] [(0,bx (Ze ({ a.2 with f_I:=(w64 (a.2.f_I+1)) }:Zf))),(102,bx (Zc b0))] [SM μ 145 [oi (w64 d)] [] (tv (Zc b0)) [],([]:List Nat).Nodup] ⟨(Zg2 k _ _ c6),nd,trivial⟩ ?_
 refine WA.ret ?_
 obtain rfl:=zj_ c
 exact Zo (tv (Zc b0)) [bx (Ze ({ a.2 with f_I:=(w64 (a.2.f_I+1)) }:Zf))] kr kr kr kr nd rfl rfl }
 {
 have c:=Zj c a1
 refine WA.skip ?_
 refine Wr [] [(0,pt 0),(2,pt 102)] [(0,bx (Ze ({ ({ a.2 with f_I:=(w64 (a.2.f_I+1)) }:Zf) with f_Bad:=true }:Zf))),(102,bx (Zc (⟨0,([]:List Zb),([]:List Zd),0,0⟩:Zd)))] ?_
 exact ⟨({ ({ a.2 with f_I:=(w64 (a.2.f_I+1)) }:Zf) with f_Bad:=true }:Zf),jk,c⟩ } }
 {
 rcases zo_ (d != 0) with n | n
 {
 have c:=Zk c n
 obtain ⟨a9,c5,c⟩:=Zh c
 refine Wo [(2,.bool true),(4,.callR [] (ob a9))] [(0,pt 0),(2,pt 102),(5,one (.int .u8 d)),(56,ob a9)] [(0,bx (Ze ({ a.2 with f_I:=(w64 (a.2.f_I+1)) }:Zf))),(102,bx (Zc (⟨0,([]:List Zb),([]:List Zd),0,0⟩:Zd)))] [(d != 0)=true,SM μ 146 [one (.str ([92,46,91,93,40,41,123,125,42,43,63,124,94,36,45,47]:List UInt8)),one (.int .u8 d)] [] (ob a9) [],([]:List Nat).Nodup] ⟨n,(Zg3 k _ _ _ c5),nd,trivial⟩ ?_
 exact ⟨a9,jk,c⟩ }
 {
 have c:=Zj c n
 refine Wo [(2,.bool false)] [(0,pt 0),(2,pt 102),(5,one (.int .u8 d)),(56,ob false)] [(0,bx (Ze ({ a.2 with f_I:=(w64 (a.2.f_I+1)) }:Zf))),(102,bx (Zc (⟨0,([]:List Zb),([]:List Zd),0,0⟩:Zd)))] [(d != 0)=false] ⟨n,trivial⟩ ?_
 exact ⟨false,jk,c⟩ } } } } } }
 {
 have c:=Zj c x
 refine WA.join (fun q=>∃(a4:Bool),J q [(0,pt 0),(2,pt 102),(69,ob a4)] [(0,bx (Ze a.2)),(102,bx (Zc (⟨0,([]:List Zb),([]:List Zd),0,0⟩:Zd)))]∧ZgS k a a4=some r) ?_ ?_
 {
 rintro q ⟨a4,p,c⟩
 refine Wj p ?_
 clear p
 refine WA.cond (b:=a4) rfl (fun a2=>?_) (fun a2=>?_)
 {
 have c:=Zk c a2
 refine Wr [] [(0,pt 0),(2,pt 102)] [(0,bx (Ze ({ a.2 with f_Bad:=true }:Zf))),(102,bx (Zc (⟨0,([]:List Zb),([]:List Zd),0,0⟩:Zd)))] ?_
 exact ⟨({ a.2 with f_Bad:=true }:Zf),jk,c⟩ }
 {
 have c:=Zj c a2
 refine WA.skip ?_
 exact ⟨a.2,jk,c⟩ } }
 {
 rcases zo_ (decide (a.2.f_I<(a.2.f_S.length:Int))) with o | o
 {
 have c:=Zk c o
 obtain ⟨b1,c7,c⟩:=Zh c
 refine Wd [(10,.bool true),(12,.callR [] (ob b1))] [(0,pt 0),(2,pt 102),(69,ob b1)] [(0,bx (Ze a.2)),(102,bx (Zc (⟨0,([]:List Zb),([]:List Zd),0,0⟩:Zd)))] [(decide (a.2.f_I<(a.2.f_S.length:Int)))=true,SM μ 146 [one (.str ([93,91,40,41,123,125,42,43,63,124,94,36]:List UInt8)),one (.int .u8 j)] [] (ob b1) [],([]:List Nat).Nodup] ⟨o,(Zg3 k _ _ _ c7),nd,trivial⟩ ?_
 exact ⟨b1,jk,c⟩ }
 {
 have c:=Zj c o
 refine Wd [(10,.bool false),(12,.callR [] (.tup []))] [(0,pt 0),(2,pt 102),(69,ob false)] [(0,bx (Ze a.2)),(102,bx (Zc (⟨0,([]:List Zb),([]:List Zd),0,0⟩:Zd)))] [(decide (a.2.f_I<(a.2.f_S.length:Int)))=false] ⟨o,trivial⟩ ?_
 exact ⟨false,jk,c⟩ } } } } } } }
def F101 (R51:Zf→Option (Zd×Zf)) (k:Nat) (v0:Zf):Option (Zd×Zf):=
  (F119 R51 k v0).bind fun a=>(F74 k a.2 42).bind fun b=>(cond b.1 ((some ((⟨4,([]:List Zb),([a.1]:List Zd),0,(-1)⟩:Zd),b.2))) ((F74 k b.2 43).bind fun c=>(cond c.1 ((some ((⟨4,([]:List Zb),([a.1]:List Zd),1,(-1)⟩:Zd),c.2))) ((F74 k c.2 63).bind fun d=>(cond d.1 ((some ((⟨4,([]:List Zb),([a.1]:List Zd),0,1⟩:Zd),d.2))) ((F74 k d.2 123).bind fun e=>(cond e.1 ((F120 k e.2 a.1).bind fun f=>(some (f.1,f.2))) (((some (a.1,e.2)))))))))))
theorem Zqw (R51:Zf→Option (Zd×Zf)) (IH51:∀(v0:Zf) (r:Zd×Zf),R51 v0=some r→SM μ 51 [pt 0] [bx (Ze v0)] (tv (Zc r.1)) [bx (Ze r.2)]) (k:Nat) (v0:Zf) (r:Zd×Zf) (c:F101 R51 k v0=some r):SM μ 101 [pt 0] [bx (Ze v0)] (tv (Zc r.1)) [bx (Ze r.2)]:=by
 refine Zz [0] Tryz.func101 rfl kr kr ?_
 show WA _ _ 31 _ _ _
 refine Ws [(0,.obj 102)] [(0,pt 0),(2,pt 102)] [(0,bx (Ze v0)),(102,bx (Zc (⟨0,([]:List Zb),([]:List Zd),0,0⟩:Zd)))] ?_
 obtain ⟨a,o,c⟩:=Zh c
 refine Wos [(1,.call [0] (tv (Zc a.1)) [bx (Ze a.2)] []),(2,.obj 103)] [(0,pt 0),(2,pt 102),(3,pt 103)] [(0,bx (Ze a.2)),(102,bx (Zc (⟨0,([]:List Zb),([]:List Zd),0,0⟩:Zd))),(103,bx (Zc a.1))] [SM μ 119 [pt 0] [bx (Ze v0)] (tv (Zc a.1)) [bx (Ze a.2)],([0]:List Nat).Nodup] ⟨(ZqA R51 IH51 k _ _ o),nd,trivial⟩ ?_
 refine WA.seq ?_
 refine WA.block ?_
 obtain ⟨d,p,c⟩:=Zh c
 refine Wos [(1,.call [0] (ob d.1) [bx (Ze d.2)] [])] [(0,pt 0),(2,pt 102),(3,pt 103),(6,ob d.1)] [(0,bx (Ze d.2)),(102,bx (Zc (⟨0,([]:List Zb),([]:List Zd),0,0⟩:Zd))),(103,bx (Zc a.1))] [SM μ 74 [pt 0,one (.int .u8 42)] [bx (Ze a.2)] (ob d.1) [bx (Ze d.2)],([0]:List Nat).Nodup] ⟨(ZaA k _ _ _ p),nd,trivial⟩ ?_
 refine WA.cond (b:=d.1) rfl (fun i=>?_) (fun i=>?_)
 {
 have c:=Zk c i
 refine WA.seq ?_
 refine Wm ([(Zc a.1)]:(List (List PV))) (Zm ([a.1]:List Zd)) (fun n=>([(2,pt 102)],[(0,bx (Ze d.2)),(102,bx ([.int .i64 4] ++ [.sl (([]:List Zb).map Za)] ++ [.sl n] ++ [.int .i64 0] ++ [.int .i64 (-1)]))],[])) (zm) [] trivial ?_
 refine WA.ret ?_
 obtain rfl:=zj_ c
 exact Zo (tv (Zc (⟨4,([]:List Zb),([a.1]:List Zd),0,(-1)⟩:Zd))) [bx (Ze d.2)] kr kr kr kr nd rfl rfl }
 {
 have c:=Zj c i
 obtain ⟨e,q,c⟩:=Zh c
 refine Wos [(1,.call [0] (ob e.1) [bx (Ze e.2)] [])] [(0,pt 0),(2,pt 102),(3,pt 103),(12,ob e.1)] [(0,bx (Ze e.2)),(102,bx (Zc (⟨0,([]:List Zb),([]:List Zd),0,0⟩:Zd))),(103,bx (Zc a.1))] [SM μ 74 [pt 0,one (.int .u8 43)] [bx (Ze d.2)] (ob e.1) [bx (Ze e.2)],([0]:List Nat).Nodup] ⟨(ZaA k _ _ _ q),nd,trivial⟩ ?_
 refine WA.cond (b:=e.1) rfl (fun j=>?_) (fun j=>?_)
 {
 have c:=Zk c j
 refine WA.seq ?_
 refine Wm ([(Zc a.1)]:(List (List PV))) (Zm ([a.1]:List Zd)) (fun n=>([(2,pt 102)],[(0,bx (Ze e.2)),(102,bx ([.int .i64 4] ++ [.sl (([]:List Zb).map Za)] ++ [.sl n] ++ [.int .i64 1] ++ [.int .i64 (-1)]))],[])) (zm) [] trivial ?_
 refine WA.ret ?_
 obtain rfl:=zj_ c
 exact Zo (tv (Zc (⟨4,([]:List Zb),([a.1]:List Zd),1,(-1)⟩:Zd))) [bx (Ze e.2)] kr kr kr kr nd rfl rfl }
 {
 have c:=Zj c j
 obtain ⟨f,s,c⟩:=Zh c
 refine Wos [(1,.call [0] (ob f.1) [bx (Ze f.2)] [])] [(0,pt 0),(2,pt 102),(3,pt 103),(18,ob f.1)] [(0,bx (Ze f.2)),(102,bx (Zc (⟨0,([]:List Zb),([]:List Zd),0,0⟩:Zd))),(103,bx (Zc a.1))] [SM μ 74 [pt 0,one (.int .u8 63)] [bx (Ze e.2)] (ob f.1) [bx (Ze f.2)],([0]:List Nat).Nodup] ⟨(ZaA k _ _ _ s),nd,trivial⟩ ?_
 refine WA.cond (b:=f.1) rfl (fun l=>?_) (fun l=>?_)
 {
 have c:=Zk c l
 refine WA.seq ?_
 refine Wm ([(Zc a.1)]:(List (List PV))) (Zm ([a.1]:List Zd)) (fun n=>([(2,pt 102)],[(0,bx (Ze f.2)),(102,bx ([.int .i64 4] ++ [.sl (([]:List Zb).map Za)] ++ [.sl n] ++ [.int .i64 0] ++ [.int .i64 1]))],[])) (zm) [] trivial ?_
 refine WA.ret ?_
 obtain rfl:=zj_ c
 exact Zo (tv (Zc (⟨4,([]:List Zb),([a.1]:List Zd),0,1⟩:Zd))) [bx (Ze f.2)] kr kr kr kr nd rfl rfl }
 {
 have c:=Zj c l
 obtain ⟨g,t,c⟩:=Zh c
 refine Wos [(1,.call [0] (ob g.1) [bx (Ze g.2)] [])] [(0,pt 0),(2,pt 102),(3,pt 103),(24,ob g.1)] [(0,bx (Ze g.2)),(102,bx (Zc (⟨0,([]:List Zb),([]:List Zd),0,0⟩:Zd))),(103,bx (Zc a.1))] [SM μ 74 [pt 0,one (.int .u8 123)] [bx (Ze f.2)] (ob g.1) [bx (Ze g.2)],([0]:List Nat).Nodup] ⟨(ZaA k _ _ _ t),nd,trivial⟩ ?_
 refine WA.cond (b:=g.1) rfl (fun m=>?_) (fun m=>?_)
 {
 have c:=Zk c m
 obtain ⟨h,u,c⟩:=Zh c
 refine Wos [(2,.call [0] (tv (Zc h.1)) [bx (Ze h.2)] [])] [(2,pt 102)] [(0,bx (Ze h.2)),(102,bx (Zc h.1))] [SM μ 120 [pt 0,tv (Zc a.1)] [bx (Ze g.2)] (tv (Zc h.1)) [bx (Ze h.2)],([0]:List Nat).Nodup] ⟨(ZqB k _ _ _ u),nd,trivial⟩ ?_
 refine WA.ret ?_
 obtain rfl:=zj_ c
 exact Zo (tv (Zc h.1)) [bx (Ze h.2)] kr kr kr kr nd rfl rfl }
 {
 have c:=Zj c m
 refine WA.skip ?_
 refine Ws [] [(2,pt 102)] [(0,bx (Ze g.2)),(102,bx (Zc a.1))] ?_
 refine WA.ret ?_
 obtain rfl:=zj_ c
 exact Zo (tv (Zc a.1)) [bx (Ze g.2)] kr kr kr kr nd rfl rfl } } } }
def ZcK (R51:Zf→Option (Zd×Zf)) (k:Nat) (d:Zf→(List Zd)→Option (Zd×Zf)) (b:Zf) (a:List Zd) (e:Bool):Option (Zd×Zf):=
  cond e ((F101 R51 k b).bind fun c=>if a.length+([c.1]:List Zd).length≤1073741824 then d c.2 (a ++ ([c.1]:List Zd)) else none) (((cond ((a.length:Int) == 1) (if (0:Int)≤0∧0<(a.length:Int) then (idxL a 0).bind fun f=>(some (f,b)) else none) (((some ((⟨2,([]:List Zb),a,0,0⟩:Zd),b)))))))
def ZeY (R51:Zf→Option (Zd×Zf)) (k:Nat) (b:Zf→(List Zd)→Option (Zd×Zf)) (a:Zf) (c:List Zd):Option (Zd×Zf):=
  cond (!a.f_Bad) (cond (decide (a.f_I<(a.f_S.length:Int))) ((F100 k a).bind fun d=>cond (d != 124) ((F100 k a).bind fun e=>(ZcK R51 k b a c (e != 41))) ((ZcK R51 k b a c false))) ((ZcK R51 k b a c false))) ((ZcK R51 k b a c false))
def ZcL (R51:Zf→Option (Zd×Zf)) (k:Nat):Nat→Zf→(List Zd)→Option (Zd×Zf)
  | 0,_,_=>none
  | c+1,a,b=>ZeY R51 k (ZcL R51 k c) a b
def F73 (R51:Zf→Option (Zd×Zf)) (k:Nat) (v0:Zf):Option (Zd×Zf):=
  ((ZcL R51 k k v0 ([]:List Zd)))
theorem Zoq (R51:Zf→Option (Zd×Zf)) (IH51:∀(v0:Zf) (r:Zd×Zf),R51 v0=some r→SM μ 51 [pt 0] [bx (Ze v0)] (tv (Zc r.1)) [bx (Ze r.2)]) (k:Nat) (v0:Zf) (r:Zd×Zf) (d:F73 R51 k v0=some r):SM μ 73 [pt 0] [bx (Ze v0)] (tv (Zc r.1)) [bx (Ze r.2)]:=by
 refine Zz [0] Tryz.func73 rfl kr kr ?_
 show WA _ _ 44 _ _ _
 refine Ws [(0,.obj 102)] [(0,pt 0),(2,pt 102)] [(0,bx (Ze v0)),(102,bx (Zc (⟨0,([]:List Zb),([]:List Zd),0,0⟩:Zd)))] ?_
 refine Ws [(0,.obj 103)] [(0,pt 0),(2,pt 102),(3,ar 103 0)] [(0,bx (Ze v0)),(102,bx (Zc (⟨0,([]:List Zb),([]:List Zd),0,0⟩:Zd))),(103,.arr 5 (Zm ([]:List Zd)))] ?_
 refine WA.seq ?_
 refine WA.block ?_
 refine WA.loop (fun m s_=>∃(a:Zf) (c:List Zd) (e:Nat),J s_ [(0,pt 0),(2,pt 102),(3,ar 103 e)] [(0,bx (Ze a)),(102,bx (Zc (⟨0,([]:List Zb),([]:List Zd),0,0⟩:Zd))),(103,.arr 5 (Zm c))]∧e=(c:List _).length∧ZcL R51 k m a c=some r) k ⟨v0,([]:List Zd),0,jk,zt,d⟩ ?_
 clear d
 rintro m2 s_ ⟨a,c,e,he,a6,d⟩
 refine Wj he ?_
 clear he
 cases m2 with
 | zero=>cases d
 | succ m2=>
  obtain ⟨z,v⟩:∃g,g=ZcL R51 k m2:=⟨_,rfl⟩
  have d:ZeY R51 k z a c=some r:=by first | (rw [v];exact d) | exact d
  refine WA.seq ?_
  refine WA.join (fun s_=>∃(q:Bool),J s_ [(0,pt 0),(2,pt 102),(3,ar 103 e),(30,ob q)] [(0,bx (Ze a)),(102,bx (Zc (⟨0,([]:List Zb),([]:List Zd),0,0⟩:Zd))),(103,.arr 5 (Zm c))]∧ZcK R51 k z a c q=some r) ?_ ?_
  {
 rintro s_ ⟨q,he,d⟩
 refine Wj he ?_
 clear he
 refine WA.cond (b:=q) rfl (fun o=>?_) (fun o=>?_)
 {
 have d:=Zk d o
 refine WA.skip ?_
 refine WA.block ?_
 obtain ⟨f,a4,d⟩:=Zh d
 obtain ⟨w,d⟩:=Zn d
 refine Wm ((((Zm c) ++ ([(Zc f.1)])),[(Zc f.1)]):(List (List PV))×(List (List PV))) ((Zm (c ++ ([f.1]:List Zd))),(Zm ([f.1]:List Zd))) (fun m_=>([(0,pt 0),(2,pt 102),(3,ar 103 (e+1))],[(0,bx (Ze f.2)),(102,bx (Zc (⟨0,([]:List Zb),([]:List Zd),0,0⟩:Zd))),(103,.arr 5 m_.1)],[SM μ 101 [pt 0] [bx (Ze a)] (tv (Zc f.1)) [bx (Ze f.2)],([0]:List Nat).Nodup,e=(Zm c).length,(Zm c).length+m_.2.length≤1073741824,∀es,es∈m_.2→es.length=5])) (ZJ zm zm) [(2,.call [0] (tv (Zc f.1)) [bx (Ze f.2)] [])] ⟨(Zqw R51 IH51 k _ _ a4),nd,zt,(by first | exact w | (simp only [List.length_map,Zi];exact w)),(Zcj ([f.1]:List Zd)),trivial⟩ ?_
 exact ⟨m2,zl_ _,f.2,(c ++ ([f.1]:List Zd)),(e+1),jk,zt,by rw [v] at d;exact d⟩ }
 {
 have d:=Zj d o
 refine WA.exit ?_
 refine WA.seq ?_
 refine WA.seq ?_
 refine Wm ((e:Nat):Int) (c.length:Int) (fun m_=>([(2,pt 102),(3,ar 103 e),(38,ob (m_ == 1))],[(0,bx (Ze a)),(102,bx (Zc (⟨0,([]:List Zb),([]:List Zd),0,0⟩:Zd))),(103,.arr 5 (Zm c))],[])) ((by first | (simp only [zl,Zi];done) | (simp only [zl,Zi];omega) | omega)) [] trivial ?_
 refine WA.cond (b:=((c.length:Int) == 1)) rfl (fun p=>?_) (fun p=>?_)
 {
 have d:=Zk d p
 obtain ⟨x,d⟩:=Zn d
 obtain ⟨u,a5,d⟩:=Zh d
 refine Wos [(2,.cells (Zc u))] [(2,pt 102)] [(0,bx (Ze a)),(102,bx (Zc u))] [e=(Zm c).length,(0:Int)≤0,0<((e:Nat):Int),e=(Zm c).length,(Zm c)[Int.toNat 0]?=some (Zc u)] ⟨zt,x.1,(by have h_:=x.2;(try simp only [zl,Zi] at h_ ⊢);omega),zt,(Zr (ZO a5)),trivial⟩ ?_
 refine WA.ret ?_
 obtain rfl:=zj_ d
 exact Zo (tv (Zc u)) [bx (Ze a)] kr kr kr kr nd rfl rfl }
 {
 have d:=Zj d p
 refine WA.skip ?_
 refine WA.seq ?_
 refine WA.freeze 103 3 (s:=5) (n:=e) (els:=(Zm c)) rfl rfl zt ?_
 refine Wk [(2,pt 102),(3,one (.sl (Zm c)))] [(0,bx (Ze a)),(102,bx (Zc (⟨0,([]:List Zb),([]:List Zd),0,0⟩:Zd)))] ?_
 refine Wr [] [(2,pt 102)] [(0,bx (Ze a)),(102,bx (Zc (⟨2,([]:List Zb),c,0,0⟩:Zd)))] ?_
 refine WA.ret ?_
 obtain rfl:=zj_ d
 exact Zo (tv (Zc (⟨2,([]:List Zb),c,0,0⟩:Zd))) [bx (Ze a)] kr kr kr kr nd rfl rfl } } }
  {
 rcases zo_ (!a.f_Bad) with h | h
 {
 have d:=Zk d h
 rcases zo_ (decide (a.f_I<(a.f_S.length:Int))) with i | i
 {
 have d:=Zk d i
 obtain ⟨j,y,d⟩:=Zh d
 rcases zo_ (j != 124) with l | l
 {
 have d:=Zk d l
 obtain ⟨t,a3,d⟩:=Zh d
 refine Wd [(5,.bool true),(17,.bool true),(19,.callR [0] (one (.int .u8 j))),(22,.bool true),(24,.callR [0] (one (.int .u8 t)))] [(0,pt 0),(2,pt 102),(3,ar 103 e),(30,ob (t != 41))] [(0,bx (Ze a)),(102,bx (Zc (⟨0,([]:List Zb),([]:List Zd),0,0⟩:Zd))),(103,.arr 5 (Zm c))] [(!a.f_Bad)=true,(decide (a.f_I<(a.f_S.length:Int)))=true,SM μ 100 [pt 0] [bx (Ze a)] (one (.int .u8 j)) [bx (Ze a)],([0]:List Nat).Nodup,(j != 124)=true,SM μ 100 [pt 0] [bx (Ze a)] (one (.int .u8 t)) [bx (Ze a)],([0]:List Nat).Nodup] ⟨h,i,(Zas k _ _ y),nd,l,(Zas k _ _ a3),nd,trivial⟩ ?_
 exact ⟨(t != 41),jk,d⟩ }
 {
 have d:=Zj d l
 refine Wd [(5,.bool true),(17,.bool true),(19,.callR [0] (one (.int .u8 j))),(22,.bool false),(24,.callR [] (.tup []))] [(0,pt 0),(2,pt 102),(3,ar 103 e),(30,ob false)] [(0,bx (Ze a)),(102,bx (Zc (⟨0,([]:List Zb),([]:List Zd),0,0⟩:Zd))),(103,.arr 5 (Zm c))] [(!a.f_Bad)=true,(decide (a.f_I<(a.f_S.length:Int)))=true,SM μ 100 [pt 0] [bx (Ze a)] (one (.int .u8 j)) [bx (Ze a)],([0]:List Nat).Nodup,(j != 124)=false] ⟨h,i,(Zas k _ _ y),nd,l,trivial⟩ ?_
 exact ⟨false,jk,d⟩ } }
 {
 have d:=Zj d i
 refine Wd [(5,.bool true),(17,.bool false),(19,.callR [] (.tup [])),(24,.callR [] (.tup []))] [(0,pt 0),(2,pt 102),(3,ar 103 e),(30,ob false)] [(0,bx (Ze a)),(102,bx (Zc (⟨0,([]:List Zb),([]:List Zd),0,0⟩:Zd))),(103,.arr 5 (Zm c))] [(!a.f_Bad)=true,(decide (a.f_I<(a.f_S.length:Int)))=false] ⟨h,i,trivial⟩ ?_
 exact ⟨false,jk,d⟩ } }
 {
 have d:=Zj d h
 refine Wd [(5,.bool false),(19,.callR [] (.tup [])),(24,.callR [] (.tup []))] [(0,pt 0),(2,pt 102),(3,ar 103 e),(30,ob false)] [(0,bx (Ze a)),(102,bx (Zc (⟨0,([]:List Zb),([]:List Zd),0,0⟩:Zd))),(103,.arr 5 (Zm c))] [(!a.f_Bad)=false] ⟨h,trivial⟩ ?_
 exact ⟨false,jk,d⟩ } }
def ZeP (R51:Zf→Option (Zd×Zf)) (k:Nat) (d:Zf→(List Zd)→Option (Zd×Zf)) (e:Zf) (a:List Zd):Option (Zd×Zf):=
  (F74 k e 124).bind fun b=>(cond b.1 ((F73 R51 k b.2).bind fun c=>if a.length+([c.1]:List Zd).length≤1073741824 then d c.2 (a ++ ([c.1]:List Zd)) else none) (((cond ((a.length:Int) == 1) (if (0:Int)≤0∧0<(a.length:Int) then (idxL a 0).bind fun f=>(some (f,b.2)) else none) (((some ((⟨3,([]:List Zb),a,0,0⟩:Zd),b.2))))))))
def Zf2 (R51:Zf→Option (Zd×Zf)) (k:Nat):Nat→Zf→(List Zd)→Option (Zd×Zf)
  | 0,_,_=>none
  | c+1,a,b=>ZeP R51 k (Zf2 R51 k c) a b
def Zk3 (R51:Zf→Option (Zd×Zf)) (k:Nat) (v0:Zf):Option (Zd×Zf):=
  (F73 R51 k v0).bind fun a=>(Zf2 R51 k k a.2 ([a.1]:List Zd))
theorem Zps (R51:Zf→Option (Zd×Zf)) (IH51:∀(v0:Zf) (r:Zd×Zf),R51 v0=some r→SM μ 51 [pt 0] [bx (Ze v0)] (tv (Zc r.1)) [bx (Ze r.2)]) (k:Nat) (v0:Zf) (r:Zd×Zf) (c:Zk3 R51 k v0=some r):SM μ 51 [pt 0] [bx (Ze v0)] (tv (Zc r.1)) [bx (Ze r.2)]:=by
 refine Zz [0] Tryz.func51 rfl kr kr ?_
 show WA _ _ 22 _ _ _
 refine Ws [(0,.obj 102)] [(0,pt 0),(2,pt 102)] [(0,bx (Ze v0)),(102,bx (Zc (⟨0,([]:List Zb),([]:List Zd),0,0⟩:Zd)))] ?_
 refine WA.seq ?_
 obtain ⟨h,v,c⟩:=Zh c
 refine Wm ([(Zc h.1)]:(List (List PV))) (Zm ([h.1]:List Zd)) (fun q=>([(0,pt 0),(2,pt 102),(3,ar 106 1)],[(0,bx (Ze h.2)),(102,bx (Zc (⟨0,([]:List Zb),([]:List Zd),0,0⟩:Zd))),(106,.arr 5 q)],[SM μ 73 [pt 0] [bx (Ze v0)] (tv (Zc h.1)) [bx (Ze h.2)],([0]:List Nat).Nodup])) (zm) [(1,.call [0] (tv (Zc h.1)) [bx (Ze h.2)] []),(2,.obj 106)] ⟨(Zoq R51 IH51 k _ _ v),nd,trivial⟩ ?_
 refine WA.seq ?_
 refine WA.block ?_
 refine WA.loop (fun m s_=>∃(i:Zf) (a:List Zd) (e:Nat),J s_ [(0,pt 0),(2,pt 102),(3,ar 106 e)] [(0,bx (Ze i)),(102,bx (Zc (⟨0,([]:List Zb),([]:List Zd),0,0⟩:Zd))),(106,.arr 5 (Zm a))]∧e=(a:List _).length∧Zf2 R51 k m i a=some r) k ⟨h.2,([h.1]:List Zd),1,jk,zt,c⟩ ?_
 clear c
 rintro m0 s_ ⟨i,a,e,he,a0,c⟩
 refine Wj he ?_
 clear he
 cases m0 with
 | zero=>cases c
 | succ m0=>
  obtain ⟨z,p⟩:∃g,g=Zf2 R51 k m0:=⟨_,rfl⟩
  have c:ZeP R51 k z i a=some r:=by first | (rw [p];exact c) | exact c
  refine WA.seq ?_
  obtain ⟨d,w,c⟩:=Zh c
  refine Wos [(1,.call [0] (ob d.1) [bx (Ze d.2)] [])] [(0,pt 0),(2,pt 102),(3,ar 106 e),(8,ob d.1)] [(0,bx (Ze d.2)),(102,bx (Zc (⟨0,([]:List Zb),([]:List Zd),0,0⟩:Zd))),(106,.arr 5 (Zm a))] [SM μ 74 [pt 0,one (.int .u8 124)] [bx (Ze i)] (ob d.1) [bx (Ze d.2)],([0]:List Nat).Nodup] ⟨(ZaA k _ _ _ w),nd,trivial⟩ ?_
  refine WA.cond (b:=d.1) rfl (fun j=>?_) (fun j=>?_)
  {
 have c:=Zk c j
 refine WA.skip ?_
 refine WA.block ?_
 obtain ⟨f,x,c⟩:=Zh c
 obtain ⟨t,c⟩:=Zn c
 refine Wm ((((Zm a) ++ ([(Zc f.1)])),[(Zc f.1)]):(List (List PV))×(List (List PV))) ((Zm (a ++ ([f.1]:List Zd))),(Zm ([f.1]:List Zd))) (fun q=>([(0,pt 0),(2,pt 102),(3,ar 106 (e+1))],[(0,bx (Ze f.2)),(102,bx (Zc (⟨0,([]:List Zb),([]:List Zd),0,0⟩:Zd))),(106,.arr 5 q.1)],[SM μ 73 [pt 0] [bx (Ze d.2)] (tv (Zc f.1)) [bx (Ze f.2)],([0]:List Nat).Nodup,e=(Zm a).length,(Zm a).length+q.2.length≤1073741824,∀es,es∈q.2→es.length=5])) (ZJ zm zm) [(2,.call [0] (tv (Zc f.1)) [bx (Ze f.2)] [])] ⟨(Zoq R51 IH51 k _ _ x),nd,zt,(by first | exact t | (simp only [List.length_map,Zi];exact t)),(Zcj ([f.1]:List Zd)),trivial⟩ ?_
 exact ⟨m0,zl_ _,f.2,(a ++ ([f.1]:List Zd)),(e+1),jk,zt,by rw [p] at c;exact c⟩ }
  {
 have c:=Zj c j
 refine WA.exit ?_
 refine WA.seq ?_
 refine WA.seq ?_
 refine Wm ((e:Nat):Int) (a.length:Int) (fun q=>([(2,pt 102),(3,ar 106 e),(16,ob (q == 1))],[(0,bx (Ze d.2)),(102,bx (Zc (⟨0,([]:List Zb),([]:List Zd),0,0⟩:Zd))),(106,.arr 5 (Zm a))],[])) ((by first | (simp only [zl,Zi];done) | (simp only [zl,Zi];omega) | omega)) [] trivial ?_
 refine WA.cond (b:=((a.length:Int) == 1)) rfl (fun l=>?_) (fun l=>?_)
 {
 have c:=Zk c l
 obtain ⟨u,c⟩:=Zn c
 obtain ⟨o,y,c⟩:=Zh c
 refine Wos [(2,.cells (Zc o))] [(2,pt 102)] [(0,bx (Ze d.2)),(102,bx (Zc o))] [e=(Zm a).length,(0:Int)≤0,0<((e:Nat):Int),e=(Zm a).length,(Zm a)[Int.toNat 0]?=some (Zc o)] ⟨zt,u.1,(by have h_:=u.2;(try simp only [zl,Zi] at h_ ⊢);omega),zt,(Zr (ZO y)),trivial⟩ ?_
 refine WA.ret ?_
 obtain rfl:=zj_ c
 exact Zo (tv (Zc o)) [bx (Ze d.2)] kr kr kr kr nd rfl rfl }
 {
 have c:=Zj c l
 refine WA.skip ?_
 refine WA.seq ?_
 refine WA.freeze 106 3 (s:=5) (n:=e) (els:=(Zm a)) rfl rfl zt ?_
 refine Wk [(2,pt 102),(3,one (.sl (Zm a)))] [(0,bx (Ze d.2)),(102,bx (Zc (⟨0,([]:List Zb),([]:List Zd),0,0⟩:Zd)))] ?_
 refine Wr [] [(2,pt 102)] [(0,bx (Ze d.2)),(102,bx (Zc (⟨3,([]:List Zb),a,0,0⟩:Zd)))] ?_
 refine WA.ret ?_
 obtain rfl:=zj_ c
 exact Zo (tv (Zc (⟨3,([]:List Zb),a,0,0⟩:Zd))) [bx (Ze d.2)] kr kr kr kr nd rfl rfl } }
def F51:Nat→Zf→Option (Zd×Zf)
  | 0,_=>none
  | k+1,v0=>Zk3 (F51 k) k v0
theorem Zom:∀(k:Nat),∀(v0:Zf) (r:Zd×Zf),F51 k v0=some r→SM μ 51 [pt 0] [bx (Ze v0)] (tv (Zc r.1)) [bx (Ze r.2)]
  | 0=>fun _ _ a=>by cases a
  | k+1=>fun v0 r a=>Zps (F51 k) (Zom k) k v0 r a
def ZfV (b:Zd×Zf) (a:Bool):Option (Zd×Int):=
  cond a ((some ((⟨0,([]:List Zb),([]:List Zd),0,0⟩:Zd),8))) (((some (b.1,0))))
def Zio (k:Nat) (a:Zd×Zf) (b:Bool):Option (Zd×Int):=
  cond b ((some ((⟨0,([]:List Zb),([]:List Zd),0,0⟩:Zd),3))) ((cond a.2.f_Long ((ZfV a true)) ((F20 k a.1).bind fun c=>cond (decide (c > 200)) ((ZfV a true)) ((F42 k a.1 1).bind fun d=>(ZfV a (decide (d > 14)))))))
def F28 (k:Nat) (v0:List UInt8):Option (Zd×Int):=
  ((cond (decide ((v0.length:Int) > 400)) ((some ((⟨0,([]:List Zb),([]:List Zd),0,0⟩:Zd),8))) ((F25 k v0).bind fun b=>(cond (!b) ((some ((⟨0,([]:List Zb),([]:List Zd),0,0⟩:Zd),3))) (((F51 k (⟨v0,0,false,false⟩:Zf)).bind fun a=>(cond a.2.f_Bad ((Zio k a true)) ((Zio k a (a.2.f_I != (v0.length:Int)))))))))))
theorem Zry (k:Nat) (v0:List UInt8) (r:Zd×Int) (c:F28 k v0=some r):SM μ 28 [one (.str v0)] [] (.tup [(true,pvL (Zc r.1)),(false,[.pv (.int .i64 r.2)])]) []:=by
 refine Zz [] Tryz.func28 rfl kr kr ?_
 show WA _ _ 49 _ _ _
 refine Ws [(0,.obj 102)] [(0,one (.str v0)),(2,pt 102)] [(102,bx (Zc (⟨0,([]:List Zb),([]:List Zd),0,0⟩:Zd)))] ?_
 refine WA.seq ?_
 refine Ws [] [(0,one (.str v0)),(2,pt 102),(8,ob (decide ((v0.length:Int) > 400)))] [(102,bx (Zc (⟨0,([]:List Zb),([]:List Zd),0,0⟩:Zd)))] ?_
 refine WA.cond (b:=(decide ((v0.length:Int) > 400))) rfl (fun h=>?_) (fun h=>?_)
 {
 have c:=Zk c h
 refine Ws [] [(2,pt 102),(3,oi 8)] [(102,bx (Zc (⟨0,([]:List Zb),([]:List Zd),0,0⟩:Zd)))] ?_
 refine WA.ret ?_
 obtain rfl:=zj_ c
 exact Zo (.tup [(true,pvL (Zc (⟨0,([]:List Zb),([]:List Zd),0,0⟩:Zd))),(false,[.pv (.int .i64 8)])]) [] kr kr kr kr nd rfl rfl }
 {
 have c:=Zj c h
 refine WA.skip ?_
 refine WA.seq ?_
 obtain ⟨o,u,c⟩:=Zh c
 refine Wos [(1,.callR [] (ob o))] [(0,one (.str v0)),(2,pt 102),(12,ob (!o))] [(102,bx (Zc (⟨0,([]:List Zb),([]:List Zd),0,0⟩:Zd)))] [SM μ 25 [one (.str v0)] [] (ob o) [],([]:List Nat).Nodup] ⟨(Zog k _ _ u),nd,trivial⟩ ?_
 refine WA.cond (b:=(!o)) rfl (fun i=>?_) (fun i=>?_)
 {
 have c:=Zk c i
 refine Ws [] [(2,pt 102),(3,oi 3)] [(102,bx (Zc (⟨0,([]:List Zb),([]:List Zd),0,0⟩:Zd)))] ?_
 refine WA.ret ?_
 obtain rfl:=zj_ c
 exact Zo (.tup [(true,pvL (Zc (⟨0,([]:List Zb),([]:List Zd),0,0⟩:Zd))),(false,[.pv (.int .i64 3)])]) [] kr kr kr kr nd rfl rfl }
 {
 have c:=Zj c i
 refine WA.skip ?_
 refine Ws [(2,.obj 116)] [(0,one (.str v0)),(2,pt 102),(4,pt 116)] [(102,bx (Zc (⟨0,([]:List Zb),([]:List Zd),0,0⟩:Zd))),(116,bx (Ze (⟨v0,0,false,false⟩:Zf)))] ?_
 obtain ⟨a,v,c⟩:=Zh c
 refine Wos [(1,.call [116] (tv (Zc a.1)) [bx (Ze a.2)] []),(2,.obj 105)] [(0,one (.str v0)),(2,pt 102),(4,pt 116),(5,pt 105)] [(102,bx (Zc (⟨0,([]:List Zb),([]:List Zd),0,0⟩:Zd))),(105,bx (Zc a.1)),(116,bx (Ze a.2))] [SM μ 51 [pt 0] [bx (Ze (⟨v0,0,false,false⟩:Zf))] (tv (Zc a.1)) [bx (Ze a.2)],([116]:List Nat).Nodup] ⟨(Zom k _ _ v),nd,trivial⟩ ?_
 refine WA.seq ?_
 refine WA.join (fun t=>∃(m:Bool),J t [(2,pt 102),(4,pt 116),(5,pt 105),(31,ob m)] [(102,bx (Zc (⟨0,([]:List Zb),([]:List Zd),0,0⟩:Zd))),(105,bx (Zc a.1)),(116,bx (Ze a.2))]∧Zio k a m=some r) ?_ ?_
 {
 rintro t ⟨m,s,c⟩
 refine Wj s ?_
 clear s
 refine WA.cond (b:=m) rfl (fun j=>?_) (fun j=>?_)
 {
 have c:=Zk c j
 refine Ws [] [(2,pt 102),(3,oi 3)] [(102,bx (Zc (⟨0,([]:List Zb),([]:List Zd),0,0⟩:Zd)))] ?_
 refine WA.ret ?_
 obtain rfl:=zj_ c
 exact Zo (.tup [(true,pvL (Zc (⟨0,([]:List Zb),([]:List Zd),0,0⟩:Zd))),(false,[.pv (.int .i64 3)])]) [] kr kr kr kr nd rfl rfl }
 {
 have c:=Zj c j
 refine WA.skip ?_
 refine WA.seq ?_
 refine WA.join (fun t=>∃(n:Bool),J t [(2,pt 102),(5,pt 105),(46,ob n)] [(102,bx (Zc (⟨0,([]:List Zb),([]:List Zd),0,0⟩:Zd))),(105,bx (Zc a.1))]∧ZfV a n=some r) ?_ ?_
 {
 rintro t ⟨n,s,c⟩
 refine Wj s ?_
 clear s
 refine WA.cond (b:=n) rfl (fun l=>?_) (fun l=>?_)
 {
 have c:=Zk c l
 refine Ws [] [(2,pt 102),(3,oi 8)] [(102,bx (Zc (⟨0,([]:List Zb),([]:List Zd),0,0⟩:Zd)))] ?_
 refine WA.ret ?_
 obtain rfl:=zj_ c
 exact Zo (.tup [(true,pvL (Zc (⟨0,([]:List Zb),([]:List Zd),0,0⟩:Zd))),(false,[.pv (.int .i64 8)])]) [] kr kr kr kr nd rfl rfl }
 {
 have c:=Zj c l
 refine WA.skip ?_
 refine Ws [] [(2,pt 102),(3,oi 0)] [(102,bx (Zc a.1))] ?_
 refine WA.ret ?_
 obtain rfl:=zj_ c
 exact Zo (.tup [(true,pvL (Zc a.1)),(false,[.pv (.int .i64 0)])]) [] kr kr kr kr nd rfl rfl } }
 {
 rcases zo_ a.2.f_Long with d | d
 {
 have c:=Zk c d
 refine Wo [(4,.bool true)] [(2,pt 102),(5,pt 105),(46,ob true)] [(102,bx (Zc (⟨0,([]:List Zb),([]:List Zd),0,0⟩:Zd))),(105,bx (Zc a.1))] [a.2.f_Long=true] ⟨d,trivial⟩ ?_
 exact ⟨true,jk,c⟩ }
 {
 have c:=Zj c d
 obtain ⟨e,q,c⟩:=Zh c
 rcases zo_ (decide (e > 200)) with g | g
 {
 have c:=Zk c g
 refine Wo [(4,.bool false),(6,.callR [] (oi e)),(9,.bool true)] [(2,pt 102),(5,pt 105),(46,ob true)] [(102,bx (Zc (⟨0,([]:List Zb),([]:List Zd),0,0⟩:Zd))),(105,bx (Zc a.1))] [a.2.f_Long=false,SM μ 20 [tv (Zc a.1)] [] (oi e) [],([]:List Nat).Nodup,(decide (e > 200))=true] ⟨d,(Zil k _ _ q),nd,g,trivial⟩ ?_
 exact ⟨true,jk,c⟩ }
 {
 have c:=Zj c g
 obtain ⟨p,w,c⟩:=Zh c
 refine Wo [(4,.bool false),(6,.callR [] (oi e)),(9,.bool false),(11,.callR [] (oi p))] [(2,pt 102),(5,pt 105),(46,ob (decide (p > 14)))] [(102,bx (Zc (⟨0,([]:List Zb),([]:List Zd),0,0⟩:Zd))),(105,bx (Zc a.1))] [a.2.f_Long=false,SM μ 20 [tv (Zc a.1)] [] (oi e) [],([]:List Nat).Nodup,(decide (e > 200))=false,SM μ 42 [tv (Zc a.1),oi 1] [] (oi p) [],([]:List Nat).Nodup] ⟨d,(Zil k _ _ q),nd,g,(ZfY k _ _ _ w),nd,trivial⟩ ?_
 exact ⟨(decide (p > 14)),jk,c⟩ } } } } }
 {
 rcases zo_ a.2.f_Bad with f | f
 {
 have c:=Zk c f
 refine Wo [(4,.bool true)] [(2,pt 102),(4,pt 116),(5,pt 105),(31,ob true)] [(102,bx (Zc (⟨0,([]:List Zb),([]:List Zd),0,0⟩:Zd))),(105,bx (Zc a.1)),(116,bx (Ze a.2))] [a.2.f_Bad=true] ⟨f,trivial⟩ ?_
 exact ⟨true,jk,c⟩ }
 {
 have c:=Zj c f
 refine Wo [(4,.bool false)] [(2,pt 102),(4,pt 116),(5,pt 105),(31,ob (a.2.f_I != (v0.length:Int)))] [(102,bx (Zc (⟨0,([]:List Zb),([]:List Zd),0,0⟩:Zd))),(105,bx (Zc a.1)),(116,bx (Ze a.2))] [a.2.f_Bad=false] ⟨f,trivial⟩ ?_
 exact ⟨(a.2.f_I != (v0.length:Int)),jk,c⟩ } } } }
end Go.Proofs.YthilboheomikjaaGreatDoor
end
section
namespace Go.Proofs.YthilboheomikjaaGreatDoor
open Go.AL Go.Lib
set_option maxRecDepth 100000
def rx (s:List UInt8) (q:Nat) (b o:Bool):Zf:=⟨s,(q:Int),b,o⟩
def BadR (s:List UInt8) (r:Zf):Prop:=∃(q:Nat) (o:Bool),r=rx s q true o∧q≤s.length+1
def pk (s:List UInt8) (q:Nat):Int:=match s[q]? with
  | some x=>(x.toNat:Int)
  | none=>0
theorem ZaQ {s:List UInt8} {q:Nat} {x:UInt8} (h:s[q]?=some x):pk s q=x.toNat:=by unfold pk;rw [h]
theorem Zht {s:List UInt8} {q:Nat} (h:s.length≤q):pk s q=0:=by unfold pk;rw [List.getElem?_eq_none h]
theorem Zav {k q:Nat} {s:List UInt8} {b o:Bool}:F100 k (rx s q b o)=some (pk s q):=by
  unfold F100 rx
  simp only
  by_cases h:q<s.length
  · obtain ⟨x,hx⟩:∃x,s[q]?=some x:=⟨_,List.getElem?_eq_getElem h⟩
    rw [dt (by omega),zt_,Zx,hx,zb_,ZaQ hx]
  · rw [df (by omega),zf_,Zht (by omega)]
theorem Znz {k q:Nat} {s:List UInt8} {b o:Bool} {x:UInt8} {c:Int} (hs:s.length≤1000000) (h:s[q]?=some x) (hc:(x.toNat:Int)=c):F74 k (rx s q b o) c=some (true,rx s (q+1) b o):=by
  have hq:=(List.getElem?_eq_some_iff.1 h).1
  unfold F74 Zf7 rx
  simp only
  rw [dt (by omega),zt_,Zx,h,zb_,ZV hc,zt_,ZR (by omega)]
theorem Zmr {k q:Nat} {s:List UInt8} {b o:Bool} {c:Int} (h:∀x,s[q]?=some x→(x.toNat:Int)≠c):F74 k (rx s q b o) c=some (false,rx s q b o):=by
  unfold F74 Zf7 rx
  simp only
  by_cases hq:q<s.length
  · obtain ⟨x,hx⟩:∃x,s[q]?=some x:=⟨_,List.getElem?_eq_getElem hq⟩
    rw [dt (by omega),zt_,Zx,hx,zb_,ZF (h x hx),zf_]
  · rw [df (by omega),zf_,zf_]
theorem ZqS {k q:Nat} {s:List UInt8} (h:s.length≤q):F46 k s (q:Int)=some (0,0):=by
  unfold F46 Zf1
  rw [df (by omega),zf_,dt (by omega),zt_]
theorem Zn6 {k q:Nat} {s:List UInt8} {b o:Bool} (h:s.length≤q):F147 k (rx s q b o)=some (0,rx s q true o):=by
  unfold F147 Zda rx
  simp only
  rw [ZqS h,zb_]
  rfl
theorem Zn5 {k q:Nat} {s:List UInt8} {b o:Bool} (hk:5≤k) (hs:s.length≤1000000) (h:q<s.length) (hb:bad (s.drop q)):F147 k (rx s q b o)=some (0,rx s q true o):=by
  unfold F147 Zda rx
  simp only
  rw [Ziz hk h (by omega),zb_]
  unfold nxt
  rw [if_pos hb]
  rfl
theorem Zej {k q:Nat} {s:List UInt8} {b o:Bool} (hk:5≤k) (hs:s.length≤1000000) (h:q<s.length) (hb:¬bad (s.drop q)):F147 k (rx s q b o)=some (((decodeL (s.drop q)).1:Int),rx s (q+(decodeL (s.drop q)).2) b o):=by
  have hne:s.drop q≠[]:=fun c=>by have:=List.drop_eq_nil_iff.1 c;omega
  have hw:=decodeL_width (s.drop q)
  have hle:=decodeL_le _ hne
  rw [List.length_drop] at hle
  unfold F147 Zda rx
  simp only
  rw [Ziz hk h (by omega),zb_]
  unfold nxt
  rw [if_neg hb]
  simp only
  rw [df (by omega),zf_,ZF (by omega),zf_,Zv (by omega) (by omega)]
  rfl
theorem Zn4 {k q:Nat} {s:List UInt8} {o:Bool} (hk:5≤k) (hs:s.length≤1000000) (hq:q≤s.length+1):∃c r,F147 k (rx s q true o)=some (c,r)∧BadR s r:=by
  by_cases h:q<s.length
  · by_cases hb:bad (s.drop q)
    · exact ⟨_,_,Zn5 hk hs h hb,q,o,rfl,hq⟩
    · have hne:s.drop q≠[]:=fun c=>by have:=List.drop_eq_nil_iff.1 c;omega
      have hle:=decodeL_le _ hne
      rw [List.length_drop] at hle
      exact ⟨_,_,Zej hk hs h hb,_,o,rfl,by omega⟩
  · exact ⟨_,_,Zn6 (by omega),q,o,rfl,hq⟩
theorem Zi2 {l:List UInt8} {c:Int} (hl:l.length≤1000):∀(t:List UInt8) (i m:Nat),l.drop i=t→t.length<m→i≤l.length→Zc9 l c m (i:Int)=some (t.any fun b=>(b.toNat:Int) == c)
  | [],i,m,hd,hm,hi=>by
    obtain ⟨m,rfl⟩:∃q,m=q+1:=⟨m-1,by simp at hm;omega⟩
    have:=ZP hd
    show Zc8 _ _ _ _=_
    unfold Zc8
    rw [df (by omega),zf_]
    rfl
  | x :: t,i,m,hd,hm,hi=>by
    obtain ⟨m,rfl⟩:∃q,m=q+1:=⟨m-1,by omega⟩
    obtain ⟨g1,g2,g3⟩:=ZA hd
    rw [List.length_cons] at hm
    show Zc8 (Zc9 l c m) l c (i:Int)=_
    unfold Zc8
    rw [dt (by omega),zt_,Zx,g2,zb_,ZR (by omega),Zi2 hl t (i+1) m g3 (by omega) (by omega),List.any_cons]
    cases (x.toNat:Int) == c <;> rfl
theorem Zcv {k:Nat} {l:List UInt8} {c:Int} (hl:l.length≤1000) (hk:l.length<k):F146 k l c=some (l.any fun b=>(b.toNat:Int) == c):=Zi2 hl l 0 k rfl hk (Nat.zero_le _)
def isD (x:UInt8):Prop:=48≤x.toNat∧x.toNat≤57
instance (x:UInt8):Decidable (isD x):=by unfold isD;infer_instance
def dv (x:UInt8):Nat:=x.toNat-48
theorem Zeg {k q m:Nat} {s:List UInt8} {b o:Bool} {n:Int} {j:Nat} {x:UInt8} (hs:s.length≤1000000) (hx:s[q]?=some x) (hd:isD x) (hj:j<4) (hn:0≤n) (hn2:n≤100000) :
    Za1 k (m+1) (rx s q b o) n (j:Int)=Za1 k m (rx s (q+1) b o) (n*10+dv x) ((j+1:Nat):Int):=by
  have hq:=(List.getElem?_eq_some_iff.1 hx).1
  unfold isD at hd
  show Zdb k (Za1 k m) (rx s q b o) n (j:Int)=_
  unfold Zdb Zco
  rw [Zav,zb_,ZaQ hx,dt (by omega),zt_,zb_,dt (by omega),zt_,dt (by omega),zt_,zb_]
  have e1:IntKind.wrap .u8 ((x.toNat:Int)-48)=(dv x:Int):=by unfold dv;simp [IntKind.wrap,IntKind.bits,IntKind.signed];omega
  have hdv:dv x≤9:=by unfold dv;omega
  rw [e1,ZR (by omega),Zv (x:=(dv x:Int)) (by omega) (by omega),Zv (x:=n*10) (by omega) (by omega),Zv (x:=n*10+(dv x:Int)) (by omega) (by omega)]
  unfold rx
  simp only
  rw [ZR (by omega)]
theorem ZhP {k q m:Nat} {s:List UInt8} {b o:Bool} {n:Int} {j:Nat} (h:(∀x,s[q]?=some x→¬isD x)∨4≤j) :
    Za1 k (m+1) (rx s q b o) n (j:Int)=some (n,rx s q (b || decide (j=0∨3<j)) o):=by
  show Zdb k (Za1 k m) (rx s q b o) n (j:Int)=_
  have fin:Zco k (Za1 k m) (rx s q b o) n (j:Int) false=some (n,rx s q (b || decide (j=0∨3<j)) o):=by
    unfold Zco Zg4 Zg5
    rw [zf_]
    by_cases h0:j=0
    · rw [ZV (by omega),zt_,zt_,dt (.inl h0),Bool.or_true];rfl
    · rw [ZF (by omega),zf_]
      by_cases h3:3<j
      · rw [dt (by omega),zt_,dt (.inr h3),Bool.or_true];rfl
      · rw [df (by omega),zf_,df (by omega),Bool.or_false]
  unfold Zdb
  rw [Zav,zb_]
  by_cases hq:q<s.length
  · obtain ⟨x,hx⟩:∃x,s[q]?=some x:=⟨_,List.getElem?_eq_getElem hq⟩
    rw [ZaQ hx]
    by_cases h1:(x.toNat:Int)≥48
    · rw [dt h1,zt_,zb_]
      by_cases h2:(x.toNat:Int)≤57
      · rw [dt h2,zt_,df ?_]
        · exact fin
        · rcases h with h | h
          · exact absurd ⟨by omega,by omega⟩ (h x hx)
          · omega
      · rw [df h2,zf_];exact fin
    · rw [df h1,zf_];exact fin
  · rw [Zht (by omega),df (by omega),zf_];exact fin
theorem Zsm {q:Nat} {s:List UInt8} {b o:Bool} {a:Zd} {y:Int×Zf} {m:Int}:Zep a y m (rx s q b o)=some (⟨4,[],[a],y.1,m⟩,rx s q b (o || decide (20<y.1∨20<m∨(0≤m∧m<y.1)))):=by
  unfold Zep Zc5 ZgT rx
  simp only
  by_cases h1:y.1 > 20
  · rw [dt h1,zt_,zt_,dt (.inl h1),Bool.or_true]
  · rw [df h1,zf_]
    by_cases h2:m > 20
    · rw [dt h2,zt_,zt_,dt (.inr (.inl h2)),Bool.or_true]
    · rw [df h2,zf_]
      by_cases h3:m≥0
      · rw [dt h3,zt_]
        by_cases h4:m<y.1
        · rw [dt h4,zt_,dt (.inr (.inr ⟨h3,h4⟩)),Bool.or_true]
        · rw [df h4,zf_,df (by omega),Bool.or_false]
      · rw [df h3,zf_,zf_,df (by omega),Bool.or_false]
end Go.Proofs.YthilboheomikjaaGreatDoor
end
