/- GR, P10, P2, G7, G9, P5, P6, P7, G13, Q9, N5, N6, N7, G17, Q12 -/
import Derived.Test.YthilboheomikjaaGreatDoorMRRexLaws4
import Derived.Shelf.Strings.Runes
import Derived.Shelf.Strings.IndexAny
import Derived.Below
import Derived.WalkKit
import Derived.Defers
import Derived.Recover
set_option linter.unusedVariables false
set_option linter.unusedSimpArgs false
section
namespace Go.Proofs.YthilboheomikjaaGreatDoor
open Go.AL
set_option maxRecDepth 100000
def Zgv (v105:Bool):Option Bool:=
  cond v105 ((some true)) (((some false)))
def Zgu (v0:Int) (v102:Bool):Option Bool:=
  cond v102 ((some true)) (cond (decide (57343<v0)) ((Zgv (decide (v0≤1114111)))) ((Zgv false)))
def F115 (k:Nat) (v0:Int):Option Bool:=
  (cond (decide (0≤v0)) ((Zgu v0 (decide (v0<55296)))) ((Zgu v0 false)))
theorem ZlI (k:Nat) (v0:Int) (r:Bool) (hF:F115 k v0=some r):Sim Tryz.prog GL0 115 [one (.int .i32 v0)] [] (one (.bool r)) []:=by
 refine ZB [] Tryz.func115 rfl kr kr ?_
 show WA _ _ 17 _ _ _
 refine WA.seq ?_
 refine WA.reg [0] [] [] (env':=[(0,one (.int .i32 v0))]) (os':=[]) (O:=[]) kr (sound _ _) trivial ?_
 refine WA.seq ?_
 refine WA.block ?_
 refine WA.join (fun s_=>∃(v102:Bool),Zj s_.env [0,3]=[(0,one (.int .i32 v0)),(3,one (.bool v102))]∧Zj s_.os []=[]∧Zgu v0 v102=some r) ?_ ?_
 {
 rintro s_ ⟨v102,he,ho,hF⟩
 refine WA.keep _ _ he ho ?_
 clear he ho
 refine WA.cond (b:=v102) rfl (fun hb103=>?_) (fun hb103=>?_)
 {
 have hF:=Zi hF hb103
 refine WA.seq ?_
 refine WA.reg [2] [] [] (env':=[(2,one (.bool true))]) (os':=[]) (O:=[]) kr (sound _ _) trivial ?_
 refine WA.ret ?_
 obtain rfl:=Option.some.inj hF
 exact Zr (one (.bool true)) [] kr kr kr kr (by decide) rfl rfl }
 {
 have hF:=Zh hF hb103
 refine WA.join (fun s_=>∃(v105:Bool),Zj s_.env [10]=[(10,one (.bool v105))]∧Zj s_.os []=[]∧Zgv v105=some r) ?_ ?_
 {
 rintro s_ ⟨v105,he,ho,hF⟩
 refine WA.keep _ _ he ho ?_
 clear he ho
 refine WA.cond (b:=v105) rfl (fun hb106=>?_) (fun hb106=>?_)
 {
 have hF:=Zi hF hb106
 refine WA.seq ?_
 refine WA.reg [2] [] [] (env':=[(2,one (.bool true))]) (os':=[]) (O:=[]) kr (sound _ _) trivial ?_
 refine WA.ret ?_
 obtain rfl:=Option.some.inj hF
 exact Zr (one (.bool true)) [] kr kr kr kr (by decide) rfl rfl }
 {
 have hF:=Zh hF hb106
 refine WA.skip ?_
 refine WA.seq ?_
 refine WA.reg [2] [] [] (env':=[(2,one (.bool false))]) (os':=[]) (O:=[]) kr (sound _ _) trivial ?_
 refine WA.ret ?_
 obtain rfl:=Option.some.inj hF
 exact Zr (one (.bool false)) [] kr kr kr kr (by decide) rfl rfl } }
 {
 rcases Bool.eq_false_or_eq_true (decide (57343<v0)) with hb104 | hb104
 {
 have hF:=Zi hF hb104
 refine WA.reg [10] [] [(2,.bool true)] (env':=[(10,one (.bool (decide (v0≤1114111))))]) (os':=[]) (O:=[(decide (57343<v0))=true]) kr (sound _ _) ⟨hb104,trivial⟩ ?_
 exact ⟨(decide (v0≤1114111)),kr,kr,hF⟩ }
 {
 have hF:=Zh hF hb104
 refine WA.reg [10] [] [(2,.bool false)] (env':=[(10,one (.bool false))]) (os':=[]) (O:=[(decide (57343<v0))=false]) kr (sound _ _) ⟨hb104,trivial⟩ ?_
 exact ⟨false,kr,kr,hF⟩ } } } }
 {
 rcases Bool.eq_false_or_eq_true (decide (0≤v0)) with hb101 | hb101
 {
 have hF:=Zi hF hb101
 refine WA.reg [0,3] [] [(2,.bool true)] (env':=[(0,one (.int .i32 v0)),(3,one (.bool (decide (v0<55296))))]) (os':=[]) (O:=[(decide (0≤v0))=true]) kr (sound _ _) ⟨hb101,trivial⟩ ?_
 exact ⟨(decide (v0<55296)),kr,kr,hF⟩ }
 {
 have hF:=Zh hF hb101
 refine WA.reg [0,3] [] [(2,.bool false)] (env':=[(0,one (.int .i32 v0)),(3,one (.bool false))]) (os':=[]) (O:=[(decide (0≤v0))=false]) kr (sound _ _) ⟨hb101,trivial⟩ ?_
 exact ⟨false,kr,kr,hF⟩ } }
def ZiZ (self5:Int→Option Int) (v0:List UInt8) (v1:Int) (v139:Int) (v149:Int):Option Int:=
  (cond (decide (v149<(((Utf8.encode v1).data.toList).length:Int))) ((idxL v0 (w64 (v139-v149))).bind fun y151=>(idxL ((Utf8.encode v1).data.toList) (w64 ((w64 ((((Utf8.encode v1).data.toList).length:Int)-1))-v149))).bind fun y152=>(cond ((y151.toNat:Int) != (y152.toNat:Int)) (none) ((self5 (w64 (v149+1)))))) (((some (w64 (v139-(w64 ((((Utf8.encode v1).data.toList).length:Int)-1))))))))
def Ze6 (v0:List UInt8) (v1:Int) (v139:Int):Nat→Int→Option Int
  | 0,_=>none
  | m_+1,v149=>ZiZ (Ze6 v0 v1 v139 m_) v0 v1 v139 v149
def ZgF (k:Nat) (v0:List UInt8) (v1:Int) (v139:Int):Option Int:=
  (Ze6 v0 v1 v139 k 1)
def ZiY (k:Nat) (v0:List UInt8) (v1:Int):Option Int:=
  (cond (decide ((w64 ((((Utf8.encode v1).data.toList).length:Int)-1))<(v0.length:Int))) ((idxL v0 (w64 ((((Utf8.encode v1).data.toList).length:Int)-1))).bind fun y132=>(idxL ((Utf8.encode v1).data.toList) (w64 ((((Utf8.encode v1).data.toList).length:Int)-1))).bind fun y133=>(cond ((y132.toNat:Int) != (y133.toNat:Int)) (if (0:Int)≤(w64 ((w64 ((((Utf8.encode v1).data.toList).length:Int)-1))+1))∧((w64 ((w64 ((((Utf8.encode v1).data.toList).length:Int)-1))+1)):Int)≤(v0.length:Int)∧(v0.length:Int)≤(v0.length:Int) then (idxL ((Utf8.encode v1).data.toList) (w64 ((((Utf8.encode v1).data.toList).length:Int)-1))).bind fun y136=>(F170 k ((v0.take (Int.toNat (v0.length:Int))).drop (Int.toNat (w64 ((w64 ((((Utf8.encode v1).data.toList).length:Int)-1))+1)))) (y136.toNat:Int)).bind fun y137=>((cond (decide (y137<0)) ((some (-1))) (((ZgF k v0 v1 (w64 ((w64 ((((Utf8.encode v1).data.toList).length:Int)-1))+(w64 (y137+1))))))))) else none) ((ZgF k v0 v1 (w64 ((((Utf8.encode v1).data.toList).length:Int)-1)))))) (((some (-1)))))
def ZgG (k:Nat) (v0:List UInt8) (v1:Int):Nat→Option Int
  | 0=>none
  | m_+1=>ZiY k v0 v1
def ZgE (k:Nat) (v0:List UInt8) (v1:Int) (v102:Bool):Option Int:=
  cond v102 ((F170 k v0 (IntKind.wrap .u8 v1)).bind fun y104=>(some y104)) ((cond (v1 == 65533) (none) ((F115 k v1).bind fun y106=>(cond (!y106) ((some (-1))) (((((ZgG k v0 v1 k)))))))))
def F171 (k:Nat) (v0:List UInt8) (v1:Int):Option Int:=
  (cond (decide (0≤v1)) ((ZgE k v0 v1 (decide (v1<128)))) ((ZgE k v0 v1 false)))
theorem ZlU (k:Nat) (v0:List UInt8) (v1:Int) (r:Int) (hF:F171 k v0 v1=some r):Sim Tryz.prog GL0 171 [one (.str v0),one (.int .i32 v1)] [] (one (.int .i64 r)) []:=by
 refine ZB [] Tryz.func171 rfl kr kr ?_
 show WA _ _ 187 _ _ _
 refine WA.seq ?_
 refine WA.reg [0,1] [] [] (env':=[(0,one (.str v0)),(1,one (.int .i32 v1))]) (os':=[]) (O:=[]) kr (sound _ _) trivial ?_
 refine WA.block ?_
 refine WA.join (fun s_=>∃(v102:Bool),Zj s_.env [0,1,160]=[(0,one (.str v0)),(1,one (.int .i32 v1)),(160,one (.bool v102))]∧Zj s_.os []=[]∧ZgE k v0 v1 v102=some r) ?_ ?_
 {
 rintro s_ ⟨v102,he,ho,hF⟩
 refine WA.keep _ _ he ho ?_
 clear he ho
 refine WA.cond (b:=v102) rfl (fun hb103=>?_) (fun hb103=>?_)
 {
 have hF:=Zi hF hb103
 refine WA.seq ?_
 obtain ⟨y104,hy104,hF⟩:=bind_some hF
 refine WA.reg [4] [] [(3,.callR [] (one (.int .i64 y104)))] (env':=[(4,one (.int .i64 y104))]) (os':=[]) (O:=[Sim Tryz.prog GL0 170 [one (.str v0),one (.int .u8 (IntKind.wrap .u8 v1))] [] (one (.int .i64 y104)) [],([]:List Nat).Nodup]) kr (sound _ _) ⟨(ZgD k _ _ _ hy104),(by decide),trivial⟩ ?_
 refine WA.ret ?_
 obtain rfl:=Option.some.inj hF
 exact Zr (one (.int .i64 y104)) [] kr kr kr kr (by decide) rfl rfl }
 {
 have hF:=Zh hF hb103
 refine WA.seq ?_
 refine WA.reg [0,1,171] [] [] (env':=[(0,one (.str v0)),(1,one (.int .i32 v1)),(171,one (.bool (v1 == 65533)))]) (os':=[]) (O:=[]) kr (sound _ _) trivial ?_
 refine WA.cond (b:=(v1 == 65533)) rfl (fun hb105=>?_) (fun hb105=>?_)
 {
 have hF:=Zi hF hb105
 cases hF }
 {
 have hF:=Zh hF hb105
 refine WA.seq ?_
 obtain ⟨y106,hy106,hF⟩:=bind_some hF
 refine WA.reg [0,1,183] [] [(1,.callR [] (one (.bool y106)))] (env':=[(0,one (.str v0)),(1,one (.int .i32 v1)),(183,one (.bool (!y106)))]) (os':=[]) (O:=[Sim Tryz.prog GL0 115 [one (.int .i32 v1)] [] (one (.bool y106)) [],([]:List Nat).Nodup]) kr (sound _ _) ⟨(ZlI k _ _ hy106),(by decide),trivial⟩ ?_
 refine WA.cond (b:=(!y106)) rfl (fun hb107=>?_) (fun hb107=>?_)
 {
 have hF:=Zi hF hb107
 refine WA.seq ?_
 refine WA.reg [4] [] [] (env':=[(4,one (.int .i64 (-1)))]) (os':=[]) (O:=[]) kr (sound _ _) trivial ?_
 refine WA.ret ?_
 obtain rfl:=Option.some.inj hF
 exact Zr (one (.int .i64 (-1))) [] kr kr kr kr (by decide) rfl rfl }
 {
 have hF:=Zh hF hb107
 refine WA.scope ?_
 refine WA.seq ?_
 refine WA.reg [0,7] [] [] (env':=[(0,one (.str v0)),(7,one (.str ((Utf8.encode v1).data.toList)))]) (os':=[]) (O:=[]) kr (sound _ _) trivial ?_
 refine WA.seq ?_
 refine WA.reg [0,7,8] [] [] (env':=[(0,one (.str v0)),(7,one (.str ((Utf8.encode v1).data.toList))),(8,one (.int .i64 (w64 ((((Utf8.encode v1).data.toList).length:Int)-1))))]) (os':=[]) (O:=[]) kr (sound _ _) trivial ?_
 refine WA.seq ?_
 refine WA.reg [0,7,8,9] [] [] (env':=[(0,one (.str v0)),(7,one (.str ((Utf8.encode v1).data.toList))),(8,one (.int .i64 (w64 ((((Utf8.encode v1).data.toList).length:Int)-1)))),(9,one (.int .i64 (w64 ((((Utf8.encode v1).data.toList).length:Int)-1))))]) (os':=[]) (O:=[]) kr (sound _ _) trivial ?_
 refine WA.seq ?_
 refine WA.reg [0,7,8,9] [] [] (env':=[(0,one (.str v0)),(7,one (.str ((Utf8.encode v1).data.toList))),(8,one (.int .i64 (w64 ((((Utf8.encode v1).data.toList).length:Int)-1)))),(9,one (.int .i64 (w64 ((((Utf8.encode v1).data.toList).length:Int)-1))))]) (os':=[]) (O:=[]) kr (sound _ _) trivial ?_
 refine WA.seq ?_
 refine WA.block ?_
 refine WA.loop (fun m s_=>Zj s_.env [0,7,8,9]=[(0,one (.str v0)),(7,one (.str ((Utf8.encode v1).data.toList))),(8,one (.int .i64 (w64 ((((Utf8.encode v1).data.toList).length:Int)-1)))),(9,one (.int .i64 (w64 ((((Utf8.encode v1).data.toList).length:Int)-1))))]∧Zj s_.os []=[]∧ZgG k v0 v1 m=some r) k ⟨kr,kr,hF⟩ ?_
 clear hF
 rintro m3 s_ ⟨he,ho,hF⟩
 refine WA.keep _ _ he ho ?_
 clear he ho
 cases m3 with
 | zero=>cases hF
 | succ m3=>
  obtain ⟨self3,hself3⟩:∃g,g=ZgG k v0 v1 m3:=⟨_,rfl⟩
  have hF:ZiY k v0 v1=some r:=by first | (rw [hself3];exact hF) | exact hF
  refine WA.seq ?_
  refine WA.seq ?_
  refine WA.reg [0,7,8,9,26] [] [] (env':=[(0,one (.str v0)),(7,one (.str ((Utf8.encode v1).data.toList))),(8,one (.int .i64 (w64 ((((Utf8.encode v1).data.toList).length:Int)-1)))),(9,one (.int .i64 (w64 ((((Utf8.encode v1).data.toList).length:Int)-1)))),(26,one (.bool (decide ((w64 ((((Utf8.encode v1).data.toList).length:Int)-1))<(v0.length:Int)))))]) (os':=[]) (O:=[]) kr (sound _ _) trivial ?_
  refine WA.cond (b:=(decide ((w64 ((((Utf8.encode v1).data.toList).length:Int)-1))<(v0.length:Int)))) rfl (fun hb131=>?_) (fun hb131=>?_)
  {
 have hF:=Zi hF hb131
 refine WA.skip ?_
 refine WA.block ?_
 refine WA.scope ?_
 refine WA.join (fun s_=>∃(v139:Int),Zj s_.env [0,7,8,9]=[(0,one (.str v0)),(7,one (.str ((Utf8.encode v1).data.toList))),(8,one (.int .i64 (w64 ((((Utf8.encode v1).data.toList).length:Int)-1)))),(9,one (.int .i64 v139))]∧Zj s_.os []=[]∧ZgF k v0 v1 v139=some r) ?_ ?_
 {
 rintro s_ ⟨v139,he,ho,hF⟩
 refine WA.keep _ _ he ho ?_
 clear he ho
 refine WA.seq ?_
 refine WA.seq ?_
 refine WA.reg [0,7,8,9,12] [] [] (env':=[(0,one (.str v0)),(7,one (.str ((Utf8.encode v1).data.toList))),(8,one (.int .i64 (w64 ((((Utf8.encode v1).data.toList).length:Int)-1)))),(9,one (.int .i64 v139)),(12,one (.int .i64 1))]) (os':=[]) (O:=[]) kr (sound _ _) trivial ?_
 refine WA.block ?_
 refine WA.loop (fun m s_=>∃(v149:Int),Zj s_.env [0,7,8,9,12]=[(0,one (.str v0)),(7,one (.str ((Utf8.encode v1).data.toList))),(8,one (.int .i64 (w64 ((((Utf8.encode v1).data.toList).length:Int)-1)))),(9,one (.int .i64 v139)),(12,one (.int .i64 v149))]∧Zj s_.os []=[]∧Ze6 v0 v1 v139 m v149=some r) k ⟨1,kr,kr,hF⟩ ?_
 clear hF
 rintro m5 s_ ⟨v149,he,ho,hF⟩
 refine WA.keep _ _ he ho ?_
 clear he ho
 cases m5 with
 | zero=>cases hF
 | succ m5=>
  obtain ⟨self5,hself5⟩:∃g,g=Ze6 v0 v1 v139 m5:=⟨_,rfl⟩
  have hF:ZiZ self5 v0 v1 v139 v149=some r:=by first | (rw [hself5];exact hF) | exact hF
  refine WA.seq ?_
  refine WA.seq ?_
  refine WA.reg [0,7,8,9,12,51] [] [] (env':=[(0,one (.str v0)),(7,one (.str ((Utf8.encode v1).data.toList))),(8,one (.int .i64 (w64 ((((Utf8.encode v1).data.toList).length:Int)-1)))),(9,one (.int .i64 v139)),(12,one (.int .i64 v149)),(51,one (.bool (decide (v149<(((Utf8.encode v1).data.toList).length:Int)))))]) (os':=[]) (O:=[]) kr (sound _ _) trivial ?_
  refine WA.cond (b:=(decide (v149<(((Utf8.encode v1).data.toList).length:Int)))) rfl (fun hb150=>?_) (fun hb150=>?_)
  {
 have hF:=Zi hF hb150
 refine WA.skip ?_
 refine WA.seq ?_
 refine WA.block ?_
 refine WA.seq ?_
 obtain ⟨y151,hy151,hF⟩:=bind_some hF
 obtain ⟨y152,hy152,hF⟩:=bind_some hF
 refine WA.regD kr [0,7,8,9,12,64] [] [(4,.num (y151.toNat:Int)),(9,.num (y152.toNat:Int))] (env':=[(0,one (.str v0)),(7,one (.str ((Utf8.encode v1).data.toList))),(8,one (.int .i64 (w64 ((((Utf8.encode v1).data.toList).length:Int)-1)))),(9,one (.int .i64 v139)),(12,one (.int .i64 v149)),(64,one (.bool ((y151.toNat:Int) != (y152.toNat:Int))))]) (os':=[]) (O:=[(idxL v0 (w64 (v139-v149))).map (fun b=>(b.toNat:Int))=some (y151.toNat:Int),(idxL ((Utf8.encode v1).data.toList) (w64 ((w64 ((((Utf8.encode v1).data.toList).length:Int)-1))-v149))).map (fun b=>(b.toNat:Int))=some (y152.toNat:Int)]) kr kr (sound _ _) ⟨(by rw [hy151];rfl),(by rw [hy152];rfl),trivial⟩ ?_
 refine WA.cond (b:=((y151.toNat:Int) != (y152.toNat:Int))) rfl (fun hb153=>?_) (fun hb153=>?_)
 {
 have hF:=Zi hF hb153
 cases hF }
 {
 have hF:=Zh hF hb153
 refine WA.skip ?_
 refine WA.reg [0,7,8,9,12] [] [] (env':=[(0,one (.str v0)),(7,one (.str ((Utf8.encode v1).data.toList))),(8,one (.int .i64 (w64 ((((Utf8.encode v1).data.toList).length:Int)-1)))),(9,one (.int .i64 v139)),(12,one (.int .i64 (w64 (v149+1))))]) (os':=[]) (O:=[]) kr (sound _ _) trivial ?_
 exact ⟨m5,Nat.lt_succ_self _,(w64 (v149+1)),kr,kr,by rw [hself5] at hF;exact hF⟩ } }
  {
 have hF:=Zh hF hb150
 refine WA.exit ?_
 refine WA.seq ?_
 refine WA.seq ?_
 refine WA.reg [4] [] [] (env':=[(4,one (.int .i64 (w64 (v139-(w64 ((((Utf8.encode v1).data.toList).length:Int)-1))))))]) (os':=[]) (O:=[]) kr (sound _ _) trivial ?_
 refine WA.ret ?_
 obtain rfl:=Option.some.inj hF
 exact Zr (one (.int .i64 (w64 (v139-(w64 ((((Utf8.encode v1).data.toList).length:Int)-1)))))) [] kr kr kr kr (by decide) rfl rfl } }
 {
 refine WA.seq ?_
 obtain ⟨y132,hy132,hF⟩:=bind_some hF
 obtain ⟨y133,hy133,hF⟩:=bind_some hF
 refine WA.regD kr [0,7,8,9,33] [] [(2,.num (y132.toNat:Int)),(5,.num (y133.toNat:Int))] (env':=[(0,one (.str v0)),(7,one (.str ((Utf8.encode v1).data.toList))),(8,one (.int .i64 (w64 ((((Utf8.encode v1).data.toList).length:Int)-1)))),(9,one (.int .i64 (w64 ((((Utf8.encode v1).data.toList).length:Int)-1)))),(33,one (.bool ((y132.toNat:Int) != (y133.toNat:Int))))]) (os':=[]) (O:=[(idxL v0 (w64 ((((Utf8.encode v1).data.toList).length:Int)-1))).map (fun b=>(b.toNat:Int))=some (y132.toNat:Int),(idxL ((Utf8.encode v1).data.toList) (w64 ((((Utf8.encode v1).data.toList).length:Int)-1))).map (fun b=>(b.toNat:Int))=some (y133.toNat:Int)]) kr kr (sound _ _) ⟨(by rw [hy132];rfl),(by rw [hy133];rfl),trivial⟩ ?_
 refine WA.cond (b:=((y132.toNat:Int) != (y133.toNat:Int))) rfl (fun hb134=>?_) (fun hb134=>?_)
 {
 have hF:=Zi hF hb134
 refine WA.seq ?_
 obtain ⟨hc135,hF⟩:=Zn hF
 obtain ⟨y136,hy136,hF⟩:=bind_some hF
 obtain ⟨y137,hy137,hF⟩:=bind_some hF
 refine WA.regD kr [0,7,8,9,11] [] [(6,.num (y136.toNat:Int)),(7,.callR [] (one (.int .i64 y137)))] (env':=[(0,one (.str v0)),(7,one (.str ((Utf8.encode v1).data.toList))),(8,one (.int .i64 (w64 ((((Utf8.encode v1).data.toList).length:Int)-1)))),(9,one (.int .i64 (w64 ((((Utf8.encode v1).data.toList).length:Int)-1)))),(11,one (.int .i64 y137))]) (os':=[]) (O:=[(0:Int)≤(w64 ((w64 ((((Utf8.encode v1).data.toList).length:Int)-1))+1)),((w64 ((w64 ((((Utf8.encode v1).data.toList).length:Int)-1))+1)):Int)≤(v0.length:Int),(v0.length:Int)≤(v0.length:Int),(idxL ((Utf8.encode v1).data.toList) (w64 ((((Utf8.encode v1).data.toList).length:Int)-1))).map (fun b=>(b.toNat:Int))=some (y136.toNat:Int),Sim Tryz.prog GL0 170 [one (.str ((v0.take (Int.toNat (v0.length:Int))).drop (Int.toNat (w64 ((w64 ((((Utf8.encode v1).data.toList).length:Int)-1))+1))))),one (.int .u8 (y136.toNat:Int))] [] (one (.int .i64 y137)) [],([]:List Nat).Nodup]) kr kr (sound _ _) ⟨hc135.1,hc135.2.1,hc135.2.2,(by rw [hy136];rfl),(ZgD k _ _ _ hy137),(by decide),trivial⟩ ?_
 refine WA.seq ?_
 refine WA.seq ?_
 refine WA.reg [0,7,8,9,11,43] [] [] (env':=[(0,one (.str v0)),(7,one (.str ((Utf8.encode v1).data.toList))),(8,one (.int .i64 (w64 ((((Utf8.encode v1).data.toList).length:Int)-1)))),(9,one (.int .i64 (w64 ((((Utf8.encode v1).data.toList).length:Int)-1)))),(11,one (.int .i64 y137)),(43,one (.bool (decide (y137<0))))]) (os':=[]) (O:=[]) kr (sound _ _) trivial ?_
 refine WA.cond (b:=(decide (y137<0))) rfl (fun hb138=>?_) (fun hb138=>?_)
 {
 have hF:=Zi hF hb138
 refine WA.seq ?_
 refine WA.reg [4] [] [] (env':=[(4,one (.int .i64 (-1)))]) (os':=[]) (O:=[]) kr (sound _ _) trivial ?_
 refine WA.ret ?_
 obtain rfl:=Option.some.inj hF
 exact Zr (one (.int .i64 (-1))) [] kr kr kr kr (by decide) rfl rfl }
 {
 have hF:=Zh hF hb138
 refine WA.skip ?_
 refine WA.reg [0,7,8,9] [] [] (env':=[(0,one (.str v0)),(7,one (.str ((Utf8.encode v1).data.toList))),(8,one (.int .i64 (w64 ((((Utf8.encode v1).data.toList).length:Int)-1)))),(9,one (.int .i64 (w64 ((w64 ((((Utf8.encode v1).data.toList).length:Int)-1))+(w64 (y137+1))))))]) (os':=[]) (O:=[]) kr (sound _ _) trivial ?_
 exact ⟨(w64 ((w64 ((((Utf8.encode v1).data.toList).length:Int)-1))+(w64 (y137+1)))),kr,kr,hF⟩ } }
 {
 have hF:=Zh hF hb134
 refine WA.skip ?_
 exact ⟨(w64 ((((Utf8.encode v1).data.toList).length:Int)-1)),kr,kr,hF⟩ } } }
  {
 have hF:=Zh hF hb131
 refine WA.exit ?_
 refine WA.seq ?_
 refine WA.seq ?_
 refine WA.reg [4] [] [] (env':=[(4,one (.int .i64 (-1)))]) (os':=[]) (O:=[]) kr (sound _ _) trivial ?_
 refine WA.ret ?_
 obtain rfl:=Option.some.inj hF
 exact Zr (one (.int .i64 (-1))) [] kr kr kr kr (by decide) rfl rfl } } } } }
 {
 rcases Bool.eq_false_or_eq_true (decide (0≤v1)) with hb101 | hb101
 {
 have hF:=Zi hF hb101
 refine WA.reg [0,1,160] [] [(2,.bool true)] (env':=[(0,one (.str v0)),(1,one (.int .i32 v1)),(160,one (.bool (decide (v1<128))))]) (os':=[]) (O:=[(decide (0≤v1))=true]) kr (sound _ _) ⟨hb101,trivial⟩ ?_
 exact ⟨(decide (v1<128)),kr,kr,hF⟩ }
 {
 have hF:=Zh hF hb101
 refine WA.reg [0,1,160] [] [(2,.bool false)] (env':=[(0,one (.str v0)),(1,one (.int .i32 v1)),(160,one (.bool false))]) (os':=[]) (O:=[(decide (0≤v1))=false]) kr (sound _ _) ⟨hb101,trivial⟩ ?_
 exact ⟨false,kr,kr,hF⟩ } }
def Zlr (k:Nat) (v0:List UInt8) (v1:Int):Option Bool:=
  (F171 k v0 v1).bind fun y101=>(some (decide (y101≥0)))
theorem ZkL (k:Nat) (v0:List UInt8) (v1:Int) (r:Bool) (hF:Zlr k v0 v1=some r):Sim Tryz.prog GL0 141 [one (.str v0),one (.int .i32 v1)] [] (one (.bool r)) []:=by
 refine ZB [] Tryz.func141 rfl kr kr ?_
 show WA _ _ 9 _ _ _
 refine WA.seq ?_
 refine WA.reg [0,1] [] [] (env':=[(0,one (.str v0)),(1,one (.int .i32 v1))]) (os':=[]) (O:=[]) kr (sound _ _) trivial ?_
 refine WA.seq ?_
 obtain ⟨y101,hy101,hF⟩:=bind_some hF
 refine WA.reg [4] [] [(2,.callR [] (one (.int .i64 y101)))] (env':=[(4,one (.bool (decide (y101≥0))))]) (os':=[]) (O:=[Sim Tryz.prog GL0 171 [one (.str v0),one (.int .i32 v1)] [] (one (.int .i64 y101)) [],([]:List Nat).Nodup]) kr (sound _ _) ⟨(ZlU k _ _ _ hy101),(by decide),trivial⟩ ?_
 refine WA.ret ?_
 obtain rfl:=Option.some.inj hF
 exact Zr (one (.bool (decide (y101≥0)))) [] kr kr kr kr (by decide) rfl rfl
end Go.Proofs.YthilboheomikjaaGreatDoor
end
section
namespace Go.Proofs
open Go.Shelf Go.RowKit Go.Lib
variable {P:Program} {ρ:Ren}
set_option maxHeartbeats 2000000 in
set_option maxRecDepth 1000000 in
theorem ZgP (L:Lays.n152 P ρ) (s:ByteArray) (w:World) (hascii:∀(j:Nat) b,s.data.toList[j]?=some b→b.toNat<128) :
    Calls P (ρ.f 152) #[.string s,.int .i32 65533] w fun e w'=>e = .returned (.int .i64 (-1))∧∃pos,w'=w.iter s pos:=by
  have HA:Aside (∀(j:Nat) b,s.data.toList[j]?=some b→b.toNat<128):=hascii
  clear hascii
  have t3:=L.t3;have a3:=L.a3;have z3:=L.z3;have v3:=L.v3
  have t4:=L.t4;have a4:=L.a4;have z4:=L.z4;have v4:=L.v4
  have t5:=L.t5;have a5:=L.a5;have z5:=L.z5;have v5:=L.v5
  have t9:=L.t9;have a9:=L.a9;have z9:=L.z9;have v9:=L.v9
  have t21:=L.t21;have a21:=L.a21;have z21:=L.z21;have v21:=L.v21
  go_enter L.f152,Body.n152_ntmps ρ
  go_wp2
  go_loopg [5,6] s.size (fun g _ _ wx=>∃i:Nat,i+g=s.size∧wx=w.iter s i)
  case atStart=>exact ⟨0,by omega,rfl⟩
  case round=>
    obtain ⟨i,hig,rfl⟩:=hrel
    cases gk with
    | zero=>
      obtain rfl:i=s.size:=by omega
      have hnx:=run_next_end (P:=P) w s s.size
      go_wp2
      go_ret
      exact ⟨rfl,_,rfl⟩
    | succ g=>
      have hi:i<s.size:=by omega
      obtain ⟨x,hx⟩:∃x:UInt8,s[i]'hi=x:=⟨_,rfl⟩
      have hxl:s.data.toList[i]?=some x:=by rw [←hx];exact Lib.data_getElem? s i hi
      have hx128:x.toNat<128:=HA.out i x hxl
      have hnx:=fun ty=>run_next_ascii (P:=P) w s i ty hi (by rw [hx];exact hx128)
      rw [hx] at hnx
      have hne:((x.toNat:Int) == 65533)=false:=beq_eq_false_iff_ne.2 (by omega)
      go_wp2
      go_roundg g
      case measure=>omega
      case rel=>exact ⟨i+1,by omega,rfl⟩
set_option maxHeartbeats 2000000 in
set_option maxRecDepth 1000000 in
theorem Zfi (L:Lays.n151 P ρ) (s:ByteArray) (w:World) (hascii:∀(j:Nat) b,s.data.toList[j]?=some b→b.toNat<128) :
    Calls P (ρ.f 151) #[.string s,.int .i32 65533] w fun e w'=>e = .returned (.bool false)∧Below w.heap.size w w':=by
  have HA:Aside (∀(j:Nat) b,s.data.toList[j]?=some b→b.toNat<128):=hascii
  clear hascii
  have t3:=L.t3;have a3:=L.a3;have z3:=L.z3;have v3:=L.v3
  have t4:=L.t4;have a4:=L.a4;have z4:=L.z4;have v4:=L.v4
  have t9:=L.t9;have a9:=L.a9;have z9:=L.z9;have v9:=L.v9
  have t21:=L.t21;have a21:=L.a21;have z21:=L.z21;have v21:=L.v21
  have e152:∀args w,(callFunc (ρ.f 152) args).run P w = .ok (.enter (ρ.f 152) args) w:=enters_of L.f152 (by kernel_rfl) rfl
  go_enter L.f151,Body.n151_ntmps ρ
  go_wp2_with (go_at_fn (ρ.f 152);refine (ZgP { L with } _ _ HA.out).mono ?_;rintro e w' ⟨rfl,pos,hw⟩;rw [hw])
  go_ret
  exact ⟨rfl,(Below.refl _ w).alloc (Nat.le_refl _) _⟩
end Go.Proofs
end
section
namespace Go.Proofs.YthilboheomikjaaGreatDoor
open Go.AL Go.RowKit
def badV:Value:=.iface 70 (.agg #[])
def F141 (k:Nat) (s:List UInt8) (r:Int):Option Bool:=if r=65533 then (if (s.all fun b=>decide (b.toNat<128))=true then some false else none) else Zlr k s r
theorem ZiW (k:Nat) (v0:List UInt8) (v1:Int) (r:Bool) (hF:F141 k v0 v1=some r):Sim Tryz.prog GL0 141 [one (.str v0),one (.int .i32 v1)] [] (one (.bool r)) []:=by
  unfold F141 at hF
  by_cases h:v1=65533
  · rw [if_pos h] at hF
    obtain ⟨hl,hF⟩:=Zn hF
    obtain rfl:=Option.some.inj hF
    subst h
    refine Zbd fun w I G vs hs ha=>?_
    obtain ⟨vs,rfl,hb⟩:=Zcx ha;clear ha;have ha:=hb;clear hb
    obtain ⟨vs,rfl,hb⟩:=Zh2 ha;clear ha;have ha:=hb;clear hb
    obtain rfl:=Zcw ha
    refine Calls.imp (Zfi Tryz.lays151 ⟨v0.toArray⟩ w fun j b hb=>?_) ?_
    · have:=List.all_eq_true.1 hl b (List.mem_of_getElem? (by simpa using hb))
      simpa using this
    · rintro e w' ⟨rfl,hb⟩
      exact ⟨_,rfl,fun _ _ _ _=>⟨_,rfl,.bool _⟩,hb⟩
  · rw [if_neg h] at hF
    exact ZkL k v0 v1 r hF
end Go.Proofs.YthilboheomikjaaGreatDoor
end
section
namespace Go.Proofs.YthilboheomikjaaGreatDoor
open Go.AL
set_option maxRecDepth 100000
structure Zg where
  f_s:List UInt8
  f_at:Int
  f_over:Bool
def Zd (x:Zg):List PV:=[.str x.f_s,.int .i64 x.f_at,.bool x.f_over]
def F97 (k:Nat) (v0:Zg) (v1:List UInt8):Option Bool:=
  (if (0:Int)≤v0.f_at∧(v0.f_at:Int)≤(v0.f_s.length:Int)∧(v0.f_s.length:Int)≤(v0.f_s.length:Int) then (F116 k ((v0.f_s.take (Int.toNat (v0.f_s.length:Int))).drop (Int.toNat v0.f_at)) v1).bind fun y102=>(some y102) else none)
theorem Zcv (k:Nat) (v0:Zg) (v1:List UInt8) (r:Bool) (hF:F97 k v0 v1=some r):Sim Tryz.prog GL0 97 [.val false [.ptr 0 1 0 0],one (.str v1)] [.box (pvL (Zd v0))] (one (.bool r)) [.box (pvL (Zd v0))]:=by
 refine ZB [0] Tryz.func97 rfl kr kr ?_
 show WA _ _ 16 _ _ _
 refine WA.seq ?_
 refine WA.reg [0,1] [0] [] (env':=[(0,.val false [.ptr 0 1 0 0]),(1,one (.str v1))]) (os':=[(0,.box (pvL (Zd v0)))]) (O:=[]) kr (sound _ _) trivial ?_
 refine WA.seq ?_
 obtain ⟨hc101,hF⟩:=Zn hF
 obtain ⟨y102,hy102,hF⟩:=bind_some hF
 refine WA.regD kr [4] [0] [(10,.callR [] (one (.bool y102)))] (env':=[(4,one (.bool y102))]) (os':=[(0,.box (pvL (Zd v0)))]) (O:=[(0:Int)≤v0.f_at,(v0.f_at:Int)≤(v0.f_s.length:Int),(v0.f_s.length:Int)≤(v0.f_s.length:Int),Sim Tryz.prog GL0 116 [one (.str ((v0.f_s.take (Int.toNat (v0.f_s.length:Int))).drop (Int.toNat v0.f_at))),one (.str v1)] [] (one (.bool y102)) [],([]:List Nat).Nodup]) kr kr (sound _ _) ⟨hc101.1,hc101.2.1,hc101.2.2,(ZlJ k _ _ _ hy102),(by decide),trivial⟩ ?_
 refine WA.ret ?_
 obtain rfl:=Option.some.inj hF
 exact Zr (one (.bool y102)) [.box (pvL (Zd v0))] kr kr kr kr (by decide) rfl rfl
def F71 (k:Nat) (v0:Zg) (v1:List UInt8):Option (Bool×Zg):=
  (F97 k v0 v1).bind fun y101=>(cond (!y101) ((some (false,v0))) ((((some (true,({ v0 with f_at:=(w64 (v0.f_at+(v1.length:Int))) }:Zg)))))))
theorem Zai (k:Nat) (v0:Zg) (v1:List UInt8) (r:Bool×Zg) (hF:F71 k v0 v1=some r):Sim Tryz.prog GL0 71 [.val false [.ptr 0 1 0 0],one (.str v1)] [.box (pvL (Zd v0))] (one (.bool r.1)) [.box (pvL (Zd r.2))]:=by
 refine ZB [0] Tryz.func71 rfl kr kr ?_
 show WA _ _ 19 _ _ _
 refine WA.seq ?_
 refine WA.reg [0,1] [0] [] (env':=[(0,.val false [.ptr 0 1 0 0]),(1,one (.str v1))]) (os':=[(0,.box (pvL (Zd v0)))]) (O:=[]) kr (sound _ _) trivial ?_
 refine WA.seq ?_
 refine WA.seq ?_
 obtain ⟨y101,hy101,hF⟩:=bind_some hF
 refine WA.reg [0,1,8] [0] [(2,.callR [0] (one (.bool y101)))] (env':=[(0,.val false [.ptr 0 1 0 0]),(1,one (.str v1)),(8,one (.bool (!y101)))]) (os':=[(0,.box (pvL (Zd v0)))]) (O:=[Sim Tryz.prog GL0 97 [.val false [.ptr 0 1 0 0],one (.str v1)] [.box (pvL (Zd v0))] (one (.bool y101)) [.box (pvL (Zd v0))],([0]:List Nat).Nodup]) kr (sound _ _) ⟨(Zcv k _ _ _ hy101),(by decide),trivial⟩ ?_
 refine WA.cond (b:=(!y101)) rfl (fun hb102=>?_) (fun hb102=>?_)
 {
 have hF:=Zi hF hb102
 refine WA.seq ?_
 refine WA.reg [4] [0] [] (env':=[(4,one (.bool false))]) (os':=[(0,.box (pvL (Zd v0)))]) (O:=[]) kr (sound _ _) trivial ?_
 refine WA.ret ?_
 obtain rfl:=Option.some.inj hF
 exact Zr (one (.bool false)) [.box (pvL (Zd v0))] kr kr kr kr (by decide) rfl rfl }
 {
 have hF:=Zh hF hb102
 refine WA.skip ?_
 refine WA.seq ?_
 refine WA.reg [] [0] [] (env':=[]) (os':=[(0,.box (pvL (Zd ({ v0 with f_at:=(w64 (v0.f_at+(v1.length:Int))) }:Zg))))]) (O:=[]) kr (sound _ _) trivial ?_
 refine WA.seq ?_
 refine WA.reg [4] [0] [] (env':=[(4,one (.bool true))]) (os':=[(0,.box (pvL (Zd ({ v0 with f_at:=(w64 (v0.f_at+(v1.length:Int))) }:Zg))))]) (O:=[]) kr (sound _ _) trivial ?_
 refine WA.ret ?_
 obtain rfl:=Option.some.inj hF
 exact Zr (one (.bool true)) [.box (pvL (Zd ({ v0 with f_at:=(w64 (v0.f_at+(v1.length:Int))) }:Zg)))] kr kr kr kr (by decide) rfl rfl }
def ZgA (v0:Zg) (y101:Int×Int) (v103:Bool):Option (Option (Int×Zg)):=
  cond v103 (some none) ((((some (some (y101.1,({ v0 with f_at:=(w64 (v0.f_at+y101.2)) }:Zg)))))))
def F140 (k:Nat) (v0:Zg):Option (Option (Int×Zg)):=
  (F55 k v0.f_s v0.f_at).bind fun y101=>(cond (y101.2 == 0) ((ZgA v0 y101 true)) ((ZgA v0 y101 (decide (y101.1<0)))))
theorem Zb9 (k:Nat) (v0:Zg) (r:Option (Int×Zg)) (hF:F140 k v0=some r):SimP Tryz.prog GL0 badV 140 [.val false [.ptr 0 1 0 0]] [.box (pvL (Zd v0))] (r.map fun r=>(one (.int .i64 r.1),[.box (pvL (Zd r.2))])):=by
 refine Za1 [0] Tryz.func140 rfl kr kr ?_
 show WA _ _ 35 _ _ _
 refine WA.seq ?_
 refine WA.reg [0] [0] [] (env':=[(0,.val false [.ptr 0 1 0 0])]) (os':=[(0,.box (pvL (Zd v0)))]) (O:=[]) kr (sound _ _) trivial ?_
 refine WA.seq ?_
 obtain ⟨y101,hy101,hF⟩:=bind_some hF
 refine WA.regD kr [0,3,4] [0] [(8,.callR [] (.tup [(false,[.pv (.int .i64 y101.1)]),(false,[.pv (.int .i64 y101.2)])]))] (env':=[(0,.val false [.ptr 0 1 0 0]),(3,one (.int .i64 y101.1)),(4,one (.int .i64 y101.2))]) (os':=[(0,.box (pvL (Zd v0)))]) (O:=[Sim Tryz.prog GL0 55 [one (.str v0.f_s),one (.int .i64 v0.f_at)] [] (.tup [(false,[.pv (.int .i64 y101.1)]),(false,[.pv (.int .i64 y101.2)])]) [],([]:List Nat).Nodup]) kr kr (sound _ _) ⟨(ZhU k _ _ _ hy101),(by decide),trivial⟩ ?_
 refine WA.seq ?_
 refine WA.join (fun s_=>∃(v103:Bool),Zj s_.env [0,3,4,22]=[(0,.val false [.ptr 0 1 0 0]),(3,one (.int .i64 y101.1)),(4,one (.int .i64 y101.2)),(22,one (.bool v103))]∧Zj s_.os [0]=[(0,.box (pvL (Zd v0)))]∧ZgA v0 y101 v103=some r) ?_ ?_
 {
 rintro s_ ⟨v103,he,ho,hF⟩
 refine WA.keep _ _ he ho ?_
 clear he ho
 refine WA.cond (b:=v103) rfl (fun hb104=>?_) (fun hb104=>?_)
 {
 have hF:=Zi hF hb104
 refine WA.bad [] (t:=70) (env1:=[]) (os1:=[(0,.box (pvL (Zd v0)))]) (O:=[]) kr (sound _ _) trivial ?_
 obtain rfl:=Option.some.inj hF
 exact ⟨rfl,[(Zd v0)],kr,rfl⟩ }
 {
 have hF:=Zh hF hb104
 refine WA.skip ?_
 refine WA.seq ?_
 refine WA.reg [3] [0] [] (env':=[(3,one (.int .i64 y101.1))]) (os':=[(0,.box (pvL (Zd ({ v0 with f_at:=(w64 (v0.f_at+y101.2)) }:Zg))))]) (O:=[]) kr (sound _ _) trivial ?_
 refine WA.seq ?_
 refine WA.reg [2] [0] [] (env':=[(2,one (.int .i64 y101.1))]) (os':=[(0,.box (pvL (Zd ({ v0 with f_at:=(w64 (v0.f_at+y101.2)) }:Zg))))]) (O:=[]) kr (sound _ _) trivial ?_
 refine WA.ret ?_
 obtain rfl:=Option.some.inj hF
 exact Zr (one (.int .i64 y101.1)) [.box (pvL (Zd ({ v0 with f_at:=(w64 (v0.f_at+y101.2)) }:Zg)))] kr kr kr kr (by decide) rfl rfl } }
 {
 rcases Bool.eq_false_or_eq_true (y101.2 == 0) with hb102 | hb102
 {
 have hF:=Zi hF hb102
 refine WA.reg [0,3,4,22] [0] [(2,.bool true)] (env':=[(0,.val false [.ptr 0 1 0 0]),(3,one (.int .i64 y101.1)),(4,one (.int .i64 y101.2)),(22,one (.bool true))]) (os':=[(0,.box (pvL (Zd v0)))]) (O:=[(y101.2 == 0)=true]) kr (sound _ _) ⟨hb102,trivial⟩ ?_
 exact ⟨true,kr,kr,hF⟩ }
 {
 have hF:=Zh hF hb102
 refine WA.reg [0,3,4,22] [0] [(2,.bool false)] (env':=[(0,.val false [.ptr 0 1 0 0]),(3,one (.int .i64 y101.1)),(4,one (.int .i64 y101.2)),(22,one (.bool (decide (y101.1<0))))]) (os':=[(0,.box (pvL (Zd v0)))]) (O:=[(y101.2 == 0)=false]) kr (sound _ _) ⟨hb102,trivial⟩ ?_
 exact ⟨(decide (y101.1<0)),kr,kr,hF⟩ } }
def ZgC (y128:Int) (v130:Zg):Option (Option (Int×Zg)):=
  (some (some (y128,v130)))
def ZgB (k:Nat) (v0:Zg) (v116:Zg) (v125:Bool):Option (Option (Int×Zg)):=
  cond v125 (some none) ((if (0:Int)≤v0.f_at∧(v0.f_at:Int)≤v116.f_at∧v116.f_at≤(v116.f_s.length:Int) then (F172 k ((v116.f_s.take (Int.toNat v116.f_at)).drop (Int.toNat v0.f_at))).bind fun y128=>(cond v116.f_over ((ZgC y128 ({ v116 with f_over:=true }:Zg))) ((ZgC y128 ({ v116 with f_over:=(decide (y128 > 20)) }:Zg)))) else none))
def Zc4 (k:Nat) (self2:Zg→Option (Option (Int×Zg))) (v0:Zg) (v116:Zg) (v122:Bool):Option (Option (Int×Zg)):=
  cond v122 ((self2 ({ v116 with f_at:=(w64 (v116.f_at+1)) }:Zg))) ((cond (v116.f_at == v0.f_at) ((ZgB k v0 v116 true)) ((ZgB k v0 v116 (decide (v116.f_at > (w64 (v0.f_at+3))))))))
def ZiX (k:Nat) (self2:Zg→Option (Option (Int×Zg))) (v0:Zg) (v116:Zg):Option (Option (Int×Zg)):=
  cond (decide (v116.f_at<(v116.f_s.length:Int))) (cond (decide (v116.f_at<(w64 (v0.f_at+4)))) ((idxL v116.f_s v116.f_at).bind fun y119=>cond (decide ((y119.toNat:Int)≥48)) ((idxL v116.f_s v116.f_at).bind fun y121=>(Zc4 k self2 v0 v116 (decide ((y121.toNat:Int)≤57)))) ((Zc4 k self2 v0 v116 false))) ((Zc4 k self2 v0 v116 false))) ((Zc4 k self2 v0 v116 false))
def Ze0 (k:Nat) (v0:Zg):Nat→Zg→Option (Option (Int×Zg))
  | 0,_=>none
  | m_+1,v116=>ZiX k (Ze0 k v0 m_) v0 v116
def F142 (k:Nat) (v0:Zg):Option (Option (Int×Zg)):=
  ((Ze0 k v0 k v0))
theorem Ze1 (k:Nat) (v0:Zg) (r:Option (Int×Zg)) (hF:F142 k v0=some r):SimP Tryz.prog GL0 badV 142 [.val false [.ptr 0 1 0 0]] [.box (pvL (Zd v0))] (r.map fun r=>(one (.int .i64 r.1),[.box (pvL (Zd r.2))])):=by
 refine Za1 [0] Tryz.func142 rfl kr kr ?_
 show WA _ _ 103 _ _ _
 refine WA.seq ?_
 refine WA.reg [0] [0] [] (env':=[(0,.val false [.ptr 0 1 0 0])]) (os':=[(0,.box (pvL (Zd v0)))]) (O:=[]) kr (sound _ _) trivial ?_
 refine WA.seq ?_
 refine WA.reg [0,3] [0] [] (env':=[(0,.val false [.ptr 0 1 0 0]),(3,one (.int .i64 v0.f_at))]) (os':=[(0,.box (pvL (Zd v0)))]) (O:=[]) kr (sound _ _) trivial ?_
 refine WA.seq ?_
 refine WA.block ?_
 refine WA.loop (fun m s_=>∃(v116:Zg),Zj s_.env [0,3]=[(0,.val false [.ptr 0 1 0 0]),(3,one (.int .i64 v0.f_at))]∧Zj s_.os [0]=[(0,.box (pvL (Zd v116)))]∧Ze0 k v0 m v116=some r) k ⟨v0,kr,kr,hF⟩ ?_
 clear hF
 rintro m2 s_ ⟨v116,he,ho,hF⟩
 refine WA.keep _ _ he ho ?_
 clear he ho
 cases m2 with
 | zero=>cases hF
 | succ m2=>
  obtain ⟨self2,hself2⟩:∃g,g=Ze0 k v0 m2:=⟨_,rfl⟩
  have hF:ZiX k self2 v0 v116=some r:=by first | (rw [hself2];exact hF) | exact hF
  refine WA.seq ?_
  refine WA.join (fun s_=>∃(v122:Bool),Zj s_.env [0,3,52]=[(0,.val false [.ptr 0 1 0 0]),(3,one (.int .i64 v0.f_at)),(52,one (.bool v122))]∧Zj s_.os [0]=[(0,.box (pvL (Zd v116)))]∧Zc4 k self2 v0 v116 v122=some r) ?_ ?_
  {
 rintro s_ ⟨v122,he,ho,hF⟩
 refine WA.keep _ _ he ho ?_
 clear he ho
 refine WA.cond (b:=v122) rfl (fun hb123=>?_) (fun hb123=>?_)
 {
 have hF:=Zi hF hb123
 refine WA.skip ?_
 refine WA.block ?_
 refine WA.reg [0,3] [0] [] (env':=[(0,.val false [.ptr 0 1 0 0]),(3,one (.int .i64 v0.f_at))]) (os':=[(0,.box (pvL (Zd ({ v116 with f_at:=(w64 (v116.f_at+1)) }:Zg))))]) (O:=[]) kr (sound _ _) trivial ?_
 exact ⟨m2,Nat.lt_succ_self _,({ v116 with f_at:=(w64 (v116.f_at+1)) }:Zg),kr,kr,by rw [hself2] at hF;exact hF⟩ }
 {
 have hF:=Zh hF hb123
 refine WA.exit ?_
 refine WA.seq ?_
 refine WA.join (fun s_=>∃(v125:Bool),Zj s_.env [0,3,74]=[(0,.val false [.ptr 0 1 0 0]),(3,one (.int .i64 v0.f_at)),(74,one (.bool v125))]∧Zj s_.os [0]=[(0,.box (pvL (Zd v116)))]∧ZgB k v0 v116 v125=some r) ?_ ?_
 {
 rintro s_ ⟨v125,he,ho,hF⟩
 refine WA.keep _ _ he ho ?_
 clear he ho
 refine WA.cond (b:=v125) rfl (fun hb126=>?_) (fun hb126=>?_)
 {
 have hF:=Zi hF hb126
 refine WA.bad [] (t:=70) (env1:=[]) (os1:=[(0,.box (pvL (Zd v116)))]) (O:=[]) kr (sound _ _) trivial ?_
 obtain rfl:=Option.some.inj hF
 exact ⟨rfl,[(Zd v116)],kr,rfl⟩ }
 {
 have hF:=Zh hF hb126
 refine WA.skip ?_
 refine WA.seq ?_
 obtain ⟨hc127,hF⟩:=Zn hF
 obtain ⟨y128,hy128,hF⟩:=bind_some hF
 refine WA.regD kr [0,4] [0] [(10,.callR [] (.tup [(false,[.pv (.int .i64 y128)]),(false,[.pv .nilif])]))] (env':=[(0,.val false [.ptr 0 1 0 0]),(4,one (.int .i64 y128))]) (os':=[(0,.box (pvL (Zd v116)))]) (O:=[(0:Int)≤v0.f_at,(v0.f_at:Int)≤v116.f_at,v116.f_at≤(v116.f_s.length:Int),Sim Tryz.prog GL0 172 [one (.str ((v116.f_s.take (Int.toNat v116.f_at)).drop (Int.toNat v0.f_at)))] [] (.tup [(false,[.pv (.int .i64 y128)]),(false,[.pv .nilif])]) [],([]:List Nat).Nodup]) kr kr (sound _ _) ⟨hc127.1,hc127.2.1,hc127.2.2,(ZlV k _ _ hy128),(by decide),trivial⟩ ?_
 refine WA.join (fun s_=>∃(v130:Zg),Zj s_.env [4]=[(4,one (.int .i64 y128))]∧Zj s_.os [0]=[(0,.box (pvL (Zd v130)))]∧ZgC y128 v130=some r) ?_ ?_
 {
 rintro s_ ⟨v130,he,ho,hF⟩
 refine WA.keep _ _ he ho ?_
 clear he ho
 refine WA.seq ?_
 refine WA.reg [2] [0] [] (env':=[(2,one (.int .i64 y128))]) (os':=[(0,.box (pvL (Zd v130)))]) (O:=[]) kr (sound _ _) trivial ?_
 refine WA.ret ?_
 obtain rfl:=Option.some.inj hF
 exact Zr (one (.int .i64 y128)) [.box (pvL (Zd v130))] kr kr kr kr (by decide) rfl rfl }
 {
 rcases Bool.eq_false_or_eq_true v116.f_over with hb129 | hb129
 {
 have hF:=Zi hF hb129
 refine WA.reg [4] [0] [(5,.bool true)] (env':=[(4,one (.int .i64 y128))]) (os':=[(0,.box (pvL (Zd ({ v116 with f_over:=true }:Zg))))]) (O:=[v116.f_over=true]) kr (sound _ _) ⟨hb129,trivial⟩ ?_
 exact ⟨({ v116 with f_over:=true }:Zg),kr,kr,hF⟩ }
 {
 have hF:=Zh hF hb129
 refine WA.reg [4] [0] [(5,.bool false)] (env':=[(4,one (.int .i64 y128))]) (os':=[(0,.box (pvL (Zd ({ v116 with f_over:=(decide (y128 > 20)) }:Zg))))]) (O:=[v116.f_over=false]) kr (sound _ _) ⟨hb129,trivial⟩ ?_
 exact ⟨({ v116 with f_over:=(decide (y128 > 20)) }:Zg),kr,kr,hF⟩ } } } }
 {
 rcases Bool.eq_false_or_eq_true (v116.f_at == v0.f_at) with hb124 | hb124
 {
 have hF:=Zi hF hb124
 refine WA.reg [0,3,74] [0] [(6,.bool true)] (env':=[(0,.val false [.ptr 0 1 0 0]),(3,one (.int .i64 v0.f_at)),(74,one (.bool true))]) (os':=[(0,.box (pvL (Zd v116)))]) (O:=[(v116.f_at == v0.f_at)=true]) kr (sound _ _) ⟨hb124,trivial⟩ ?_
 exact ⟨true,kr,kr,hF⟩ }
 {
 have hF:=Zh hF hb124
 refine WA.reg [0,3,74] [0] [(6,.bool false)] (env':=[(0,.val false [.ptr 0 1 0 0]),(3,one (.int .i64 v0.f_at)),(74,one (.bool (decide (v116.f_at > (w64 (v0.f_at+3))))))]) (os':=[(0,.box (pvL (Zd v116)))]) (O:=[(v116.f_at == v0.f_at)=false]) kr (sound _ _) ⟨hb124,trivial⟩ ?_
 exact ⟨(decide (v116.f_at > (w64 (v0.f_at+3)))),kr,kr,hF⟩ } } } }
  {
 rcases Bool.eq_false_or_eq_true (decide (v116.f_at<(v116.f_s.length:Int))) with hb117 | hb117
 {
 have hF:=Zi hF hb117
 rcases Bool.eq_false_or_eq_true (decide (v116.f_at<(w64 (v0.f_at+4)))) with hb118 | hb118
 {
 have hF:=Zi hF hb118
 obtain ⟨y119,hy119,hF⟩:=bind_some hF
 rcases Bool.eq_false_or_eq_true (decide ((y119.toNat:Int)≥48)) with hb120 | hb120
 {
 have hF:=Zi hF hb120
 obtain ⟨y121,hy121,hF⟩:=bind_some hF
 refine WA.regD kr [0,3,52] [0] [(10,.bool true),(19,.bool true),(28,.num (y119.toNat:Int)),(31,.bool true),(40,.num (y121.toNat:Int))] (env':=[(0,.val false [.ptr 0 1 0 0]),(3,one (.int .i64 v0.f_at)),(52,one (.bool (decide ((y121.toNat:Int)≤57))))]) (os':=[(0,.box (pvL (Zd v116)))]) (O:=[(decide (v116.f_at<(v116.f_s.length:Int)))=true,(decide (v116.f_at<(w64 (v0.f_at+4))))=true,(idxL v116.f_s v116.f_at).map (fun b=>(b.toNat:Int))=some (y119.toNat:Int),(decide ((y119.toNat:Int)≥48))=true,(idxL v116.f_s v116.f_at).map (fun b=>(b.toNat:Int))=some (y121.toNat:Int)]) kr kr (sound _ _) ⟨hb117,hb118,(by rw [hy119];rfl),hb120,(by rw [hy121];rfl),trivial⟩ ?_
 exact ⟨(decide ((y121.toNat:Int)≤57)),kr,kr,hF⟩ }
 {
 have hF:=Zh hF hb120
 refine WA.regD kr [0,3,52] [0] [(10,.bool true),(19,.bool true),(28,.num (y119.toNat:Int)),(31,.bool false)] (env':=[(0,.val false [.ptr 0 1 0 0]),(3,one (.int .i64 v0.f_at)),(52,one (.bool false))]) (os':=[(0,.box (pvL (Zd v116)))]) (O:=[(decide (v116.f_at<(v116.f_s.length:Int)))=true,(decide (v116.f_at<(w64 (v0.f_at+4))))=true,(idxL v116.f_s v116.f_at).map (fun b=>(b.toNat:Int))=some (y119.toNat:Int),(decide ((y119.toNat:Int)≥48))=false]) kr kr (sound _ _) ⟨hb117,hb118,(by rw [hy119];rfl),hb120,trivial⟩ ?_
 exact ⟨false,kr,kr,hF⟩ } }
 {
 have hF:=Zh hF hb118
 refine WA.regD kr [0,3,52] [0] [(10,.bool true),(19,.bool false)] (env':=[(0,.val false [.ptr 0 1 0 0]),(3,one (.int .i64 v0.f_at)),(52,one (.bool false))]) (os':=[(0,.box (pvL (Zd v116)))]) (O:=[(decide (v116.f_at<(v116.f_s.length:Int)))=true,(decide (v116.f_at<(w64 (v0.f_at+4))))=false]) kr kr (sound _ _) ⟨hb117,hb118,trivial⟩ ?_
 exact ⟨false,kr,kr,hF⟩ } }
 {
 have hF:=Zh hF hb117
 refine WA.regD kr [0,3,52] [0] [(10,.bool false)] (env':=[(0,.val false [.ptr 0 1 0 0]),(3,one (.int .i64 v0.f_at)),(52,one (.bool false))]) (os':=[(0,.box (pvL (Zd v116)))]) (O:=[(decide (v116.f_at<(v116.f_s.length:Int)))=false]) kr kr (sound _ _) ⟨hb117,trivial⟩ ?_
 exact ⟨false,kr,kr,hF⟩ } }
def Zc3 (k:Nat) (y101:Int×Zg) (v108:Zg) (v109:Int):Option (Option (Int×Int×Zg)):=
  (F71 k v108 ([125]:List UInt8)).bind fun y110=>(cond (!y110.1) (some none) (((some (some (y101.1,v109,y110.2))))))
def F118 (k:Nat) (v0:Zg):Option (Option (Int×Int×Zg)):=
  (orP (F142 k v0) fun y101=>((F71 k y101.2 ([44]:List UInt8)).bind fun y102=>(cond y102.1 ((F97 k y102.2 ([125]:List UInt8)).bind fun y104=>(cond (!y104) (orP (F142 k y102.2) fun y106=>(cond y106.2.f_over ((Zc3 k y101 ({ y106.2 with f_over:=true }:Zg) y106.1)) ((Zc3 k y101 ({ y106.2 with f_over:=(decide (y106.1<y101.1)) }:Zg) y106.1)))) ((Zc3 k y101 y102.2 (-1))))) ((Zc3 k y101 y102.2 y101.1)))))
theorem ZiS (k:Nat) (v0:Zg) (r:Option (Int×Int×Zg)) (hF:F118 k v0=some r):SimP Tryz.prog GL0 badV 118 [.val false [.ptr 0 1 0 0]] [.box (pvL (Zd v0))] (r.map fun r=>(.tup [(false,[.pv (.int .i64 r.1)]),(false,[.pv (.int .i64 r.2.1)])],[.box (pvL (Zd r.2.2))])):=by
 refine Za1 [0] Tryz.func118 rfl kr kr ?_
 show WA _ _ 35 _ _ _
 refine WA.seq ?_
 refine WA.reg [0] [0] [] (env':=[(0,.val false [.ptr 0 1 0 0])]) (os':=[(0,.box (pvL (Zd v0)))]) (O:=[]) kr (sound _ _) trivial ?_
 refine WA.seq ?_
 rcases Z3 hF with ⟨hz,hr⟩ | ⟨y101,hy101,hF⟩
 {
 subst hr
 refine WA.regP 1 [0] [] [] badV (f:=142) (args:=[.val false [.ptr 0 1 0 0]]) (os:=[.box (pvL (Zd v0))]) (env1:=[]) (os1:=[(0,.box (pvL (Zd v0)))]) (O:=[]) kr (sound _ _) trivial (by decide) (Ze1 k _ _ hz) (fun psl hpsl=>?_)
 obtain ⟨ps,rfl⟩:=ZQ hpsl
 exact ⟨rfl,[ps],kr,rfl⟩ }
 {
 refine WA.reg [0,4] [0] [(1,.call [0] (one (.int .i64 y101.1)) [.box (pvL (Zd y101.2))] [])] (env':=[(0,.val false [.ptr 0 1 0 0]),(4,one (.int .i64 y101.1))]) (os':=[(0,.box (pvL (Zd y101.2)))]) (O:=[Sim Tryz.prog GL0 142 [.val false [.ptr 0 1 0 0]] [.box (pvL (Zd v0))] (one (.int .i64 y101.1)) [.box (pvL (Zd y101.2))],([0]:List Nat).Nodup]) kr (sound _ _) ⟨(Ze1 k _ _ hy101),(by decide),trivial⟩ ?_
 refine WA.seq ?_
 refine WA.reg [0,4,5] [0] [] (env':=[(0,.val false [.ptr 0 1 0 0]),(4,one (.int .i64 y101.1)),(5,one (.int .i64 y101.1))]) (os':=[(0,.box (pvL (Zd y101.2)))]) (O:=[]) kr (sound _ _) trivial ?_
 refine WA.join (fun s_=>∃(v108:Zg) (v109:Int),Zj s_.env [0,4,5]=[(0,.val false [.ptr 0 1 0 0]),(4,one (.int .i64 y101.1)),(5,one (.int .i64 v109))]∧Zj s_.os [0]=[(0,.box (pvL (Zd v108)))]∧Zc3 k y101 v108 v109=some r) ?_ ?_
 {
 rintro s_ ⟨v108,v109,he,ho,hF⟩
 refine WA.keep _ _ he ho ?_
 clear he ho
 refine WA.seq ?_
 refine WA.seq ?_
 obtain ⟨y110,hy110,hF⟩:=bind_some hF
 refine WA.reg [4,5,30] [0] [(1,.call [0] (one (.bool y110.1)) [.box (pvL (Zd y110.2))] [])] (env':=[(4,one (.int .i64 y101.1)),(5,one (.int .i64 v109)),(30,one (.bool (!y110.1)))]) (os':=[(0,.box (pvL (Zd y110.2)))]) (O:=[Sim Tryz.prog GL0 71 [.val false [.ptr 0 1 0 0],one (.str ([125]:List UInt8))] [.box (pvL (Zd v108))] (one (.bool y110.1)) [.box (pvL (Zd y110.2))],([0]:List Nat).Nodup]) kr (sound _ _) ⟨(Zai k _ _ _ hy110),(by decide),trivial⟩ ?_
 refine WA.cond (b:=(!y110.1)) rfl (fun hb111=>?_) (fun hb111=>?_)
 {
 have hF:=Zi hF hb111
 refine WA.bad [] (t:=70) (env1:=[]) (os1:=[(0,.box (pvL (Zd y110.2)))]) (O:=[]) kr (sound _ _) trivial ?_
 obtain rfl:=Option.some.inj hF
 exact ⟨rfl,[(Zd y110.2)],kr,rfl⟩ }
 {
 have hF:=Zh hF hb111
 refine WA.skip ?_
 refine WA.seq ?_
 refine WA.reg [2,3] [0] [] (env':=[(2,one (.int .i64 y101.1)),(3,one (.int .i64 v109))]) (os':=[(0,.box (pvL (Zd y110.2)))]) (O:=[]) kr (sound _ _) trivial ?_
 refine WA.ret ?_
 obtain rfl:=Option.some.inj hF
 exact Zr (.tup [(false,[.pv (.int .i64 y101.1)]),(false,[.pv (.int .i64 v109)])]) [.box (pvL (Zd y110.2))] kr kr kr kr (by decide) rfl rfl } }
 {
 refine WA.seq ?_
 obtain ⟨y102,hy102,hF⟩:=bind_some hF
 refine WA.reg [0,4,5,10] [0] [(1,.call [0] (one (.bool y102.1)) [.box (pvL (Zd y102.2))] [])] (env':=[(0,.val false [.ptr 0 1 0 0]),(4,one (.int .i64 y101.1)),(5,one (.int .i64 y101.1)),(10,one (.bool y102.1))]) (os':=[(0,.box (pvL (Zd y102.2)))]) (O:=[Sim Tryz.prog GL0 71 [.val false [.ptr 0 1 0 0],one (.str ([44]:List UInt8))] [.box (pvL (Zd y101.2))] (one (.bool y102.1)) [.box (pvL (Zd y102.2))],([0]:List Nat).Nodup]) kr (sound _ _) ⟨(Zai k _ _ _ hy102),(by decide),trivial⟩ ?_
 refine WA.cond (b:=y102.1) rfl (fun hb103=>?_) (fun hb103=>?_)
 {
 have hF:=Zi hF hb103
 refine WA.seq ?_
 refine WA.reg [0,4,5] [0] [] (env':=[(0,.val false [.ptr 0 1 0 0]),(4,one (.int .i64 y101.1)),(5,one (.int .i64 (-1)))]) (os':=[(0,.box (pvL (Zd y102.2)))]) (O:=[]) kr (sound _ _) trivial ?_
 refine WA.seq ?_
 obtain ⟨y104,hy104,hF⟩:=bind_some hF
 refine WA.reg [0,4,5,13] [0] [(1,.callR [0] (one (.bool y104)))] (env':=[(0,.val false [.ptr 0 1 0 0]),(4,one (.int .i64 y101.1)),(5,one (.int .i64 (-1))),(13,one (.bool (!y104)))]) (os':=[(0,.box (pvL (Zd y102.2)))]) (O:=[Sim Tryz.prog GL0 97 [.val false [.ptr 0 1 0 0],one (.str ([125]:List UInt8))] [.box (pvL (Zd y102.2))] (one (.bool y104)) [.box (pvL (Zd y102.2))],([0]:List Nat).Nodup]) kr (sound _ _) ⟨(Zcv k _ _ _ hy104),(by decide),trivial⟩ ?_
 refine WA.cond (b:=(!y104)) rfl (fun hb105=>?_) (fun hb105=>?_)
 {
 have hF:=Zi hF hb105
 refine WA.seq ?_
 rcases Z3 hF with ⟨hz,hr⟩ | ⟨y106,hy106,hF⟩
 {
 subst hr
 refine WA.regP 1 [0] [] [] badV (f:=142) (args:=[.val false [.ptr 0 1 0 0]]) (os:=[.box (pvL (Zd y102.2))]) (env1:=[]) (os1:=[(0,.box (pvL (Zd y102.2)))]) (O:=[]) kr (sound _ _) trivial (by decide) (Ze1 k _ _ hz) (fun psl hpsl=>?_)
 obtain ⟨ps,rfl⟩:=ZQ hpsl
 exact ⟨rfl,[ps],kr,rfl⟩ }
 {
 refine WA.reg [0,4,5] [0] [(1,.call [0] (one (.int .i64 y106.1)) [.box (pvL (Zd y106.2))] [])] (env':=[(0,.val false [.ptr 0 1 0 0]),(4,one (.int .i64 y101.1)),(5,one (.int .i64 y106.1))]) (os':=[(0,.box (pvL (Zd y106.2)))]) (O:=[Sim Tryz.prog GL0 142 [.val false [.ptr 0 1 0 0]] [.box (pvL (Zd y102.2))] (one (.int .i64 y106.1)) [.box (pvL (Zd y106.2))],([0]:List Nat).Nodup]) kr (sound _ _) ⟨(Ze1 k _ _ hy106),(by decide),trivial⟩ ?_
 rcases Bool.eq_false_or_eq_true y106.2.f_over with hb107 | hb107
 {
 have hF:=Zi hF hb107
 refine WA.reg [0,4,5] [0] [(5,.bool true)] (env':=[(0,.val false [.ptr 0 1 0 0]),(4,one (.int .i64 y101.1)),(5,one (.int .i64 y106.1))]) (os':=[(0,.box (pvL (Zd ({ y106.2 with f_over:=true }:Zg))))]) (O:=[y106.2.f_over=true]) kr (sound _ _) ⟨hb107,trivial⟩ ?_
 exact ⟨({ y106.2 with f_over:=true }:Zg),y106.1,kr,kr,hF⟩ }
 {
 have hF:=Zh hF hb107
 refine WA.reg [0,4,5] [0] [(5,.bool false)] (env':=[(0,.val false [.ptr 0 1 0 0]),(4,one (.int .i64 y101.1)),(5,one (.int .i64 y106.1))]) (os':=[(0,.box (pvL (Zd ({ y106.2 with f_over:=(decide (y106.1<y101.1)) }:Zg))))]) (O:=[y106.2.f_over=false]) kr (sound _ _) ⟨hb107,trivial⟩ ?_
 exact ⟨({ y106.2 with f_over:=(decide (y106.1<y101.1)) }:Zg),y106.1,kr,kr,hF⟩ } } }
 {
 have hF:=Zh hF hb105
 refine WA.skip ?_
 exact ⟨y102.2,(-1),kr,kr,hF⟩ } }
 {
 have hF:=Zh hF hb103
 refine WA.skip ?_
 exact ⟨y102.2,y101.1,kr,kr,hF⟩ } } }
def ZeY (y101:Int×Zg) (v109:Int):Option (Option ((List Zb)×Zg)):=
  (some (some (([(⟨v109,v109⟩:Zb)]:List Zb),y101.2)))
def Zgz (y101:Int×Zg) (v107:Bool):Option (Option ((List Zb)×Zg)):=
  cond v107 (some none) ((ZeY y101 y101.1))
def F139 (k:Nat) (v0:Zg) (v1:List UInt8):Option (Option ((List Zb)×Zg)):=
  (orP (F140 k v0) fun y101=>((cond (y101.1 == 100) ((some (some (([(⟨48,57⟩:Zb)]:List Zb),y101.2)))) ((cond (y101.1 == 110) ((ZeY y101 10)) ((cond (y101.1 == 116) ((ZeY y101 9)) (cond (decide (y101.1 > 126)) ((Zgz y101 true)) ((F170 k v1 (IntKind.wrap .u8 y101.1)).bind fun y106=>(Zgz y101 (decide (y106<0))))))))))))
theorem ZeZ (k:Nat) (v0:Zg) (v1:List UInt8) (r:Option ((List Zb)×Zg)) (hF:F139 k v0 v1=some r):SimP Tryz.prog GL0 badV 139 [.val false [.ptr 0 1 0 0],one (.str v1)] [.box (pvL (Zd v0))] (r.map fun r=>(.val false [.arr 1 r.1.length],[.box (pvL (Zd r.2)),.arr 2 (r.1.map Za)])):=by
 refine Za1 [0,900] Tryz.func139 rfl kr kr ?_
 show WA _ _ 35 _ _ _
 refine WA.seq ?_
 refine WA.reg [0,1] [0] [(0,.obj 900)] (env':=[(0,.val false [.ptr 0 1 0 0]),(1,one (.str v1))]) (os':=[(0,.box (pvL (Zd v0)))]) (O:=[]) kr (sound _ _) trivial ?_
 refine WA.seq ?_
 rcases Z3 hF with ⟨hz,hr⟩ | ⟨y101,hy101,hF⟩
 {
 subst hr
 refine WA.regP 1 [0] [] [] badV (f:=140) (args:=[.val false [.ptr 0 1 0 0]]) (os:=[.box (pvL (Zd v0))]) (env1:=[]) (os1:=[(0,.box (pvL (Zd v0)))]) (O:=[]) kr (sound _ _) trivial (by decide) (Zb9 k _ _ hz) (fun psl hpsl=>?_)
 obtain ⟨ps,rfl⟩:=ZQ hpsl
 exact ⟨rfl,[ps],kr,rfl⟩ }
 {
 refine WA.reg [1,5] [0] [(1,.call [0] (one (.int .i64 y101.1)) [.box (pvL (Zd y101.2))] [])] (env':=[(1,one (.str v1)),(5,one (.int .i64 y101.1))]) (os':=[(0,.box (pvL (Zd y101.2)))]) (O:=[Sim Tryz.prog GL0 140 [.val false [.ptr 0 1 0 0]] [.box (pvL (Zd v0))] (one (.int .i64 y101.1)) [.box (pvL (Zd y101.2))],([0]:List Nat).Nodup]) kr (sound _ _) ⟨(Zb9 k _ _ hy101),(by decide),trivial⟩ ?_
 refine WA.join (fun s_=>∃(v109:Int),Zj s_.env [5]=[(5,one (.int .i64 v109))]∧Zj s_.os [0]=[(0,.box (pvL (Zd y101.2)))]∧ZeY y101 v109=some r) ?_ ?_
 {
 rintro s_ ⟨v109,he,ho,hF⟩
 refine WA.keep _ _ he ho ?_
 clear he ho
 refine WA.seq ?_
 refine WA.reg [4] [0,900] [(3,.obj 900)] (env':=[(4,.val false [.arr 900 1])]) (os':=[(0,.box (pvL (Zd y101.2))),(900,.arr 2 (([(⟨v109,v109⟩:Zb)]:List Zb).map Za))]) (O:=[]) kr (sound _ _) trivial ?_
 refine WA.ret ?_
 obtain rfl:=Option.some.inj hF
 exact Zr (.val false [.arr 900 1]) [.box (pvL (Zd y101.2)),.arr 2 (([(⟨v109,v109⟩:Zb)]:List Zb).map Za)] kr (by have h0_:1=(([(⟨v109,v109⟩:Zb)]:List Zb):List _).length:=zt;rw [h0_] <;> rfl) kr kr (by decide) rfl rfl }
 {
 refine WA.block ?_
 refine WA.seq ?_
 refine WA.reg [1,5,8] [0] [] (env':=[(1,one (.str v1)),(5,one (.int .i64 y101.1)),(8,one (.bool (y101.1 == 100)))]) (os':=[(0,.box (pvL (Zd y101.2)))]) (O:=[]) kr (sound _ _) trivial ?_
 refine WA.cond (b:=(y101.1 == 100)) rfl (fun hb102=>?_) (fun hb102=>?_)
 {
 have hF:=Zi hF hb102
 refine WA.seq ?_
 refine WA.reg [4] [0,900] [(1,.obj 900)] (env':=[(4,.val false [.arr 900 1])]) (os':=[(0,.box (pvL (Zd y101.2))),(900,.arr 2 (([(⟨48,57⟩:Zb)]:List Zb).map Za))]) (O:=[]) kr (sound _ _) trivial ?_
 refine WA.ret ?_
 obtain rfl:=Option.some.inj hF
 exact Zr (.val false [.arr 900 1]) [.box (pvL (Zd y101.2)),.arr 2 (([(⟨48,57⟩:Zb)]:List Zb).map Za)] kr (by have h0_:1=(([(⟨48,57⟩:Zb)]:List Zb):List _).length:=zt;rw [h0_] <;> rfl) kr kr (by decide) rfl rfl }
 {
 have hF:=Zh hF hb102
 refine WA.seq ?_
 refine WA.reg [1,5,13] [0] [] (env':=[(1,one (.str v1)),(5,one (.int .i64 y101.1)),(13,one (.bool (y101.1 == 110)))]) (os':=[(0,.box (pvL (Zd y101.2)))]) (O:=[]) kr (sound _ _) trivial ?_
 refine WA.cond (b:=(y101.1 == 110)) rfl (fun hb103=>?_) (fun hb103=>?_)
 {
 have hF:=Zi hF hb103
 refine WA.reg [5] [0] [] (env':=[(5,one (.int .i64 10))]) (os':=[(0,.box (pvL (Zd y101.2)))]) (O:=[]) kr (sound _ _) trivial ?_
 exact ⟨10,kr,kr,hF⟩ }
 {
 have hF:=Zh hF hb103
 refine WA.seq ?_
 refine WA.reg [1,5,16] [0] [] (env':=[(1,one (.str v1)),(5,one (.int .i64 y101.1)),(16,one (.bool (y101.1 == 116)))]) (os':=[(0,.box (pvL (Zd y101.2)))]) (O:=[]) kr (sound _ _) trivial ?_
 refine WA.cond (b:=(y101.1 == 116)) rfl (fun hb104=>?_) (fun hb104=>?_)
 {
 have hF:=Zi hF hb104
 refine WA.reg [5] [0] [] (env':=[(5,one (.int .i64 9))]) (os':=[(0,.box (pvL (Zd y101.2)))]) (O:=[]) kr (sound _ _) trivial ?_
 exact ⟨9,kr,kr,hF⟩ }
 {
 have hF:=Zh hF hb104
 refine WA.join (fun s_=>∃(v107:Bool),Zj s_.env [5,19]=[(5,one (.int .i64 y101.1)),(19,one (.bool v107))]∧Zj s_.os [0]=[(0,.box (pvL (Zd y101.2)))]∧Zgz y101 v107=some r) ?_ ?_
 {
 rintro s_ ⟨v107,he,ho,hF⟩
 refine WA.keep _ _ he ho ?_
 clear he ho
 refine WA.cond (b:=v107) rfl (fun hb108=>?_) (fun hb108=>?_)
 {
 have hF:=Zi hF hb108
 refine WA.bad [] (t:=70) (env1:=[]) (os1:=[(0,.box (pvL (Zd y101.2)))]) (O:=[]) kr (sound _ _) trivial ?_
 obtain rfl:=Option.some.inj hF
 exact ⟨rfl,[(Zd y101.2)],kr,rfl⟩ }
 {
 have hF:=Zh hF hb108
 refine WA.skip ?_
 exact ⟨y101.1,kr,kr,hF⟩ } }
 {
 rcases Bool.eq_false_or_eq_true (decide (y101.1 > 126)) with hb105 | hb105
 {
 have hF:=Zi hF hb105
 refine WA.reg [5,19] [0] [(2,.bool true)] (env':=[(5,one (.int .i64 y101.1)),(19,one (.bool true))]) (os':=[(0,.box (pvL (Zd y101.2)))]) (O:=[(decide (y101.1 > 126))=true]) kr (sound _ _) ⟨hb105,trivial⟩ ?_
 exact ⟨true,kr,kr,hF⟩ }
 {
 have hF:=Zh hF hb105
 obtain ⟨y106,hy106,hF⟩:=bind_some hF
 refine WA.reg [5,19] [0] [(2,.bool false),(6,.callR [] (one (.int .i64 y106)))] (env':=[(5,one (.int .i64 y101.1)),(19,one (.bool (decide (y106<0))))]) (os':=[(0,.box (pvL (Zd y101.2)))]) (O:=[(decide (y101.1 > 126))=false,Sim Tryz.prog GL0 170 [one (.str v1),one (.int .u8 (IntKind.wrap .u8 y101.1))] [] (one (.int .i64 y106)) [],([]:List Nat).Nodup]) kr (sound _ _) ⟨hb105,(ZgD k _ _ _ hy106),(by decide),trivial⟩ ?_
 exact ⟨(decide (y106<0)),kr,kr,hF⟩ } } } } } } }
def F169 (k:Nat) (v0:Zg):Option (Option ((List Zb)×Zg)):=
  (F71 k v0 ([92]:List UInt8)).bind fun y101=>(cond y101.1 (orP (F139 k y101.2 ([92,46,91,93,40,41,123,125,42,43,63,124,94,36,45,47]:List UInt8)) fun y103=>(some (some (y103.1,y103.2)))) ((orP (F140 k y101.2) fun y104=>(F141 k ([92,91,93,94,45]:List UInt8) (IntKind.wrap .i32 y104.1)).bind fun y105=>(cond y105 (some none) (((some (some (([(⟨y104.1,y104.1⟩:Zb)]:List Zb),y104.2)))))))))
theorem Ze5 (k:Nat) (v0:Zg) (r:Option ((List Zb)×Zg)) (hF:F169 k v0=some r):SimP Tryz.prog GL0 badV 169 [.val false [.ptr 0 1 0 0]] [.box (pvL (Zd v0))] (r.map fun r=>(.val false [.arr 1 r.1.length],[.box (pvL (Zd r.2)),.arr 2 (r.1.map Za)])):=by
 refine Za1 [0,900] Tryz.func169 rfl kr kr ?_
 show WA _ _ 19 _ _ _
 refine WA.seq ?_
 refine WA.reg [0] [0] [(0,.obj 900)] (env':=[(0,.val false [.ptr 0 1 0 0])]) (os':=[(0,.box (pvL (Zd v0)))]) (O:=[]) kr (sound _ _) trivial ?_
 refine WA.seq ?_
 refine WA.seq ?_
 obtain ⟨y101,hy101,hF⟩:=bind_some hF
 refine WA.reg [0,5] [0] [(1,.call [0] (one (.bool y101.1)) [.box (pvL (Zd y101.2))] [])] (env':=[(0,.val false [.ptr 0 1 0 0]),(5,one (.bool y101.1))]) (os':=[(0,.box (pvL (Zd y101.2)))]) (O:=[Sim Tryz.prog GL0 71 [.val false [.ptr 0 1 0 0],one (.str ([92]:List UInt8))] [.box (pvL (Zd v0))] (one (.bool y101.1)) [.box (pvL (Zd y101.2))],([0]:List Nat).Nodup]) kr (sound _ _) ⟨(Zai k _ _ _ hy101),(by decide),trivial⟩ ?_
 refine WA.cond (b:=y101.1) rfl (fun hb102=>?_) (fun hb102=>?_)
 {
 have hF:=Zi hF hb102
 refine WA.seq ?_
 rcases Z3 hF with ⟨hz,hr⟩ | ⟨y103,hy103,hF⟩
 {
 subst hr
 refine WA.regP 1 [0] [] [] badV (f:=139) (args:=[.val false [.ptr 0 1 0 0],one (.str ([92,46,91,93,40,41,123,125,42,43,63,124,94,36,45,47]:List UInt8))]) (os:=[.box (pvL (Zd y101.2))]) (env1:=[]) (os1:=[(0,.box (pvL (Zd y101.2)))]) (O:=[]) kr (sound _ _) trivial (by decide) (ZeZ k _ _ _ hz) (fun psl hpsl=>?_)
 obtain ⟨ps,rfl⟩:=ZQ hpsl
 exact ⟨rfl,[ps],kr,rfl⟩ }
 {
 refine WA.reg [2] [0,900] [(1,.call [0] (.val false [.arr 1 y103.1.length]) [.box (pvL (Zd y103.2)),.arr 2 (y103.1.map Za)] [900])] (env':=[(2,.val false [.arr 900 y103.1.length])]) (os':=[(0,.box (pvL (Zd y103.2))),(900,.arr 2 (y103.1.map Za))]) (O:=[Sim Tryz.prog GL0 139 [.val false [.ptr 0 1 0 0],one (.str ([92,46,91,93,40,41,123,125,42,43,63,124,94,36,45,47]:List UInt8))] [.box (pvL (Zd y101.2))] (.val false [.arr 1 y103.1.length]) [.box (pvL (Zd y103.2)),.arr 2 (y103.1.map Za)],([0]:List Nat).Nodup]) kr (sound _ _) ⟨(ZeZ k _ _ _ hy103),(by decide),trivial⟩ ?_
 refine WA.ret ?_
 obtain rfl:=Option.some.inj hF
 exact Zr (.val false [.arr 900 y103.1.length]) [.box (pvL (Zd y103.2)),.arr 2 (y103.1.map Za)] kr kr kr kr (by decide) rfl rfl } }
 {
 have hF:=Zh hF hb102
 refine WA.skip ?_
 refine WA.seq ?_
 rcases Z3 hF with ⟨hz,hr⟩ | ⟨y104,hy104,hF⟩
 {
 subst hr
 refine WA.regP 1 [0] [] [] badV (f:=140) (args:=[.val false [.ptr 0 1 0 0]]) (os:=[.box (pvL (Zd y101.2))]) (env1:=[]) (os1:=[(0,.box (pvL (Zd y101.2)))]) (O:=[]) kr (sound _ _) trivial (by decide) (Zb9 k _ _ hz) (fun psl hpsl=>?_)
 obtain ⟨ps,rfl⟩:=ZQ hpsl
 exact ⟨rfl,[ps],kr,rfl⟩ }
 {
 refine WA.reg [3] [0] [(1,.call [0] (one (.int .i64 y104.1)) [.box (pvL (Zd y104.2))] [])] (env':=[(3,one (.int .i64 y104.1))]) (os':=[(0,.box (pvL (Zd y104.2)))]) (O:=[Sim Tryz.prog GL0 140 [.val false [.ptr 0 1 0 0]] [.box (pvL (Zd y101.2))] (one (.int .i64 y104.1)) [.box (pvL (Zd y104.2))],([0]:List Nat).Nodup]) kr (sound _ _) ⟨(Zb9 k _ _ hy104),(by decide),trivial⟩ ?_
 refine WA.seq ?_
 refine WA.seq ?_
 obtain ⟨y105,hy105,hF⟩:=bind_some hF
 refine WA.reg [3,12] [0] [(2,.callR [] (one (.bool y105)))] (env':=[(3,one (.int .i64 y104.1)),(12,one (.bool y105))]) (os':=[(0,.box (pvL (Zd y104.2)))]) (O:=[Sim Tryz.prog GL0 141 [one (.str ([92,91,93,94,45]:List UInt8)),one (.int .i32 (IntKind.wrap .i32 y104.1))] [] (one (.bool y105)) [],([]:List Nat).Nodup]) kr (sound _ _) ⟨(ZiW k _ _ _ hy105),(by decide),trivial⟩ ?_
 refine WA.cond (b:=y105) rfl (fun hb106=>?_) (fun hb106=>?_)
 {
 have hF:=Zi hF hb106
 refine WA.bad [] (t:=70) (env1:=[]) (os1:=[(0,.box (pvL (Zd y104.2)))]) (O:=[]) kr (sound _ _) trivial ?_
 obtain rfl:=Option.some.inj hF
 exact ⟨rfl,[(Zd y104.2)],kr,rfl⟩ }
 {
 have hF:=Zh hF hb106
 refine WA.skip ?_
 refine WA.seq ?_
 refine WA.reg [2] [0,900] [(3,.obj 900)] (env':=[(2,.val false [.arr 900 1])]) (os':=[(0,.box (pvL (Zd y104.2))),(900,.arr 2 (([(⟨y104.1,y104.1⟩:Zb)]:List Zb).map Za))]) (O:=[]) kr (sound _ _) trivial ?_
 refine WA.ret ?_
 obtain rfl:=Option.some.inj hF
 exact Zr (.val false [.arr 900 1]) [.box (pvL (Zd y104.2)),.arr 2 (([(⟨y104.1,y104.1⟩:Zb)]:List Zb).map Za)] kr (by have h0_:1=(([(⟨y104.1,y104.1⟩:Zb)]:List Zb):List _).length:=zt;rw [h0_] <;> rfl) kr kr (by decide) rfl rfl } } }
end Go.Proofs.YthilboheomikjaaGreatDoor
end
section
namespace Go.Proofs.YthilboheomikjaaGreatDoor
open Go.AL
set_option maxRecDepth 100000
def Zgx (self5:Zg→(List Zb)→Bool→Option (Option (Ze×Zg))) (v153:List Zb) (v177:Zg) (v178:List Zb):Option (Option (Ze×Zg)):=
  if v153.length+v178.length≤1073741824 then (self5 v177 (v153 ++ v178) false) else none
def ZeW (self5:Zg→(List Zb)→Bool→Option (Option (Ze×Zg))) (v153:List Zb) (y162:(List Zb)×Zg) (y166:(List Zb)×Zg) (v172:Bool):Option (Option (Ze×Zg)):=
  cond v172 (some none) ((idxL y166.1 0).bind fun y174=>if (0:Int)≤0∧0<(y162.1.length:Int) then (idxL y162.1 0).bind fun y176=>(Zgx self5 v153 y166.2 (y162.1.set (Int.toNat 0) ({ y176 with f_Hi:=y174.f_Lo }:Zb))) else none)
def Zgy (k:Nat) (v158:Zg) (v186:List Zb):Option (Option (Ze×Zg)):=
  (F58 k v186).bind fun y187=>(some (some (y187,v158)))
def Zgw (k:Nat) (self5:Zg→(List Zb)→Bool→Option (Option (Ze×Zg))) (y101:Bool×Zg) (v153:List Zb) (v158:Zg) (v159:Bool):Option (Option (Ze×Zg)):=
  cond v159 ((F97 k v158 ([92,100]:List UInt8)).bind fun y161=>(orP (F169 k v158) fun y162=>(F71 k y162.2 ([45]:List UInt8)).bind fun y163=>(cond y163.1 ((F97 k y163.2 ([92,100]:List UInt8)).bind fun y165=>(orP (F169 k y163.2) fun y166=>(cond y161 ((ZeW self5 v153 y162 y166 true)) (cond y165 ((ZeW self5 v153 y162 y166 true)) ((idxL y166.1 0).bind fun y169=>if (0:Int)≤0∧0<(y162.1.length:Int) then (idxL y162.1 0).bind fun y171=>(ZeW self5 v153 y162 y166 (decide (y169.f_Lo<y171.f_Lo))) else none))))) ((Zgx self5 v153 y163.2 y162.1))))) ((F77 k v153).bind fun y181=>(F59 k).bind fun y182=>(F76 k y181 y182).bind fun y183=>((cond y101.1 ((F109 k y183).bind fun y185=>(Zgy k v158 y185)) ((Zgy k v158 y183)))))
def ZiU (k:Nat) (self5:Zg→(List Zb)→Bool→Option (Option (Ze×Zg))) (y101:Bool×Zg) (v152:Zg) (v153:List Zb) (v155:Bool):Option (Option (Ze×Zg)):=
  cond v155 ((Zgw k self5 y101 v153 v152 true)) ((F71 k v152 ([93]:List UInt8)).bind fun y157=>(Zgw k self5 y101 v153 y157.2 (!y157.1)))
def ZeX (k:Nat) (y101:Bool×Zg):Nat→Zg→(List Zb)→Bool→Option (Option (Ze×Zg))
  | 0,_,_,_=>none
  | m_+1,v152,v153,v155=>ZiU k (ZeX k y101 m_) y101 v152 v153 v155
def F138 (k:Nat) (v0:Zg):Option (Option (Ze×Zg)):=
  (F71 k v0 ([94]:List UInt8)).bind fun y101=>(((ZeX k y101 k y101.2 ([]:List Zb) true)))
theorem ZiV (k:Nat) (v0:Zg) (r:Option (Ze×Zg)) (hF:F138 k v0=some r):SimP Tryz.prog GL0 badV 138 [.val false [.ptr 0 1 0 0]] [.box (pvL (Zd v0))] (r.map fun r=>(.val true (pvL (Zc r.1)),[.box (pvL (Zd r.2))])):=by
 refine Za1 [0] Tryz.func138 rfl kr kr ?_
 show WA _ _ 64 _ _ _
 refine WA.seq ?_
 refine WA.reg [0,2] [0,102] [(0,.obj 102)] (env':=[(0,.val false [.ptr 0 1 0 0]),(2,.val false [.ptr 102 1 0 0])]) (os':=[(0,.box (pvL (Zd v0))),(102,.box (pvL (Zc (⟨0,([]:List Zb),([]:List Ze),0,0⟩:Ze))))]) (O:=[]) kr (sound _ _) trivial ?_
 refine WA.seq ?_
 obtain ⟨y101,hy101,hF⟩:=bind_some hF
 refine WA.reg [0,2,3] [0,102] [(1,.call [0] (one (.bool y101.1)) [.box (pvL (Zd y101.2))] [])] (env':=[(0,.val false [.ptr 0 1 0 0]),(2,.val false [.ptr 102 1 0 0]),(3,one (.bool y101.1))]) (os':=[(0,.box (pvL (Zd y101.2))),(102,.box (pvL (Zc (⟨0,([]:List Zb),([]:List Ze),0,0⟩:Ze))))]) (O:=[Sim Tryz.prog GL0 71 [.val false [.ptr 0 1 0 0],one (.str ([94]:List UInt8))] [.box (pvL (Zd v0))] (one (.bool y101.1)) [.box (pvL (Zd y101.2))],([0]:List Nat).Nodup]) kr (sound _ _) ⟨(Zai k _ _ _ hy101),(by decide),trivial⟩ ?_
 refine WA.seq ?_
 refine WA.reg [0,2,3,4] [0,102,104] [(0,.obj 104)] (env':=[(0,.val false [.ptr 0 1 0 0]),(2,.val false [.ptr 102 1 0 0]),(3,one (.bool y101.1)),(4,.val false [.arr 104 0])]) (os':=[(0,.box (pvL (Zd y101.2))),(102,.box (pvL (Zc (⟨0,([]:List Zb),([]:List Ze),0,0⟩:Ze)))),(104,.arr 2 (([]:List Zb).map Za))]) (O:=[]) kr (sound _ _) trivial ?_
 refine WA.seq ?_
 refine WA.seq ?_
 refine WA.reg [0,2,3,4,5] [0,102,104] [] (env':=[(0,.val false [.ptr 0 1 0 0]),(2,.val false [.ptr 102 1 0 0]),(3,one (.bool y101.1)),(4,.val false [.arr 104 0]),(5,one (.bool true))]) (os':=[(0,.box (pvL (Zd y101.2))),(102,.box (pvL (Zc (⟨0,([]:List Zb),([]:List Ze),0,0⟩:Ze)))),(104,.arr 2 (([]:List Zb).map Za))]) (O:=[]) kr (sound _ _) trivial ?_
 refine WA.block ?_
 refine WA.loop (fun m s_=>∃(v152:Zg) (v153:List Zb) (v154:Nat) (v155:Bool),Zj s_.env [0,2,3,4,5]=[(0,.val false [.ptr 0 1 0 0]),(2,.val false [.ptr 102 1 0 0]),(3,one (.bool y101.1)),(4,.val false [.arr 104 v154]),(5,one (.bool v155))]∧Zj s_.os [0,102,104]=[(0,.box (pvL (Zd v152))),(102,.box (pvL (Zc (⟨0,([]:List Zb),([]:List Ze),0,0⟩:Ze)))),(104,.arr 2 (v153.map Za))]∧v154=(v153:List _).length∧ZeX k y101 m v152 v153 v155=some r) k ⟨y101.2,([]:List Zb),0,true,kr,kr,zt,hF⟩ ?_
 clear hF
 rintro m5 s_ ⟨v152,v153,v154,v155,he,ho,hn_v154,hF⟩
 refine WA.keep _ _ he ho ?_
 clear he ho
 cases m5 with
 | zero=>cases hF
 | succ m5=>
  obtain ⟨self5,hself5⟩:∃g,g=ZeX k y101 m5:=⟨_,rfl⟩
  have hF:ZiU k self5 y101 v152 v153 v155=some r:=by first | (rw [hself5];exact hF) | exact hF
  refine WA.seq ?_
  refine WA.join (fun s_=>∃(v158:Zg) (v159:Bool),Zj s_.env [0,2,3,4,17]=[(0,.val false [.ptr 0 1 0 0]),(2,.val false [.ptr 102 1 0 0]),(3,one (.bool y101.1)),(4,.val false [.arr 104 v154]),(17,one (.bool v159))]∧Zj s_.os [0,102,104]=[(0,.box (pvL (Zd v158))),(102,.box (pvL (Zc (⟨0,([]:List Zb),([]:List Ze),0,0⟩:Ze)))),(104,.arr 2 (v153.map Za))]∧Zgw k self5 y101 v153 v158 v159=some r) ?_ ?_
  {
 rintro s_ ⟨v158,v159,he,ho,hF⟩
 refine WA.keep _ _ he ho ?_
 clear he ho
 refine WA.cond (b:=v159) rfl (fun hb160=>?_) (fun hb160=>?_)
 {
 have hF:=Zi hF hb160
 refine WA.skip ?_
 refine WA.seq ?_
 refine WA.block ?_
 refine WA.seq ?_
 obtain ⟨y161,hy161,hF⟩:=bind_some hF
 refine WA.reg [0,2,3,4,6] [0,102,104] [(1,.callR [0] (one (.bool y161)))] (env':=[(0,.val false [.ptr 0 1 0 0]),(2,.val false [.ptr 102 1 0 0]),(3,one (.bool y101.1)),(4,.val false [.arr 104 v154]),(6,one (.bool y161))]) (os':=[(0,.box (pvL (Zd v158))),(102,.box (pvL (Zc (⟨0,([]:List Zb),([]:List Ze),0,0⟩:Ze)))),(104,.arr 2 (v153.map Za))]) (O:=[Sim Tryz.prog GL0 97 [.val false [.ptr 0 1 0 0],one (.str ([92,100]:List UInt8))] [.box (pvL (Zd v158))] (one (.bool y161)) [.box (pvL (Zd v158))],([0]:List Nat).Nodup]) kr (sound _ _) ⟨(Zcv k _ _ _ hy161),(by decide),trivial⟩ ?_
 refine WA.seq ?_
 rcases Z3 hF with ⟨hz,hr⟩ | ⟨y162,hy162,hF⟩
 {
 subst hr
 refine WA.regP 1 [0] [] [] badV (f:=169) (args:=[.val false [.ptr 0 1 0 0]]) (os:=[.box (pvL (Zd v158))]) (env1:=[]) (os1:=[(0,.box (pvL (Zd v158))),(102,.box (pvL (Zc (⟨0,([]:List Zb),([]:List Ze),0,0⟩:Ze)))),(104,.arr 2 (v153.map Za))]) (O:=[]) kr (sound _ _) trivial (by decide) (Ze5 k _ _ hz) (fun psl hpsl=>?_)
 obtain ⟨ps,rfl⟩:=ZQ hpsl
 exact ⟨rfl,[ps],kr,rfl⟩ }
 {
 refine WA.reg [0,2,3,4,6,7] [0,102,104,121] [(1,.call [0] (.val false [.arr 1 y162.1.length]) [.box (pvL (Zd y162.2)),.arr 2 (y162.1.map Za)] [121])] (env':=[(0,.val false [.ptr 0 1 0 0]),(2,.val false [.ptr 102 1 0 0]),(3,one (.bool y101.1)),(4,.val false [.arr 104 v154]),(6,one (.bool y161)),(7,.val false [.arr 121 y162.1.length])]) (os':=[(0,.box (pvL (Zd y162.2))),(102,.box (pvL (Zc (⟨0,([]:List Zb),([]:List Ze),0,0⟩:Ze)))),(104,.arr 2 (v153.map Za)),(121,.arr 2 (y162.1.map Za))]) (O:=[Sim Tryz.prog GL0 169 [.val false [.ptr 0 1 0 0]] [.box (pvL (Zd v158))] (.val false [.arr 1 y162.1.length]) [.box (pvL (Zd y162.2)),.arr 2 (y162.1.map Za)],([0]:List Nat).Nodup]) kr (sound _ _) ⟨(Ze5 k _ _ hy162),(by decide),trivial⟩ ?_
 refine WA.join (fun s_=>∃(v177:Zg) (v178:List Zb) (v179:Nat),Zj s_.env [0,2,3,4,7]=[(0,.val false [.ptr 0 1 0 0]),(2,.val false [.ptr 102 1 0 0]),(3,one (.bool y101.1)),(4,.val false [.arr 104 v154]),(7,.val false [.arr 121 v179])]∧Zj s_.os [0,102,104,121]=[(0,.box (pvL (Zd v177))),(102,.box (pvL (Zc (⟨0,([]:List Zb),([]:List Ze),0,0⟩:Ze)))),(104,.arr 2 (v153.map Za)),(121,.arr 2 (v178.map Za))]∧v179=(v178:List _).length∧Zgx self5 v153 v177 v178=some r) ?_ ?_
 {
 rintro s_ ⟨v177,v178,v179,he,ho,hn_v179,hF⟩
 refine WA.keep _ _ he ho ?_
 clear he ho
 refine WA.freeze 121 7 (s:=2) (n:=v179) (els:=(v178.map Za)) rfl rfl zt ?_
 refine WA.keep [0,2,3,4,7] [0,102,104] (env':=[(0,.val false [.ptr 0 1 0 0]),(2,.val false [.ptr 102 1 0 0]),(3,one (.bool y101.1)),(4,.val false [.arr 104 v154]),(7,one (.sl (v178.map Za)))]) (os':=[(0,.box (pvL (Zd v177))),(102,.box (pvL (Zc (⟨0,([]:List Zb),([]:List Ze),0,0⟩:Ze)))),(104,.arr 2 (v153.map Za))]) kr kr ?_
 obtain ⟨hc180,hF⟩:=Zn hF
 refine WA.rm (α:=Nat×(List (List PV))) (raw:=((v154+(v178.map Za).length),((v153.map Za) ++ (v178.map Za)))) (can:=((v154+v178.length),((v153 ++ v178).map Za))) (fun m_=>([(0,.val false [.ptr 0 1 0 0]),(2,.val false [.ptr 102 1 0 0]),(3,one (.bool y101.1)),(4,.val false [.arr 104 m_.1])],[(0,.box (pvL (Zd v177))),(102,.box (pvL (Zc (⟨0,([]:List Zb),([]:List Ze),0,0⟩:Ze)))),(104,.arr 2 m_.2)],[v154=(v153.map Za).length,(v153.map Za).length+(v178.map Za).length≤1073741824,∀es,es∈(v178.map Za)→es.length=2])) (ZI (by first | (simp only [zl,Zf];done) | (simp only [zl,Zf];omega) | omega) zm) [0,2,3,4] [0,102,104] [] kr (sound _ _) ⟨zt,(by first | exact hc180 | (simp only [List.length_map,Zf];exact hc180)),(Zav v178),trivial⟩ ?_
 refine WA.reg [0,2,3,4,5] [0,102,104] [] (env':=[(0,.val false [.ptr 0 1 0 0]),(2,.val false [.ptr 102 1 0 0]),(3,one (.bool y101.1)),(4,.val false [.arr 104 (v154+v178.length)]),(5,one (.bool false))]) (os':=[(0,.box (pvL (Zd v177))),(102,.box (pvL (Zc (⟨0,([]:List Zb),([]:List Ze),0,0⟩:Ze)))),(104,.arr 2 ((v153 ++ v178).map Za))]) (O:=[]) kr (sound _ _) trivial ?_
 exact ⟨m5,Nat.lt_succ_self _,v177,(v153 ++ v178),(v154+v178.length),false,kr,kr,zt,by rw [hself5] at hF;exact hF⟩ }
 {
 refine WA.seq ?_
 obtain ⟨y163,hy163,hF⟩:=bind_some hF
 refine WA.reg [0,2,3,4,6,7,23] [0,102,104,121] [(1,.call [0] (one (.bool y163.1)) [.box (pvL (Zd y163.2))] [])] (env':=[(0,.val false [.ptr 0 1 0 0]),(2,.val false [.ptr 102 1 0 0]),(3,one (.bool y101.1)),(4,.val false [.arr 104 v154]),(6,one (.bool y161)),(7,.val false [.arr 121 y162.1.length]),(23,one (.bool y163.1))]) (os':=[(0,.box (pvL (Zd y163.2))),(102,.box (pvL (Zc (⟨0,([]:List Zb),([]:List Ze),0,0⟩:Ze)))),(104,.arr 2 (v153.map Za)),(121,.arr 2 (y162.1.map Za))]) (O:=[Sim Tryz.prog GL0 71 [.val false [.ptr 0 1 0 0],one (.str ([45]:List UInt8))] [.box (pvL (Zd y162.2))] (one (.bool y163.1)) [.box (pvL (Zd y163.2))],([0]:List Nat).Nodup]) kr (sound _ _) ⟨(Zai k _ _ _ hy163),(by decide),trivial⟩ ?_
 refine WA.cond (b:=y163.1) rfl (fun hb164=>?_) (fun hb164=>?_)
 {
 have hF:=Zi hF hb164
 refine WA.seq ?_
 obtain ⟨y165,hy165,hF⟩:=bind_some hF
 refine WA.reg [0,2,3,4,6,7,8] [0,102,104,121] [(1,.callR [0] (one (.bool y165)))] (env':=[(0,.val false [.ptr 0 1 0 0]),(2,.val false [.ptr 102 1 0 0]),(3,one (.bool y101.1)),(4,.val false [.arr 104 v154]),(6,one (.bool y161)),(7,.val false [.arr 121 y162.1.length]),(8,one (.bool y165))]) (os':=[(0,.box (pvL (Zd y163.2))),(102,.box (pvL (Zc (⟨0,([]:List Zb),([]:List Ze),0,0⟩:Ze)))),(104,.arr 2 (v153.map Za)),(121,.arr 2 (y162.1.map Za))]) (O:=[Sim Tryz.prog GL0 97 [.val false [.ptr 0 1 0 0],one (.str ([92,100]:List UInt8))] [.box (pvL (Zd y163.2))] (one (.bool y165)) [.box (pvL (Zd y163.2))],([0]:List Nat).Nodup]) kr (sound _ _) ⟨(Zcv k _ _ _ hy165),(by decide),trivial⟩ ?_
 refine WA.seq ?_
 rcases Z3 hF with ⟨hz,hr⟩ | ⟨y166,hy166,hF⟩
 {
 subst hr
 refine WA.regP 1 [0] [] [] badV (f:=169) (args:=[.val false [.ptr 0 1 0 0]]) (os:=[.box (pvL (Zd y163.2))]) (env1:=[]) (os1:=[(0,.box (pvL (Zd y163.2))),(102,.box (pvL (Zc (⟨0,([]:List Zb),([]:List Ze),0,0⟩:Ze)))),(104,.arr 2 (v153.map Za)),(121,.arr 2 (y162.1.map Za))]) (O:=[]) kr (sound _ _) trivial (by decide) (Ze5 k _ _ hz) (fun psl hpsl=>?_)
 obtain ⟨ps,rfl⟩:=ZQ hpsl
 exact ⟨rfl,[ps],kr,rfl⟩ }
 {
 refine WA.reg [0,2,3,4,6,7,8,9] [0,102,104,121] [(1,.call [0] (one (.sl (y166.1.map Za))) [.box (pvL (Zd y166.2))] [])] (env':=[(0,.val false [.ptr 0 1 0 0]),(2,.val false [.ptr 102 1 0 0]),(3,one (.bool y101.1)),(4,.val false [.arr 104 v154]),(6,one (.bool y161)),(7,.val false [.arr 121 y162.1.length]),(8,one (.bool y165)),(9,one (.sl (y166.1.map Za)))]) (os':=[(0,.box (pvL (Zd y166.2))),(102,.box (pvL (Zc (⟨0,([]:List Zb),([]:List Ze),0,0⟩:Ze)))),(104,.arr 2 (v153.map Za)),(121,.arr 2 (y162.1.map Za))]) (O:=[Sim Tryz.prog GL0 169 [.val false [.ptr 0 1 0 0]] [.box (pvL (Zd y163.2))] (one (.sl (y166.1.map Za))) [.box (pvL (Zd y166.2))],([0]:List Nat).Nodup]) kr (sound _ _) ⟨(Zjn (os':=[.box (pvL (Zd y166.2))]) (m:=1) rfl (Nat.le_refl _) (List.length_map _).symm (Ze5 k _ _ hy166)),(by decide),trivial⟩ ?_
 refine WA.seq ?_
 refine WA.join (fun s_=>∃(v172:Bool),Zj s_.env [0,2,3,4,7,9,42]=[(0,.val false [.ptr 0 1 0 0]),(2,.val false [.ptr 102 1 0 0]),(3,one (.bool y101.1)),(4,.val false [.arr 104 v154]),(7,.val false [.arr 121 y162.1.length]),(9,one (.sl (y166.1.map Za))),(42,one (.bool v172))]∧Zj s_.os [0,102,104,121]=[(0,.box (pvL (Zd y166.2))),(102,.box (pvL (Zc (⟨0,([]:List Zb),([]:List Ze),0,0⟩:Ze)))),(104,.arr 2 (v153.map Za)),(121,.arr 2 (y162.1.map Za))]∧ZeW self5 v153 y162 y166 v172=some r) ?_ ?_
 {
 rintro s_ ⟨v172,he,ho,hF⟩
 refine WA.keep _ _ he ho ?_
 clear he ho
 refine WA.cond (b:=v172) rfl (fun hb173=>?_) (fun hb173=>?_)
 {
 have hF:=Zi hF hb173
 refine WA.bad [] (t:=70) (env1:=[]) (os1:=[(0,.box (pvL (Zd y166.2))),(102,.box (pvL (Zc (⟨0,([]:List Zb),([]:List Ze),0,0⟩:Ze)))),(104,.arr 2 (v153.map Za)),(121,.arr 2 (y162.1.map Za))]) (O:=[]) kr (sound _ _) trivial ?_
 obtain rfl:=Option.some.inj hF
 exact ⟨rfl,[(Zd y166.2)],kr,rfl⟩ }
 {
 have hF:=Zh hF hb173
 refine WA.skip ?_
 obtain ⟨y174,hy174,hF⟩:=bind_some hF
 obtain ⟨hc175,hF⟩:=Zn hF
 obtain ⟨y176,hy176,hF⟩:=bind_some hF
 refine WA.rm (α:=(List (List PV))) (raw:=((y162.1.map Za).set (Int.toNat 0) (Za ({ y176 with f_Hi:=y174.f_Lo }:Zb)))) (can:=((y162.1.set (Int.toNat 0) ({ y176 with f_Hi:=y174.f_Lo }:Zb)).map Za)) (fun m_=>([(0,.val false [.ptr 0 1 0 0]),(2,.val false [.ptr 102 1 0 0]),(3,one (.bool y101.1)),(4,.val false [.arr 104 v154]),(7,.val false [.arr 121 y162.1.length])],[(0,.box (pvL (Zd y166.2))),(102,.box (pvL (Zc (⟨0,([]:List Zb),([]:List Ze),0,0⟩:Ze)))),(104,.arr 2 (v153.map Za)),(121,.arr 2 m_)],[idxL (y166.1.map Za) 0=some (Za y174),y162.1.length=(y162.1.map Za).length,(0:Int)≤0,0<((y162.1.length:Nat):Int),y162.1.length=(y162.1.map Za).length,0<y162.1.length,y162.1.length=(y162.1.map Za).length,(y162.1.map Za)[Int.toNat 0]?=some (Za y176)])) (zm) [0,2,3,4,7] [0,102,104,121] [(2,.cells (Za y174)),(7,.cells (Za y176))] kr (sound _ _) ⟨(Zq _ hy174),zt,hc175.1,(by have h_:=hc175.2;(try simp only [zl,Zf] at h_ ⊢);omega),zt,(by omega),zt,(Zo (Zq _ hy176)),trivial⟩ ?_
 exact ⟨y166.2,(y162.1.set (Int.toNat 0) ({ y176 with f_Hi:=y174.f_Lo }:Zb)),y162.1.length,kr,kr,zt,hF⟩ } }
 {
 rcases Bool.eq_false_or_eq_true y161 with hb167 | hb167
 {
 have hF:=Zi hF hb167
 refine WA.regD kr [0,2,3,4,7,9,42] [0,102,104,121] [(1,.bool true)] (env':=[(0,.val false [.ptr 0 1 0 0]),(2,.val false [.ptr 102 1 0 0]),(3,one (.bool y101.1)),(4,.val false [.arr 104 v154]),(7,.val false [.arr 121 y162.1.length]),(9,one (.sl (y166.1.map Za))),(42,one (.bool true))]) (os':=[(0,.box (pvL (Zd y166.2))),(102,.box (pvL (Zc (⟨0,([]:List Zb),([]:List Ze),0,0⟩:Ze)))),(104,.arr 2 (v153.map Za)),(121,.arr 2 (y162.1.map Za))]) (O:=[y161=true]) kr kr (sound _ _) ⟨hb167,trivial⟩ ?_
 exact ⟨true,kr,kr,hF⟩ }
 {
 have hF:=Zh hF hb167
 rcases Bool.eq_false_or_eq_true y165 with hb168 | hb168
 {
 have hF:=Zi hF hb168
 refine WA.regD kr [0,2,3,4,7,9,42] [0,102,104,121] [(1,.bool false),(4,.bool true)] (env':=[(0,.val false [.ptr 0 1 0 0]),(2,.val false [.ptr 102 1 0 0]),(3,one (.bool y101.1)),(4,.val false [.arr 104 v154]),(7,.val false [.arr 121 y162.1.length]),(9,one (.sl (y166.1.map Za))),(42,one (.bool true))]) (os':=[(0,.box (pvL (Zd y166.2))),(102,.box (pvL (Zc (⟨0,([]:List Zb),([]:List Ze),0,0⟩:Ze)))),(104,.arr 2 (v153.map Za)),(121,.arr 2 (y162.1.map Za))]) (O:=[y161=false,y165=true]) kr kr (sound _ _) ⟨hb167,hb168,trivial⟩ ?_
 exact ⟨true,kr,kr,hF⟩ }
 {
 have hF:=Zh hF hb168
 obtain ⟨y169,hy169,hF⟩:=bind_some hF
 obtain ⟨hc170,hF⟩:=Zn hF
 obtain ⟨y171,hy171,hF⟩:=bind_some hF
 refine WA.regD kr [0,2,3,4,7,9,42] [0,102,104,121] [(1,.bool false),(4,.bool false),(6,.cells (Za y169)),(12,.cells (Za y171))] (env':=[(0,.val false [.ptr 0 1 0 0]),(2,.val false [.ptr 102 1 0 0]),(3,one (.bool y101.1)),(4,.val false [.arr 104 v154]),(7,.val false [.arr 121 y162.1.length]),(9,one (.sl (y166.1.map Za))),(42,one (.bool (decide (y169.f_Lo<y171.f_Lo))))]) (os':=[(0,.box (pvL (Zd y166.2))),(102,.box (pvL (Zc (⟨0,([]:List Zb),([]:List Ze),0,0⟩:Ze)))),(104,.arr 2 (v153.map Za)),(121,.arr 2 (y162.1.map Za))]) (O:=[y161=false,y165=false,idxL (y166.1.map Za) 0=some (Za y169),y162.1.length=(y162.1.map Za).length,(0:Int)≤0,0<((y162.1.length:Nat):Int),y162.1.length=(y162.1.map Za).length,0<y162.1.length,y162.1.length=(y162.1.map Za).length,(y162.1.map Za)[Int.toNat 0]?=some (Za y171)]) kr kr (sound _ _) ⟨hb167,hb168,(Zq _ hy169),zt,hc170.1,(by have h_:=hc170.2;(try simp only [zl,Zf] at h_ ⊢);omega),zt,(by omega),zt,(Zo (Zq _ hy171)),trivial⟩ ?_
 exact ⟨(decide (y169.f_Lo<y171.f_Lo)),kr,kr,hF⟩ } } } } }
 {
 have hF:=Zh hF hb164
 refine WA.skip ?_
 exact ⟨y163.2,y162.1,y162.1.length,kr,kr,zt,hF⟩ } } } }
 {
 have hF:=Zh hF hb160
 refine WA.exit ?_
 refine WA.seq ?_
 refine WA.freeze 104 4 (s:=2) (n:=v154) (els:=(v153.map Za)) rfl rfl zt ?_
 refine WA.keep [2,3,4] [0,102] (env':=[(2,.val false [.ptr 102 1 0 0]),(3,one (.bool y101.1)),(4,one (.sl (v153.map Za)))]) (os':=[(0,.box (pvL (Zd v158))),(102,.box (pvL (Zc (⟨0,([]:List Zb),([]:List Ze),0,0⟩:Ze))))]) kr kr ?_
 obtain ⟨y181,hy181,hF⟩:=bind_some hF
 obtain ⟨y182,hy182,hF⟩:=bind_some hF
 obtain ⟨y183,hy183,hF⟩:=bind_some hF
 refine WA.reg [2,3,4] [0,102] [(1,.callR [] (one (.sl (y181.map Za)))),(2,.callR [] (one (.sl (y182.map Za)))),(3,.callR [] (one (.sl (y183.map Za))))] (env':=[(2,.val false [.ptr 102 1 0 0]),(3,one (.bool y101.1)),(4,one (.sl (y183.map Za)))]) (os':=[(0,.box (pvL (Zd v158))),(102,.box (pvL (Zc (⟨0,([]:List Zb),([]:List Ze),0,0⟩:Ze))))]) (O:=[Sim Tryz.prog GL0 77 [one (.sl (v153.map Za))] [] (one (.sl (y181.map Za))) [],([]:List Nat).Nodup,Sim Tryz.prog GL0 59 [] [] (one (.sl (y182.map Za))) [],([]:List Nat).Nodup,Sim Tryz.prog GL0 76 [one (.sl (y181.map Za)),one (.sl (y182.map Za))] [] (one (.sl (y183.map Za))) [],([]:List Nat).Nodup]) kr (sound _ _) ⟨(ZfY k _ _ hy181),(by decide),(Zek k _ hy182),(by decide),(ZhV k _ _ _ hy183),(by decide),trivial⟩ ?_
 refine WA.join (fun s_=>∃(v186:List Zb),Zj s_.env [2,4]=[(2,.val false [.ptr 102 1 0 0]),(4,one (.sl (v186.map Za)))]∧Zj s_.os [0,102]=[(0,.box (pvL (Zd v158))),(102,.box (pvL (Zc (⟨0,([]:List Zb),([]:List Ze),0,0⟩:Ze))))]∧Zgy k v158 v186=some r) ?_ ?_
 {
 rintro s_ ⟨v186,he,ho,hF⟩
 refine WA.keep _ _ he ho ?_
 clear he ho
 refine WA.seq ?_
 obtain ⟨y187,hy187,hF⟩:=bind_some hF
 refine WA.reg [2] [0,102] [(1,.callR [] (.val true (pvL (Zc y187))))] (env':=[(2,.val false [.ptr 102 1 0 0])]) (os':=[(0,.box (pvL (Zd v158))),(102,.box (pvL (Zc y187)))]) (O:=[Sim Tryz.prog GL0 58 [one (.sl (v186.map Za))] [] (.val true (pvL (Zc y187))) [],([]:List Nat).Nodup]) kr (sound _ _) ⟨(Zdi k _ _ hy187),(by decide),trivial⟩ ?_
 refine WA.ret ?_
 obtain rfl:=Option.some.inj hF
 exact Zr (.val true (pvL (Zc y187))) [.box (pvL (Zd v158))] kr kr kr kr (by decide) rfl rfl }
 {
 refine WA.seq ?_
 refine WA.reg [2,4,59] [0,102] [] (env':=[(2,.val false [.ptr 102 1 0 0]),(4,one (.sl (y183.map Za))),(59,one (.bool y101.1))]) (os':=[(0,.box (pvL (Zd v158))),(102,.box (pvL (Zc (⟨0,([]:List Zb),([]:List Ze),0,0⟩:Ze))))]) (O:=[]) kr (sound _ _) trivial ?_
 refine WA.cond (b:=y101.1) rfl (fun hb184=>?_) (fun hb184=>?_)
 {
 have hF:=Zi hF hb184
 obtain ⟨y185,hy185,hF⟩:=bind_some hF
 refine WA.reg [2,4] [0,102] [(1,.callR [] (one (.sl (y185.map Za))))] (env':=[(2,.val false [.ptr 102 1 0 0]),(4,one (.sl (y185.map Za)))]) (os':=[(0,.box (pvL (Zd v158))),(102,.box (pvL (Zc (⟨0,([]:List Zb),([]:List Ze),0,0⟩:Ze))))]) (O:=[Sim Tryz.prog GL0 109 [one (.sl (y183.map Za))] [] (one (.sl (y185.map Za))) [],([]:List Nat).Nodup]) kr (sound _ _) ⟨(ZlH k _ _ hy185),(by decide),trivial⟩ ?_
 exact ⟨y185,kr,kr,hF⟩ }
 {
 have hF:=Zh hF hb184
 refine WA.skip ?_
 exact ⟨y183,kr,kr,hF⟩ } } } }
  {
 rcases Bool.eq_false_or_eq_true v155 with hb156 | hb156
 {
 have hF:=Zi hF hb156
 refine WA.reg [0,2,3,4,17] [0,102,104] [(1,.bool true)] (env':=[(0,.val false [.ptr 0 1 0 0]),(2,.val false [.ptr 102 1 0 0]),(3,one (.bool y101.1)),(4,.val false [.arr 104 v154]),(17,one (.bool true))]) (os':=[(0,.box (pvL (Zd v152))),(102,.box (pvL (Zc (⟨0,([]:List Zb),([]:List Ze),0,0⟩:Ze)))),(104,.arr 2 (v153.map Za))]) (O:=[v155=true]) kr (sound _ _) ⟨hb156,trivial⟩ ?_
 exact ⟨v152,true,kr,kr,hF⟩ }
 {
 have hF:=Zh hF hb156
 obtain ⟨y157,hy157,hF⟩:=bind_some hF
 refine WA.reg [0,2,3,4,17] [0,102,104] [(1,.bool false),(3,.call [0] (one (.bool y157.1)) [.box (pvL (Zd y157.2))] [])] (env':=[(0,.val false [.ptr 0 1 0 0]),(2,.val false [.ptr 102 1 0 0]),(3,one (.bool y101.1)),(4,.val false [.arr 104 v154]),(17,one (.bool (!y157.1)))]) (os':=[(0,.box (pvL (Zd y157.2))),(102,.box (pvL (Zc (⟨0,([]:List Zb),([]:List Ze),0,0⟩:Ze)))),(104,.arr 2 (v153.map Za))]) (O:=[v155=false,Sim Tryz.prog GL0 71 [.val false [.ptr 0 1 0 0],one (.str ([93]:List UInt8))] [.box (pvL (Zd v152))] (one (.bool y157.1)) [.box (pvL (Zd y157.2))],([0]:List Nat).Nodup]) kr (sound _ _) ⟨hb156,(Zai k _ _ _ hy157),(by decide),trivial⟩ ?_
 exact ⟨y157.2,(!y157.1),kr,kr,hF⟩ } }
def F117 (R48:Zg→Option (Option (Ze×Zg))) (k:Nat) (v0:Zg):Option (Option (Ze×Zg)):=
  (F71 k v0 ([40]:List UInt8)).bind fun y101=>(cond y101.1 (orP (R48 y101.2) fun y103=>(F71 k y103.2 ([41]:List UInt8)).bind fun y104=>(cond (!y104.1) (some none) (((some (some (y103.1,y104.2))))))) ((F71 k y101.2 ([91]:List UInt8)).bind fun y106=>(cond y106.1 (orP (F138 k y106.2) fun y108=>(some (some (y108.1,y108.2)))) ((F71 k y106.2 ([46]:List UInt8)).bind fun y109=>(cond y109.1 ((F59 k).bind fun y111=>(F58 k y111).bind fun y112=>(some (some (y112,y109.2)))) ((F71 k y109.2 ([92]:List UInt8)).bind fun y113=>(cond y113.1 (orP (F139 k y113.2 ([92,46,91,93,40,41,123,125,42,43,63,124,94,36,45,47]:List UInt8)) fun y115=>(F58 k y115.1).bind fun y116=>(some (some (y116,y115.2)))) ((orP (F140 k y113.2) fun y117=>(F141 k ([92,46,91,93,40,41,123,125,42,43,63,124,94,36]:List UInt8) (IntKind.wrap .i32 y117.1)).bind fun y118=>(cond y118 (some none) ((F58 k ([(⟨y117.1,y117.1⟩:Zb)]:List Zb)).bind fun y120=>(some (some (y120,y117.2))))))))))))))
theorem ZiR (R48:Zg→Option (Option (Ze×Zg))) (IH48:∀(v0:Zg) (r:Option (Ze×Zg)),R48 v0=some r→SimP Tryz.prog GL0 badV 48 [.val false [.ptr 0 1 0 0]] [.box (pvL (Zd v0))] (r.map fun r=>(.val true (pvL (Zc r.1)),[.box (pvL (Zd r.2))]))) (k:Nat) (v0:Zg) (r:Option (Ze×Zg)) (hF:F117 R48 k v0=some r):SimP Tryz.prog GL0 badV 117 [.val false [.ptr 0 1 0 0]] [.box (pvL (Zd v0))] (r.map fun r=>(.val true (pvL (Zc r.1)),[.box (pvL (Zd r.2))])):=by
 refine Za1 [0] Tryz.func117 rfl kr kr ?_
 show WA _ _ 44 _ _ _
 refine WA.seq ?_
 refine WA.reg [0,2] [0,102] [(0,.obj 102)] (env':=[(0,.val false [.ptr 0 1 0 0]),(2,.val false [.ptr 102 1 0 0])]) (os':=[(0,.box (pvL (Zd v0))),(102,.box (pvL (Zc (⟨0,([]:List Zb),([]:List Ze),0,0⟩:Ze))))]) (O:=[]) kr (sound _ _) trivial ?_
 refine WA.seq ?_
 refine WA.block ?_
 refine WA.seq ?_
 obtain ⟨y101,hy101,hF⟩:=bind_some hF
 refine WA.reg [0,2,5] [0,102] [(1,.call [0] (one (.bool y101.1)) [.box (pvL (Zd y101.2))] [])] (env':=[(0,.val false [.ptr 0 1 0 0]),(2,.val false [.ptr 102 1 0 0]),(5,one (.bool y101.1))]) (os':=[(0,.box (pvL (Zd y101.2))),(102,.box (pvL (Zc (⟨0,([]:List Zb),([]:List Ze),0,0⟩:Ze))))]) (O:=[Sim Tryz.prog GL0 71 [.val false [.ptr 0 1 0 0],one (.str ([40]:List UInt8))] [.box (pvL (Zd v0))] (one (.bool y101.1)) [.box (pvL (Zd y101.2))],([0]:List Nat).Nodup]) kr (sound _ _) ⟨(Zai k _ _ _ hy101),(by decide),trivial⟩ ?_
 refine WA.cond (b:=y101.1) rfl (fun hb102=>?_) (fun hb102=>?_)
 {
 have hF:=Zi hF hb102
 refine WA.seq ?_
 rcases Z3 hF with ⟨hz,hr⟩ | ⟨y103,hy103,hF⟩
 {
 subst hr
 refine WA.regP 1 [0] [] [] badV (f:=48) (args:=[.val false [.ptr 0 1 0 0]]) (os:=[.box (pvL (Zd y101.2))]) (env1:=[]) (os1:=[(0,.box (pvL (Zd y101.2))),(102,.box (pvL (Zc (⟨0,([]:List Zb),([]:List Ze),0,0⟩:Ze))))]) (O:=[]) kr (sound _ _) trivial (by decide) (IH48 _ _ hz) (fun psl hpsl=>?_)
 obtain ⟨ps,rfl⟩:=ZQ hpsl
 exact ⟨rfl,[ps],kr,rfl⟩ }
 {
 refine WA.reg [0,2,3] [0,102,103] [(1,.call [0] (.val true (pvL (Zc y103.1))) [.box (pvL (Zd y103.2))] []),(2,.obj 103)] (env':=[(0,.val false [.ptr 0 1 0 0]),(2,.val false [.ptr 102 1 0 0]),(3,.val false [.ptr 103 1 0 0])]) (os':=[(0,.box (pvL (Zd y103.2))),(102,.box (pvL (Zc (⟨0,([]:List Zb),([]:List Ze),0,0⟩:Ze)))),(103,.box (pvL (Zc y103.1)))]) (O:=[Sim Tryz.prog GL0 48 [.val false [.ptr 0 1 0 0]] [.box (pvL (Zd y101.2))] (.val true (pvL (Zc y103.1))) [.box (pvL (Zd y103.2))],([0]:List Nat).Nodup]) kr (sound _ _) ⟨(IH48 _ _ hy103),(by decide),trivial⟩ ?_
 refine WA.seq ?_
 refine WA.seq ?_
 obtain ⟨y104,hy104,hF⟩:=bind_some hF
 refine WA.reg [2,3,12] [0,102,103] [(1,.call [0] (one (.bool y104.1)) [.box (pvL (Zd y104.2))] [])] (env':=[(2,.val false [.ptr 102 1 0 0]),(3,.val false [.ptr 103 1 0 0]),(12,one (.bool (!y104.1)))]) (os':=[(0,.box (pvL (Zd y104.2))),(102,.box (pvL (Zc (⟨0,([]:List Zb),([]:List Ze),0,0⟩:Ze)))),(103,.box (pvL (Zc y103.1)))]) (O:=[Sim Tryz.prog GL0 71 [.val false [.ptr 0 1 0 0],one (.str ([41]:List UInt8))] [.box (pvL (Zd y103.2))] (one (.bool y104.1)) [.box (pvL (Zd y104.2))],([0]:List Nat).Nodup]) kr (sound _ _) ⟨(Zai k _ _ _ hy104),(by decide),trivial⟩ ?_
 refine WA.cond (b:=(!y104.1)) rfl (fun hb105=>?_) (fun hb105=>?_)
 {
 have hF:=Zi hF hb105
 refine WA.bad [] (t:=70) (env1:=[]) (os1:=[(0,.box (pvL (Zd y104.2))),(102,.box (pvL (Zc (⟨0,([]:List Zb),([]:List Ze),0,0⟩:Ze)))),(103,.box (pvL (Zc y103.1)))]) (O:=[]) kr (sound _ _) trivial ?_
 obtain rfl:=Option.some.inj hF
 exact ⟨rfl,[(Zd y104.2)],kr,rfl⟩ }
 {
 have hF:=Zh hF hb105
 refine WA.skip ?_
 refine WA.seq ?_
 refine WA.reg [2] [0,102] [] (env':=[(2,.val false [.ptr 102 1 0 0])]) (os':=[(0,.box (pvL (Zd y104.2))),(102,.box (pvL (Zc y103.1)))]) (O:=[]) kr (sound _ _) trivial ?_
 refine WA.ret ?_
 obtain rfl:=Option.some.inj hF
 exact Zr (.val true (pvL (Zc y103.1))) [.box (pvL (Zd y104.2))] kr kr kr kr (by decide) rfl rfl } } }
 {
 have hF:=Zh hF hb102
 refine WA.seq ?_
 obtain ⟨y106,hy106,hF⟩:=bind_some hF
 refine WA.reg [0,2,16] [0,102] [(1,.call [0] (one (.bool y106.1)) [.box (pvL (Zd y106.2))] [])] (env':=[(0,.val false [.ptr 0 1 0 0]),(2,.val false [.ptr 102 1 0 0]),(16,one (.bool y106.1))]) (os':=[(0,.box (pvL (Zd y106.2))),(102,.box (pvL (Zc (⟨0,([]:List Zb),([]:List Ze),0,0⟩:Ze))))]) (O:=[Sim Tryz.prog GL0 71 [.val false [.ptr 0 1 0 0],one (.str ([91]:List UInt8))] [.box (pvL (Zd y101.2))] (one (.bool y106.1)) [.box (pvL (Zd y106.2))],([0]:List Nat).Nodup]) kr (sound _ _) ⟨(Zai k _ _ _ hy106),(by decide),trivial⟩ ?_
 refine WA.cond (b:=y106.1) rfl (fun hb107=>?_) (fun hb107=>?_)
 {
 have hF:=Zi hF hb107
 refine WA.seq ?_
 rcases Z3 hF with ⟨hz,hr⟩ | ⟨y108,hy108,hF⟩
 {
 subst hr
 refine WA.regP 1 [0] [] [] badV (f:=138) (args:=[.val false [.ptr 0 1 0 0]]) (os:=[.box (pvL (Zd y106.2))]) (env1:=[]) (os1:=[(0,.box (pvL (Zd y106.2))),(102,.box (pvL (Zc (⟨0,([]:List Zb),([]:List Ze),0,0⟩:Ze))))]) (O:=[]) kr (sound _ _) trivial (by decide) (ZiV k _ _ hz) (fun psl hpsl=>?_)
 obtain ⟨ps,rfl⟩:=ZQ hpsl
 exact ⟨rfl,[ps],kr,rfl⟩ }
 {
 refine WA.reg [2] [0,102] [(1,.call [0] (.val true (pvL (Zc y108.1))) [.box (pvL (Zd y108.2))] [])] (env':=[(2,.val false [.ptr 102 1 0 0])]) (os':=[(0,.box (pvL (Zd y108.2))),(102,.box (pvL (Zc y108.1)))]) (O:=[Sim Tryz.prog GL0 138 [.val false [.ptr 0 1 0 0]] [.box (pvL (Zd y106.2))] (.val true (pvL (Zc y108.1))) [.box (pvL (Zd y108.2))],([0]:List Nat).Nodup]) kr (sound _ _) ⟨(ZiV k _ _ hy108),(by decide),trivial⟩ ?_
 refine WA.ret ?_
 obtain rfl:=Option.some.inj hF
 exact Zr (.val true (pvL (Zc y108.1))) [.box (pvL (Zd y108.2))] kr kr kr kr (by decide) rfl rfl } }
 {
 have hF:=Zh hF hb107
 refine WA.seq ?_
 obtain ⟨y109,hy109,hF⟩:=bind_some hF
 refine WA.reg [0,2,21] [0,102] [(1,.call [0] (one (.bool y109.1)) [.box (pvL (Zd y109.2))] [])] (env':=[(0,.val false [.ptr 0 1 0 0]),(2,.val false [.ptr 102 1 0 0]),(21,one (.bool y109.1))]) (os':=[(0,.box (pvL (Zd y109.2))),(102,.box (pvL (Zc (⟨0,([]:List Zb),([]:List Ze),0,0⟩:Ze))))]) (O:=[Sim Tryz.prog GL0 71 [.val false [.ptr 0 1 0 0],one (.str ([46]:List UInt8))] [.box (pvL (Zd y106.2))] (one (.bool y109.1)) [.box (pvL (Zd y109.2))],([0]:List Nat).Nodup]) kr (sound _ _) ⟨(Zai k _ _ _ hy109),(by decide),trivial⟩ ?_
 refine WA.cond (b:=y109.1) rfl (fun hb110=>?_) (fun hb110=>?_)
 {
 have hF:=Zi hF hb110
 refine WA.seq ?_
 obtain ⟨y111,hy111,hF⟩:=bind_some hF
 obtain ⟨y112,hy112,hF⟩:=bind_some hF
 refine WA.reg [2] [0,102] [(0,.callR [] (one (.sl (y111.map Za)))),(1,.callR [] (.val true (pvL (Zc y112))))] (env':=[(2,.val false [.ptr 102 1 0 0])]) (os':=[(0,.box (pvL (Zd y109.2))),(102,.box (pvL (Zc y112)))]) (O:=[Sim Tryz.prog GL0 59 [] [] (one (.sl (y111.map Za))) [],([]:List Nat).Nodup,Sim Tryz.prog GL0 58 [one (.sl (y111.map Za))] [] (.val true (pvL (Zc y112))) [],([]:List Nat).Nodup]) kr (sound _ _) ⟨(Zek k _ hy111),(by decide),(Zdi k _ _ hy112),(by decide),trivial⟩ ?_
 refine WA.ret ?_
 obtain rfl:=Option.some.inj hF
 exact Zr (.val true (pvL (Zc y112))) [.box (pvL (Zd y109.2))] kr kr kr kr (by decide) rfl rfl }
 {
 have hF:=Zh hF hb110
 refine WA.seq ?_
 obtain ⟨y113,hy113,hF⟩:=bind_some hF
 refine WA.reg [0,2,26] [0,102] [(1,.call [0] (one (.bool y113.1)) [.box (pvL (Zd y113.2))] [])] (env':=[(0,.val false [.ptr 0 1 0 0]),(2,.val false [.ptr 102 1 0 0]),(26,one (.bool y113.1))]) (os':=[(0,.box (pvL (Zd y113.2))),(102,.box (pvL (Zc (⟨0,([]:List Zb),([]:List Ze),0,0⟩:Ze))))]) (O:=[Sim Tryz.prog GL0 71 [.val false [.ptr 0 1 0 0],one (.str ([92]:List UInt8))] [.box (pvL (Zd y109.2))] (one (.bool y113.1)) [.box (pvL (Zd y113.2))],([0]:List Nat).Nodup]) kr (sound _ _) ⟨(Zai k _ _ _ hy113),(by decide),trivial⟩ ?_
 refine WA.cond (b:=y113.1) rfl (fun hb114=>?_) (fun hb114=>?_)
 {
 have hF:=Zi hF hb114
 refine WA.seq ?_
 rcases Z3 hF with ⟨hz,hr⟩ | ⟨y115,hy115,hF⟩
 {
 subst hr
 refine WA.regP 1 [0] [] [] badV (f:=139) (args:=[.val false [.ptr 0 1 0 0],one (.str ([92,46,91,93,40,41,123,125,42,43,63,124,94,36,45,47]:List UInt8))]) (os:=[.box (pvL (Zd y113.2))]) (env1:=[]) (os1:=[(0,.box (pvL (Zd y113.2))),(102,.box (pvL (Zc (⟨0,([]:List Zb),([]:List Ze),0,0⟩:Ze))))]) (O:=[]) kr (sound _ _) trivial (by decide) (ZeZ k _ _ _ hz) (fun psl hpsl=>?_)
 obtain ⟨ps,rfl⟩:=ZQ hpsl
 exact ⟨rfl,[ps],kr,rfl⟩ }
 {
 obtain ⟨y116,hy116,hF⟩:=bind_some hF
 refine WA.reg [2] [0,102] [(1,.call [0] (one (.sl (y115.1.map Za))) [.box (pvL (Zd y115.2))] []),(2,.callR [] (.val true (pvL (Zc y116))))] (env':=[(2,.val false [.ptr 102 1 0 0])]) (os':=[(0,.box (pvL (Zd y115.2))),(102,.box (pvL (Zc y116)))]) (O:=[Sim Tryz.prog GL0 139 [.val false [.ptr 0 1 0 0],one (.str ([92,46,91,93,40,41,123,125,42,43,63,124,94,36,45,47]:List UInt8))] [.box (pvL (Zd y113.2))] (one (.sl (y115.1.map Za))) [.box (pvL (Zd y115.2))],([0]:List Nat).Nodup,Sim Tryz.prog GL0 58 [one (.sl (y115.1.map Za))] [] (.val true (pvL (Zc y116))) [],([]:List Nat).Nodup]) kr (sound _ _) ⟨(Zjn (os':=[.box (pvL (Zd y115.2))]) (m:=1) rfl (Nat.le_refl _) (List.length_map _).symm (ZeZ k _ _ _ hy115)),(by decide),(Zdi k _ _ hy116),(by decide),trivial⟩ ?_
 refine WA.ret ?_
 obtain rfl:=Option.some.inj hF
 exact Zr (.val true (pvL (Zc y116))) [.box (pvL (Zd y115.2))] kr kr kr kr (by decide) rfl rfl } }
 {
 have hF:=Zh hF hb114
 refine WA.skip ?_
 refine WA.seq ?_
 rcases Z3 hF with ⟨hz,hr⟩ | ⟨y117,hy117,hF⟩
 {
 subst hr
 refine WA.regP 1 [0] [] [] badV (f:=140) (args:=[.val false [.ptr 0 1 0 0]]) (os:=[.box (pvL (Zd y113.2))]) (env1:=[]) (os1:=[(0,.box (pvL (Zd y113.2))),(102,.box (pvL (Zc (⟨0,([]:List Zb),([]:List Ze),0,0⟩:Ze))))]) (O:=[]) kr (sound _ _) trivial (by decide) (Zb9 k _ _ hz) (fun psl hpsl=>?_)
 obtain ⟨ps,rfl⟩:=ZQ hpsl
 exact ⟨rfl,[ps],kr,rfl⟩ }
 {
 refine WA.reg [2,4] [0,102] [(1,.call [0] (one (.int .i64 y117.1)) [.box (pvL (Zd y117.2))] [])] (env':=[(2,.val false [.ptr 102 1 0 0]),(4,one (.int .i64 y117.1))]) (os':=[(0,.box (pvL (Zd y117.2))),(102,.box (pvL (Zc (⟨0,([]:List Zb),([]:List Ze),0,0⟩:Ze))))]) (O:=[Sim Tryz.prog GL0 140 [.val false [.ptr 0 1 0 0]] [.box (pvL (Zd y113.2))] (one (.int .i64 y117.1)) [.box (pvL (Zd y117.2))],([0]:List Nat).Nodup]) kr (sound _ _) ⟨(Zb9 k _ _ hy117),(by decide),trivial⟩ ?_
 refine WA.seq ?_
 refine WA.seq ?_
 obtain ⟨y118,hy118,hF⟩:=bind_some hF
 refine WA.reg [2,4,36] [0,102] [(2,.callR [] (one (.bool y118)))] (env':=[(2,.val false [.ptr 102 1 0 0]),(4,one (.int .i64 y117.1)),(36,one (.bool y118))]) (os':=[(0,.box (pvL (Zd y117.2))),(102,.box (pvL (Zc (⟨0,([]:List Zb),([]:List Ze),0,0⟩:Ze))))]) (O:=[Sim Tryz.prog GL0 141 [one (.str ([92,46,91,93,40,41,123,125,42,43,63,124,94,36]:List UInt8)),one (.int .i32 (IntKind.wrap .i32 y117.1))] [] (one (.bool y118)) [],([]:List Nat).Nodup]) kr (sound _ _) ⟨(ZiW k _ _ _ hy118),(by decide),trivial⟩ ?_
 refine WA.cond (b:=y118) rfl (fun hb119=>?_) (fun hb119=>?_)
 {
 have hF:=Zi hF hb119
 refine WA.bad [] (t:=70) (env1:=[]) (os1:=[(0,.box (pvL (Zd y117.2))),(102,.box (pvL (Zc (⟨0,([]:List Zb),([]:List Ze),0,0⟩:Ze))))]) (O:=[]) kr (sound _ _) trivial ?_
 obtain rfl:=Option.some.inj hF
 exact ⟨rfl,[(Zd y117.2)],kr,rfl⟩ }
 {
 have hF:=Zh hF hb119
 refine WA.skip ?_
 refine WA.seq ?_
 obtain ⟨y120,hy120,hF⟩:=bind_some hF
 refine WA.reg [2] [0,102] [(4,.callR [] (.val true (pvL (Zc y120))))] (env':=[(2,.val false [.ptr 102 1 0 0])]) (os':=[(0,.box (pvL (Zd y117.2))),(102,.box (pvL (Zc y120)))]) (O:=[Sim Tryz.prog GL0 58 [one (.sl (([(⟨y117.1,y117.1⟩:Zb)]:List Zb).map Za))] [] (.val true (pvL (Zc y120))) [],([]:List Nat).Nodup]) kr (sound _ _) ⟨(Zdi k _ _ hy120),(by decide),trivial⟩ ?_
 refine WA.ret ?_
 obtain rfl:=Option.some.inj hF
 exact Zr (.val true (pvL (Zc y120))) [.box (pvL (Zd y117.2))] kr kr kr kr (by decide) rfl rfl } } } } } }
def Zer (y101:Ze×Zg) (v111:Zg) (v112:Int) (v113:Int):Option (Option (Ze×Zg)):=
  (some (some ((⟨4,([]:List Zb),([y101.1]:List Ze),v112,v113⟩:Ze),v111)))
def F98 (R48:Zg→Option (Option (Ze×Zg))) (k:Nat) (v0:Zg):Option (Option (Ze×Zg)):=
  (orP (F117 R48 k v0) fun y101=>((F71 k y101.2 ([42]:List UInt8)).bind fun y102=>(cond y102.1 ((Zer y101 y102.2 0 (-1))) ((F71 k y102.2 ([43]:List UInt8)).bind fun y104=>(cond y104.1 ((Zer y101 y104.2 1 (-1))) ((F71 k y104.2 ([63]:List UInt8)).bind fun y106=>(cond y106.1 ((Zer y101 y106.2 0 1)) ((F71 k y106.2 ([123]:List UInt8)).bind fun y108=>(cond y108.1 (orP (F118 k y108.2) fun y110=>(Zer y101 y110.2.2 y110.1 y110.2.1)) ((some (some (y101.1,y108.2)))))))))))))
theorem Zj3 (R48:Zg→Option (Option (Ze×Zg))) (IH48:∀(v0:Zg) (r:Option (Ze×Zg)),R48 v0=some r→SimP Tryz.prog GL0 badV 48 [.val false [.ptr 0 1 0 0]] [.box (pvL (Zd v0))] (r.map fun r=>(.val true (pvL (Zc r.1)),[.box (pvL (Zd r.2))]))) (k:Nat) (v0:Zg) (r:Option (Ze×Zg)) (hF:F98 R48 k v0=some r):SimP Tryz.prog GL0 badV 98 [.val false [.ptr 0 1 0 0]] [.box (pvL (Zd v0))] (r.map fun r=>(.val true (pvL (Zc r.1)),[.box (pvL (Zd r.2))])):=by
 refine Za1 [0] Tryz.func98 rfl kr kr ?_
 show WA _ _ 31 _ _ _
 refine WA.seq ?_
 refine WA.reg [0,2] [0,102] [(0,.obj 102)] (env':=[(0,.val false [.ptr 0 1 0 0]),(2,.val false [.ptr 102 1 0 0])]) (os':=[(0,.box (pvL (Zd v0))),(102,.box (pvL (Zc (⟨0,([]:List Zb),([]:List Ze),0,0⟩:Ze))))]) (O:=[]) kr (sound _ _) trivial ?_
 refine WA.seq ?_
 rcases Z3 hF with ⟨hz,hr⟩ | ⟨y101,hy101,hF⟩
 {
 subst hr
 refine WA.regP 1 [0] [] [] badV (f:=117) (args:=[.val false [.ptr 0 1 0 0]]) (os:=[.box (pvL (Zd v0))]) (env1:=[]) (os1:=[(0,.box (pvL (Zd v0))),(102,.box (pvL (Zc (⟨0,([]:List Zb),([]:List Ze),0,0⟩:Ze))))]) (O:=[]) kr (sound _ _) trivial (by decide) (ZiR R48 IH48 k _ _ hz) (fun psl hpsl=>?_)
 obtain ⟨ps,rfl⟩:=ZQ hpsl
 exact ⟨rfl,[ps],kr,rfl⟩ }
 {
 refine WA.reg [0,2,3] [0,102,103] [(1,.call [0] (.val true (pvL (Zc y101.1))) [.box (pvL (Zd y101.2))] []),(2,.obj 103)] (env':=[(0,.val false [.ptr 0 1 0 0]),(2,.val false [.ptr 102 1 0 0]),(3,.val false [.ptr 103 1 0 0])]) (os':=[(0,.box (pvL (Zd y101.2))),(102,.box (pvL (Zc (⟨0,([]:List Zb),([]:List Ze),0,0⟩:Ze)))),(103,.box (pvL (Zc y101.1)))]) (O:=[Sim Tryz.prog GL0 117 [.val false [.ptr 0 1 0 0]] [.box (pvL (Zd v0))] (.val true (pvL (Zc y101.1))) [.box (pvL (Zd y101.2))],([0]:List Nat).Nodup]) kr (sound _ _) ⟨(ZiR R48 IH48 k _ _ hy101),(by decide),trivial⟩ ?_
 refine WA.seq ?_
 refine WA.reg [0,2,3,4,5] [0,102,103] [] (env':=[(0,.val false [.ptr 0 1 0 0]),(2,.val false [.ptr 102 1 0 0]),(3,.val false [.ptr 103 1 0 0]),(4,one (.int .i64 0)),(5,one (.int .i64 (-1)))]) (os':=[(0,.box (pvL (Zd y101.2))),(102,.box (pvL (Zc (⟨0,([]:List Zb),([]:List Ze),0,0⟩:Ze)))),(103,.box (pvL (Zc y101.1)))]) (O:=[]) kr (sound _ _) trivial ?_
 refine WA.join (fun s_=>∃(v111:Zg) (v112:Int) (v113:Int),Zj s_.env [2,3,4,5]=[(2,.val false [.ptr 102 1 0 0]),(3,.val false [.ptr 103 1 0 0]),(4,one (.int .i64 v112)),(5,one (.int .i64 v113))]∧Zj s_.os [0,102,103]=[(0,.box (pvL (Zd v111))),(102,.box (pvL (Zc (⟨0,([]:List Zb),([]:List Ze),0,0⟩:Ze)))),(103,.box (pvL (Zc y101.1)))]∧Zer y101 v111 v112 v113=some r) ?_ ?_
 {
 rintro s_ ⟨v111,v112,v113,he,ho,hF⟩
 refine WA.keep _ _ he ho ?_
 clear he ho
 refine WA.seq ?_
 refine WA.rm (α:=(List (List PV))) (raw:=[(Zc y101.1)]) (can:=(Zl ([y101.1]:List Ze))) (fun m_=>([(2,.val false [.ptr 102 1 0 0])],[(0,.box (pvL (Zd v111))),(102,.box (pvL ([.int .i64 4] ++ [.sl (([]:List Zb).map Za)] ++ [.sl m_] ++ [.int .i64 v112] ++ [.int .i64 v113])))],[])) (zm) [2] [0,102] [] kr (sound _ _) trivial ?_
 refine WA.ret ?_
 obtain rfl:=Option.some.inj hF
 exact Zr (.val true (pvL (Zc (⟨4,([]:List Zb),([y101.1]:List Ze),v112,v113⟩:Ze)))) [.box (pvL (Zd v111))] kr kr kr kr (by decide) rfl rfl }
 {
 refine WA.block ?_
 refine WA.seq ?_
 obtain ⟨y102,hy102,hF⟩:=bind_some hF
 refine WA.reg [0,2,3,4,5,9] [0,102,103] [(1,.call [0] (one (.bool y102.1)) [.box (pvL (Zd y102.2))] [])] (env':=[(0,.val false [.ptr 0 1 0 0]),(2,.val false [.ptr 102 1 0 0]),(3,.val false [.ptr 103 1 0 0]),(4,one (.int .i64 0)),(5,one (.int .i64 (-1))),(9,one (.bool y102.1))]) (os':=[(0,.box (pvL (Zd y102.2))),(102,.box (pvL (Zc (⟨0,([]:List Zb),([]:List Ze),0,0⟩:Ze)))),(103,.box (pvL (Zc y101.1)))]) (O:=[Sim Tryz.prog GL0 71 [.val false [.ptr 0 1 0 0],one (.str ([42]:List UInt8))] [.box (pvL (Zd y101.2))] (one (.bool y102.1)) [.box (pvL (Zd y102.2))],([0]:List Nat).Nodup]) kr (sound _ _) ⟨(Zai k _ _ _ hy102),(by decide),trivial⟩ ?_
 refine WA.cond (b:=y102.1) rfl (fun hb103=>?_) (fun hb103=>?_)
 {
 have hF:=Zi hF hb103
 refine WA.skip ?_
 exact ⟨y102.2,0,(-1),kr,kr,hF⟩ }
 {
 have hF:=Zh hF hb103
 refine WA.seq ?_
 obtain ⟨y104,hy104,hF⟩:=bind_some hF
 refine WA.reg [0,2,3,4,5,12] [0,102,103] [(1,.call [0] (one (.bool y104.1)) [.box (pvL (Zd y104.2))] [])] (env':=[(0,.val false [.ptr 0 1 0 0]),(2,.val false [.ptr 102 1 0 0]),(3,.val false [.ptr 103 1 0 0]),(4,one (.int .i64 0)),(5,one (.int .i64 (-1))),(12,one (.bool y104.1))]) (os':=[(0,.box (pvL (Zd y104.2))),(102,.box (pvL (Zc (⟨0,([]:List Zb),([]:List Ze),0,0⟩:Ze)))),(103,.box (pvL (Zc y101.1)))]) (O:=[Sim Tryz.prog GL0 71 [.val false [.ptr 0 1 0 0],one (.str ([43]:List UInt8))] [.box (pvL (Zd y102.2))] (one (.bool y104.1)) [.box (pvL (Zd y104.2))],([0]:List Nat).Nodup]) kr (sound _ _) ⟨(Zai k _ _ _ hy104),(by decide),trivial⟩ ?_
 refine WA.cond (b:=y104.1) rfl (fun hb105=>?_) (fun hb105=>?_)
 {
 have hF:=Zi hF hb105
 refine WA.reg [2,3,4,5] [0,102,103] [] (env':=[(2,.val false [.ptr 102 1 0 0]),(3,.val false [.ptr 103 1 0 0]),(4,one (.int .i64 1)),(5,one (.int .i64 (-1)))]) (os':=[(0,.box (pvL (Zd y104.2))),(102,.box (pvL (Zc (⟨0,([]:List Zb),([]:List Ze),0,0⟩:Ze)))),(103,.box (pvL (Zc y101.1)))]) (O:=[]) kr (sound _ _) trivial ?_
 exact ⟨y104.2,1,(-1),kr,kr,hF⟩ }
 {
 have hF:=Zh hF hb105
 refine WA.seq ?_
 obtain ⟨y106,hy106,hF⟩:=bind_some hF
 refine WA.reg [0,2,3,4,15] [0,102,103] [(1,.call [0] (one (.bool y106.1)) [.box (pvL (Zd y106.2))] [])] (env':=[(0,.val false [.ptr 0 1 0 0]),(2,.val false [.ptr 102 1 0 0]),(3,.val false [.ptr 103 1 0 0]),(4,one (.int .i64 0)),(15,one (.bool y106.1))]) (os':=[(0,.box (pvL (Zd y106.2))),(102,.box (pvL (Zc (⟨0,([]:List Zb),([]:List Ze),0,0⟩:Ze)))),(103,.box (pvL (Zc y101.1)))]) (O:=[Sim Tryz.prog GL0 71 [.val false [.ptr 0 1 0 0],one (.str ([63]:List UInt8))] [.box (pvL (Zd y104.2))] (one (.bool y106.1)) [.box (pvL (Zd y106.2))],([0]:List Nat).Nodup]) kr (sound _ _) ⟨(Zai k _ _ _ hy106),(by decide),trivial⟩ ?_
 refine WA.cond (b:=y106.1) rfl (fun hb107=>?_) (fun hb107=>?_)
 {
 have hF:=Zi hF hb107
 refine WA.reg [2,3,4,5] [0,102,103] [] (env':=[(2,.val false [.ptr 102 1 0 0]),(3,.val false [.ptr 103 1 0 0]),(4,one (.int .i64 0)),(5,one (.int .i64 1))]) (os':=[(0,.box (pvL (Zd y106.2))),(102,.box (pvL (Zc (⟨0,([]:List Zb),([]:List Ze),0,0⟩:Ze)))),(103,.box (pvL (Zc y101.1)))]) (O:=[]) kr (sound _ _) trivial ?_
 exact ⟨y106.2,0,1,kr,kr,hF⟩ }
 {
 have hF:=Zh hF hb107
 refine WA.seq ?_
 obtain ⟨y108,hy108,hF⟩:=bind_some hF
 refine WA.reg [0,2,3,18] [0,102,103] [(1,.call [0] (one (.bool y108.1)) [.box (pvL (Zd y108.2))] [])] (env':=[(0,.val false [.ptr 0 1 0 0]),(2,.val false [.ptr 102 1 0 0]),(3,.val false [.ptr 103 1 0 0]),(18,one (.bool y108.1))]) (os':=[(0,.box (pvL (Zd y108.2))),(102,.box (pvL (Zc (⟨0,([]:List Zb),([]:List Ze),0,0⟩:Ze)))),(103,.box (pvL (Zc y101.1)))]) (O:=[Sim Tryz.prog GL0 71 [.val false [.ptr 0 1 0 0],one (.str ([123]:List UInt8))] [.box (pvL (Zd y106.2))] (one (.bool y108.1)) [.box (pvL (Zd y108.2))],([0]:List Nat).Nodup]) kr (sound _ _) ⟨(Zai k _ _ _ hy108),(by decide),trivial⟩ ?_
 refine WA.cond (b:=y108.1) rfl (fun hb109=>?_) (fun hb109=>?_)
 {
 have hF:=Zi hF hb109
 rcases Z3 hF with ⟨hz,hr⟩ | ⟨y110,hy110,hF⟩
 {
 subst hr
 refine WA.regP 1 [0] [] [] badV (f:=118) (args:=[.val false [.ptr 0 1 0 0]]) (os:=[.box (pvL (Zd y108.2))]) (env1:=[]) (os1:=[(0,.box (pvL (Zd y108.2))),(102,.box (pvL (Zc (⟨0,([]:List Zb),([]:List Ze),0,0⟩:Ze)))),(103,.box (pvL (Zc y101.1)))]) (O:=[]) kr (sound _ _) trivial (by decide) (ZiS k _ _ hz) (fun psl hpsl=>?_)
 obtain ⟨ps,rfl⟩:=ZQ hpsl
 exact ⟨rfl,[ps],kr,rfl⟩ }
 {
 refine WA.reg [2,3,4,5] [0,102,103] [(1,.call [0] (.tup [(false,[.pv (.int .i64 y110.1)]),(false,[.pv (.int .i64 y110.2.1)])]) [.box (pvL (Zd y110.2.2))] [])] (env':=[(2,.val false [.ptr 102 1 0 0]),(3,.val false [.ptr 103 1 0 0]),(4,one (.int .i64 y110.1)),(5,one (.int .i64 y110.2.1))]) (os':=[(0,.box (pvL (Zd y110.2.2))),(102,.box (pvL (Zc (⟨0,([]:List Zb),([]:List Ze),0,0⟩:Ze)))),(103,.box (pvL (Zc y101.1)))]) (O:=[Sim Tryz.prog GL0 118 [.val false [.ptr 0 1 0 0]] [.box (pvL (Zd y108.2))] (.tup [(false,[.pv (.int .i64 y110.1)]),(false,[.pv (.int .i64 y110.2.1)])]) [.box (pvL (Zd y110.2.2))],([0]:List Nat).Nodup]) kr (sound _ _) ⟨(ZiS k _ _ hy110),(by decide),trivial⟩ ?_
 exact ⟨y110.2.2,y110.1,y110.2.1,kr,kr,hF⟩ } }
 {
 have hF:=Zh hF hb109
 refine WA.seq ?_
 refine WA.reg [2] [0,102] [] (env':=[(2,.val false [.ptr 102 1 0 0])]) (os':=[(0,.box (pvL (Zd y108.2))),(102,.box (pvL (Zc y101.1)))]) (O:=[]) kr (sound _ _) trivial ?_
 refine WA.ret ?_
 obtain rfl:=Option.some.inj hF
 exact Zr (.val true (pvL (Zc y101.1))) [.box (pvL (Zd y108.2))] kr kr kr kr (by decide) rfl rfl } } } } } }
def ZfV (R48:Zg→Option (Option (Ze×Zg))) (k:Nat) (self2:Zg→(List Ze)→Option (Option (Ze×Zg))) (v120:Zg) (v121:List Ze) (v127:Bool):Option (Option (Ze×Zg)):=
  cond v127 ((orP (F98 R48 k v120) fun y129=>if v121.length+([y129.1]:List Ze).length≤1073741824 then self2 y129.2 (v121 ++ ([y129.1]:List Ze)) else none)) (((cond ((v121.length:Int) == 1) (if (0:Int)≤0∧0<(v121.length:Int) then (idxL v121 0).bind fun y133=>(some (some (y133,v120))) else none) (((some (some ((⟨2,([]:List Zb),v121,0,0⟩:Ze),v120))))))))
def Zj1 (R48:Zg→Option (Option (Ze×Zg))) (k:Nat) (self2:Zg→(List Ze)→Option (Option (Ze×Zg))) (v120:Zg) (v121:List Ze):Option (Option (Ze×Zg)):=
  cond (decide (v120.f_at<(v120.f_s.length:Int))) ((F97 k v120 ([124]:List UInt8)).bind fun y124=>cond (!y124) ((F97 k v120 ([41]:List UInt8)).bind fun y126=>(ZfV R48 k self2 v120 v121 (!y126))) ((ZfV R48 k self2 v120 v121 false))) ((ZfV R48 k self2 v120 v121 false))
def ZfW (R48:Zg→Option (Option (Ze×Zg))) (k:Nat):Nat→Zg→(List Ze)→Option (Option (Ze×Zg))
  | 0,_,_=>none
  | m_+1,v120,v121=>Zj1 R48 k (ZfW R48 k m_) v120 v121
def F70 (R48:Zg→Option (Option (Ze×Zg))) (k:Nat) (v0:Zg):Option (Option (Ze×Zg)):=
  ((ZfW R48 k k v0 ([]:List Ze)))
theorem ZfX (R48:Zg→Option (Option (Ze×Zg))) (IH48:∀(v0:Zg) (r:Option (Ze×Zg)),R48 v0=some r→SimP Tryz.prog GL0 badV 48 [.val false [.ptr 0 1 0 0]] [.box (pvL (Zd v0))] (r.map fun r=>(.val true (pvL (Zc r.1)),[.box (pvL (Zd r.2))]))) (k:Nat) (v0:Zg) (r:Option (Ze×Zg)) (hF:F70 R48 k v0=some r):SimP Tryz.prog GL0 badV 70 [.val false [.ptr 0 1 0 0]] [.box (pvL (Zd v0))] (r.map fun r=>(.val true (pvL (Zc r.1)),[.box (pvL (Zd r.2))])):=by
 refine Za1 [0] Tryz.func70 rfl kr kr ?_
 show WA _ _ 37 _ _ _
 refine WA.seq ?_
 refine WA.reg [0,2] [0,102] [(0,.obj 102)] (env':=[(0,.val false [.ptr 0 1 0 0]),(2,.val false [.ptr 102 1 0 0])]) (os':=[(0,.box (pvL (Zd v0))),(102,.box (pvL (Zc (⟨0,([]:List Zb),([]:List Ze),0,0⟩:Ze))))]) (O:=[]) kr (sound _ _) trivial ?_
 refine WA.seq ?_
 refine WA.reg [0,2,3] [0,102,103] [(0,.obj 103)] (env':=[(0,.val false [.ptr 0 1 0 0]),(2,.val false [.ptr 102 1 0 0]),(3,.val false [.arr 103 0])]) (os':=[(0,.box (pvL (Zd v0))),(102,.box (pvL (Zc (⟨0,([]:List Zb),([]:List Ze),0,0⟩:Ze)))),(103,.arr 5 (Zl ([]:List Ze)))]) (O:=[]) kr (sound _ _) trivial ?_
 refine WA.seq ?_
 refine WA.block ?_
 refine WA.loop (fun m s_=>∃(v120:Zg) (v121:List Ze) (v122:Nat),Zj s_.env [0,2,3]=[(0,.val false [.ptr 0 1 0 0]),(2,.val false [.ptr 102 1 0 0]),(3,.val false [.arr 103 v122])]∧Zj s_.os [0,102,103]=[(0,.box (pvL (Zd v120))),(102,.box (pvL (Zc (⟨0,([]:List Zb),([]:List Ze),0,0⟩:Ze)))),(103,.arr 5 (Zl v121))]∧v122=(v121:List _).length∧ZfW R48 k m v120 v121=some r) k ⟨v0,([]:List Ze),0,kr,kr,zt,hF⟩ ?_
 clear hF
 rintro m2 s_ ⟨v120,v121,v122,he,ho,hn_v122,hF⟩
 refine WA.keep _ _ he ho ?_
 clear he ho
 cases m2 with
 | zero=>cases hF
 | succ m2=>
  obtain ⟨self2,hself2⟩:∃g,g=ZfW R48 k m2:=⟨_,rfl⟩
  have hF:Zj1 R48 k self2 v120 v121=some r:=by first | (rw [hself2];exact hF) | exact hF
  refine WA.seq ?_
  refine WA.join (fun s_=>∃(v127:Bool),Zj s_.env [0,2,3,23]=[(0,.val false [.ptr 0 1 0 0]),(2,.val false [.ptr 102 1 0 0]),(3,.val false [.arr 103 v122]),(23,one (.bool v127))]∧Zj s_.os [0,102,103]=[(0,.box (pvL (Zd v120))),(102,.box (pvL (Zc (⟨0,([]:List Zb),([]:List Ze),0,0⟩:Ze)))),(103,.arr 5 (Zl v121))]∧ZfV R48 k self2 v120 v121 v127=some r) ?_ ?_
  {
 rintro s_ ⟨v127,he,ho,hF⟩
 refine WA.keep _ _ he ho ?_
 clear he ho
 refine WA.cond (b:=v127) rfl (fun hb128=>?_) (fun hb128=>?_)
 {
 have hF:=Zi hF hb128
 refine WA.skip ?_
 refine WA.block ?_
 rcases Z3 hF with ⟨hz,hr⟩ | ⟨y129,hy129,hF⟩
 {
 subst hr
 refine WA.regP 2 [0] [] [] badV (f:=98) (args:=[.val false [.ptr 0 1 0 0]]) (os:=[.box (pvL (Zd v120))]) (env1:=[]) (os1:=[(0,.box (pvL (Zd v120))),(102,.box (pvL (Zc (⟨0,([]:List Zb),([]:List Ze),0,0⟩:Ze)))),(103,.arr 5 (Zl v121))]) (O:=[]) kr (sound _ _) trivial (by decide) (Zj3 R48 IH48 k _ _ hz) (fun psl hpsl=>?_)
 obtain ⟨ps,rfl⟩:=ZQ hpsl
 exact ⟨rfl,[ps],kr,rfl⟩ }
 {
 obtain ⟨hc130,hF⟩:=Zn hF
 refine WA.rm (α:=(List (List PV))×(List (List PV))) (raw:=(((Zl v121) ++ ([(Zc y129.1)])),[(Zc y129.1)])) (can:=((Zl (v121 ++ ([y129.1]:List Ze))),(Zl ([y129.1]:List Ze)))) (fun m_=>([(0,.val false [.ptr 0 1 0 0]),(2,.val false [.ptr 102 1 0 0]),(3,.val false [.arr 103 (v122+1)])],[(0,.box (pvL (Zd y129.2))),(102,.box (pvL (Zc (⟨0,([]:List Zb),([]:List Ze),0,0⟩:Ze)))),(103,.arr 5 m_.1)],[Sim Tryz.prog GL0 98 [.val false [.ptr 0 1 0 0]] [.box (pvL (Zd v120))] (.val true (pvL (Zc y129.1))) [.box (pvL (Zd y129.2))],([0]:List Nat).Nodup,v122=(Zl v121).length,(Zl v121).length+m_.2.length≤1073741824,∀es,es∈m_.2→es.length=5])) (ZI zm zm) [0,2,3] [0,102,103] [(2,.call [0] (.val true (pvL (Zc y129.1))) [.box (pvL (Zd y129.2))] [])] kr (sound _ _) ⟨(Zj3 R48 IH48 k _ _ hy129),(by decide),zt,(by first | exact hc130 | (simp only [List.length_map,Zf];exact hc130)),(ZdW ([y129.1]:List Ze)),trivial⟩ ?_
 exact ⟨m2,Nat.lt_succ_self _,y129.2,(v121 ++ ([y129.1]:List Ze)),(v122+1),kr,kr,zt,by rw [hself2] at hF;exact hF⟩ } }
 {
 have hF:=Zh hF hb128
 refine WA.exit ?_
 refine WA.seq ?_
 refine WA.seq ?_
 refine WA.rm (α:=Int) (raw:=((v122:Nat):Int)) (can:=(v121.length:Int)) (fun m_=>([(2,.val false [.ptr 102 1 0 0]),(3,.val false [.arr 103 v122]),(31,one (.bool (m_ == 1)))],[(0,.box (pvL (Zd v120))),(102,.box (pvL (Zc (⟨0,([]:List Zb),([]:List Ze),0,0⟩:Ze)))),(103,.arr 5 (Zl v121))],[])) ((by first | (simp only [zl,Zf];done) | (simp only [zl,Zf];omega) | omega)) [2,3,31] [0,102,103] [] kr (sound _ _) trivial ?_
 refine WA.cond (b:=((v121.length:Int) == 1)) rfl (fun hb131=>?_) (fun hb131=>?_)
 {
 have hF:=Zi hF hb131
 refine WA.seq ?_
 obtain ⟨hc132,hF⟩:=Zn hF
 obtain ⟨y133,hy133,hF⟩:=bind_some hF
 refine WA.reg [2] [0,102] [(2,.cells (Zc y133))] (env':=[(2,.val false [.ptr 102 1 0 0])]) (os':=[(0,.box (pvL (Zd v120))),(102,.box (pvL (Zc y133)))]) (O:=[v122=(Zl v121).length,(0:Int)≤0,0<((v122:Nat):Int),v122=(Zl v121).length,(Zl v121)[Int.toNat 0]?=some (Zc y133)]) kr (sound _ _) ⟨zt,hc132.1,(by have h_:=hc132.2;(try simp only [zl,Zf] at h_ ⊢);omega),zt,(Zo (Z4 hy133)),trivial⟩ ?_
 refine WA.ret ?_
 obtain rfl:=Option.some.inj hF
 exact Zr (.val true (pvL (Zc y133))) [.box (pvL (Zd v120))] kr kr kr kr (by decide) rfl rfl }
 {
 have hF:=Zh hF hb131
 refine WA.skip ?_
 refine WA.seq ?_
 refine WA.freeze 103 3 (s:=5) (n:=v122) (els:=(Zl v121)) rfl rfl zt ?_
 refine WA.keep [2,3] [0,102] (env':=[(2,.val false [.ptr 102 1 0 0]),(3,one (.sl (Zl v121)))]) (os':=[(0,.box (pvL (Zd v120))),(102,.box (pvL (Zc (⟨0,([]:List Zb),([]:List Ze),0,0⟩:Ze))))]) kr kr ?_
 refine WA.reg [2] [0,102] [] (env':=[(2,.val false [.ptr 102 1 0 0])]) (os':=[(0,.box (pvL (Zd v120))),(102,.box (pvL (Zc (⟨2,([]:List Zb),v121,0,0⟩:Ze))))]) (O:=[]) kr (sound _ _) trivial ?_
 refine WA.ret ?_
 obtain rfl:=Option.some.inj hF
 exact Zr (.val true (pvL (Zc (⟨2,([]:List Zb),v121,0,0⟩:Ze)))) [.box (pvL (Zd v120))] kr kr kr kr (by decide) rfl rfl } } }
  {
 rcases Bool.eq_false_or_eq_true (decide (v120.f_at<(v120.f_s.length:Int))) with hb123 | hb123
 {
 have hF:=Zi hF hb123
 obtain ⟨y124,hy124,hF⟩:=bind_some hF
 rcases Bool.eq_false_or_eq_true (!y124) with hb125 | hb125
 {
 have hF:=Zi hF hb125
 obtain ⟨y126,hy126,hF⟩:=bind_some hF
 refine WA.regD kr [0,2,3,23] [0,102,103] [(10,.bool true),(12,.callR [0] (one (.bool y124))),(15,.bool true),(17,.callR [0] (one (.bool y126)))] (env':=[(0,.val false [.ptr 0 1 0 0]),(2,.val false [.ptr 102 1 0 0]),(3,.val false [.arr 103 v122]),(23,one (.bool (!y126)))]) (os':=[(0,.box (pvL (Zd v120))),(102,.box (pvL (Zc (⟨0,([]:List Zb),([]:List Ze),0,0⟩:Ze)))),(103,.arr 5 (Zl v121))]) (O:=[(decide (v120.f_at<(v120.f_s.length:Int)))=true,Sim Tryz.prog GL0 97 [.val false [.ptr 0 1 0 0],one (.str ([124]:List UInt8))] [.box (pvL (Zd v120))] (one (.bool y124)) [.box (pvL (Zd v120))],([0]:List Nat).Nodup,(!y124)=true,Sim Tryz.prog GL0 97 [.val false [.ptr 0 1 0 0],one (.str ([41]:List UInt8))] [.box (pvL (Zd v120))] (one (.bool y126)) [.box (pvL (Zd v120))],([0]:List Nat).Nodup]) kr kr (sound _ _) ⟨hb123,(Zcv k _ _ _ hy124),(by decide),hb125,(Zcv k _ _ _ hy126),(by decide),trivial⟩ ?_
 exact ⟨(!y126),kr,kr,hF⟩ }
 {
 have hF:=Zh hF hb125
 refine WA.regD kr [0,2,3,23] [0,102,103] [(10,.bool true),(12,.callR [0] (one (.bool y124))),(15,.bool false),(17,.callR [] (.tup []))] (env':=[(0,.val false [.ptr 0 1 0 0]),(2,.val false [.ptr 102 1 0 0]),(3,.val false [.arr 103 v122]),(23,one (.bool false))]) (os':=[(0,.box (pvL (Zd v120))),(102,.box (pvL (Zc (⟨0,([]:List Zb),([]:List Ze),0,0⟩:Ze)))),(103,.arr 5 (Zl v121))]) (O:=[(decide (v120.f_at<(v120.f_s.length:Int)))=true,Sim Tryz.prog GL0 97 [.val false [.ptr 0 1 0 0],one (.str ([124]:List UInt8))] [.box (pvL (Zd v120))] (one (.bool y124)) [.box (pvL (Zd v120))],([0]:List Nat).Nodup,(!y124)=false]) kr kr (sound _ _) ⟨hb123,(Zcv k _ _ _ hy124),(by decide),hb125,trivial⟩ ?_
 exact ⟨false,kr,kr,hF⟩ } }
 {
 have hF:=Zh hF hb123
 refine WA.regD kr [0,2,3,23] [0,102,103] [(10,.bool false),(12,.callR [] (.tup [])),(17,.callR [] (.tup []))] (env':=[(0,.val false [.ptr 0 1 0 0]),(2,.val false [.ptr 102 1 0 0]),(3,.val false [.arr 103 v122]),(23,one (.bool false))]) (os':=[(0,.box (pvL (Zd v120))),(102,.box (pvL (Zc (⟨0,([]:List Zb),([]:List Ze),0,0⟩:Ze)))),(103,.arr 5 (Zl v121))]) (O:=[(decide (v120.f_at<(v120.f_s.length:Int)))=false]) kr kr (sound _ _) ⟨hb123,trivial⟩ ?_
 exact ⟨false,kr,kr,hF⟩ } }
def ZjY (R48:Zg→Option (Option (Ze×Zg))) (k:Nat) (self0:Zg→(List Ze)→Option (Option (Ze×Zg))) (v113:Zg) (v114:List Ze):Option (Option (Ze×Zg)):=
  (F71 k v113 ([124]:List UInt8)).bind fun y116=>(cond y116.1 ((orP (F70 R48 k y116.2) fun y118=>if v114.length+([y118.1]:List Ze).length≤1073741824 then self0 y118.2 (v114 ++ ([y118.1]:List Ze)) else none)) (((cond ((v114.length:Int) == 1) (if (0:Int)≤0∧0<(v114.length:Int) then (idxL v114 0).bind fun y122=>(some (some (y122,y116.2))) else none) (((some (some ((⟨3,([]:List Zb),v114,0,0⟩:Ze),y116.2)))))))))
def ZfQ (R48:Zg→Option (Option (Ze×Zg))) (k:Nat):Nat→Zg→(List Ze)→Option (Option (Ze×Zg))
  | 0,_,_=>none
  | m_+1,v113,v114=>ZjY R48 k (ZfQ R48 k m_) v113 v114
def Zlt (R48:Zg→Option (Option (Ze×Zg))) (k:Nat) (v0:Zg):Option (Option (Ze×Zg)):=
  (orP (F70 R48 k v0) fun y101=>(ZfQ R48 k k y101.2 ([y101.1]:List Ze)))
theorem ZkO (R48:Zg→Option (Option (Ze×Zg))) (IH48:∀(v0:Zg) (r:Option (Ze×Zg)),R48 v0=some r→SimP Tryz.prog GL0 badV 48 [.val false [.ptr 0 1 0 0]] [.box (pvL (Zd v0))] (r.map fun r=>(.val true (pvL (Zc r.1)),[.box (pvL (Zd r.2))]))) (k:Nat) (v0:Zg) (r:Option (Ze×Zg)) (hF:Zlt R48 k v0=some r):SimP Tryz.prog GL0 badV 48 [.val false [.ptr 0 1 0 0]] [.box (pvL (Zd v0))] (r.map fun r=>(.val true (pvL (Zc r.1)),[.box (pvL (Zd r.2))])):=by
 refine Za1 [0] Tryz.func48 rfl kr kr ?_
 show WA _ _ 22 _ _ _
 refine WA.seq ?_
 refine WA.reg [0,2] [0,102] [(0,.obj 102)] (env':=[(0,.val false [.ptr 0 1 0 0]),(2,.val false [.ptr 102 1 0 0])]) (os':=[(0,.box (pvL (Zd v0))),(102,.box (pvL (Zc (⟨0,([]:List Zb),([]:List Ze),0,0⟩:Ze))))]) (O:=[]) kr (sound _ _) trivial ?_
 refine WA.seq ?_
 rcases Z3 hF with ⟨hz,hr⟩ | ⟨y101,hy101,hF⟩
 {
 subst hr
 refine WA.regP 1 [0] [] [] badV (f:=70) (args:=[.val false [.ptr 0 1 0 0]]) (os:=[.box (pvL (Zd v0))]) (env1:=[]) (os1:=[(0,.box (pvL (Zd v0))),(102,.box (pvL (Zc (⟨0,([]:List Zb),([]:List Ze),0,0⟩:Ze))))]) (O:=[]) kr (sound _ _) trivial (by decide) (ZfX R48 IH48 k _ _ hz) (fun psl hpsl=>?_)
 obtain ⟨ps,rfl⟩:=ZQ hpsl
 exact ⟨rfl,[ps],kr,rfl⟩ }
 {
 refine WA.rm (α:=(List (List PV))) (raw:=[(Zc y101.1)]) (can:=(Zl ([y101.1]:List Ze))) (fun m_=>([(0,.val false [.ptr 0 1 0 0]),(2,.val false [.ptr 102 1 0 0]),(3,.val false [.arr 106 1])],[(0,.box (pvL (Zd y101.2))),(102,.box (pvL (Zc (⟨0,([]:List Zb),([]:List Ze),0,0⟩:Ze)))),(106,.arr 5 m_)],[Sim Tryz.prog GL0 70 [.val false [.ptr 0 1 0 0]] [.box (pvL (Zd v0))] (.val true (pvL (Zc y101.1))) [.box (pvL (Zd y101.2))],([0]:List Nat).Nodup])) (zm) [0,2,3] [0,102,106] [(1,.call [0] (.val true (pvL (Zc y101.1))) [.box (pvL (Zd y101.2))] []),(2,.obj 106)] kr (sound _ _) ⟨(ZfX R48 IH48 k _ _ hy101),(by decide),trivial⟩ ?_
 refine WA.seq ?_
 refine WA.block ?_
 refine WA.loop (fun m s_=>∃(v113:Zg) (v114:List Ze) (v115:Nat),Zj s_.env [0,2,3]=[(0,.val false [.ptr 0 1 0 0]),(2,.val false [.ptr 102 1 0 0]),(3,.val false [.arr 106 v115])]∧Zj s_.os [0,102,106]=[(0,.box (pvL (Zd v113))),(102,.box (pvL (Zc (⟨0,([]:List Zb),([]:List Ze),0,0⟩:Ze)))),(106,.arr 5 (Zl v114))]∧v115=(v114:List _).length∧ZfQ R48 k m v113 v114=some r) k ⟨y101.2,([y101.1]:List Ze),1,kr,kr,zt,hF⟩ ?_
 clear hF
 rintro m0 s_ ⟨v113,v114,v115,he,ho,hn_v115,hF⟩
 refine WA.keep _ _ he ho ?_
 clear he ho
 cases m0 with
 | zero=>cases hF
 | succ m0=>
  obtain ⟨self0,hself0⟩:∃g,g=ZfQ R48 k m0:=⟨_,rfl⟩
  have hF:ZjY R48 k self0 v113 v114=some r:=by first | (rw [hself0];exact hF) | exact hF
  refine WA.seq ?_
  refine WA.seq ?_
  obtain ⟨y116,hy116,hF⟩:=bind_some hF
  refine WA.reg [0,2,3,8] [0,102,106] [(1,.call [0] (one (.bool y116.1)) [.box (pvL (Zd y116.2))] [])] (env':=[(0,.val false [.ptr 0 1 0 0]),(2,.val false [.ptr 102 1 0 0]),(3,.val false [.arr 106 v115]),(8,one (.bool y116.1))]) (os':=[(0,.box (pvL (Zd y116.2))),(102,.box (pvL (Zc (⟨0,([]:List Zb),([]:List Ze),0,0⟩:Ze)))),(106,.arr 5 (Zl v114))]) (O:=[Sim Tryz.prog GL0 71 [.val false [.ptr 0 1 0 0],one (.str ([124]:List UInt8))] [.box (pvL (Zd v113))] (one (.bool y116.1)) [.box (pvL (Zd y116.2))],([0]:List Nat).Nodup]) kr (sound _ _) ⟨(Zai k _ _ _ hy116),(by decide),trivial⟩ ?_
  refine WA.cond (b:=y116.1) rfl (fun hb117=>?_) (fun hb117=>?_)
  {
 have hF:=Zi hF hb117
 refine WA.skip ?_
 refine WA.block ?_
 rcases Z3 hF with ⟨hz,hr⟩ | ⟨y118,hy118,hF⟩
 {
 subst hr
 refine WA.regP 2 [0] [] [] badV (f:=70) (args:=[.val false [.ptr 0 1 0 0]]) (os:=[.box (pvL (Zd y116.2))]) (env1:=[]) (os1:=[(0,.box (pvL (Zd y116.2))),(102,.box (pvL (Zc (⟨0,([]:List Zb),([]:List Ze),0,0⟩:Ze)))),(106,.arr 5 (Zl v114))]) (O:=[]) kr (sound _ _) trivial (by decide) (ZfX R48 IH48 k _ _ hz) (fun psl hpsl=>?_)
 obtain ⟨ps,rfl⟩:=ZQ hpsl
 exact ⟨rfl,[ps],kr,rfl⟩ }
 {
 obtain ⟨hc119,hF⟩:=Zn hF
 refine WA.rm (α:=(List (List PV))×(List (List PV))) (raw:=(((Zl v114) ++ ([(Zc y118.1)])),[(Zc y118.1)])) (can:=((Zl (v114 ++ ([y118.1]:List Ze))),(Zl ([y118.1]:List Ze)))) (fun m_=>([(0,.val false [.ptr 0 1 0 0]),(2,.val false [.ptr 102 1 0 0]),(3,.val false [.arr 106 (v115+1)])],[(0,.box (pvL (Zd y118.2))),(102,.box (pvL (Zc (⟨0,([]:List Zb),([]:List Ze),0,0⟩:Ze)))),(106,.arr 5 m_.1)],[Sim Tryz.prog GL0 70 [.val false [.ptr 0 1 0 0]] [.box (pvL (Zd y116.2))] (.val true (pvL (Zc y118.1))) [.box (pvL (Zd y118.2))],([0]:List Nat).Nodup,v115=(Zl v114).length,(Zl v114).length+m_.2.length≤1073741824,∀es,es∈m_.2→es.length=5])) (ZI zm zm) [0,2,3] [0,102,106] [(2,.call [0] (.val true (pvL (Zc y118.1))) [.box (pvL (Zd y118.2))] [])] kr (sound _ _) ⟨(ZfX R48 IH48 k _ _ hy118),(by decide),zt,(by first | exact hc119 | (simp only [List.length_map,Zf];exact hc119)),(ZdW ([y118.1]:List Ze)),trivial⟩ ?_
 exact ⟨m0,Nat.lt_succ_self _,y118.2,(v114 ++ ([y118.1]:List Ze)),(v115+1),kr,kr,zt,by rw [hself0] at hF;exact hF⟩ } }
  {
 have hF:=Zh hF hb117
 refine WA.exit ?_
 refine WA.seq ?_
 refine WA.seq ?_
 refine WA.rm (α:=Int) (raw:=((v115:Nat):Int)) (can:=(v114.length:Int)) (fun m_=>([(2,.val false [.ptr 102 1 0 0]),(3,.val false [.arr 106 v115]),(16,one (.bool (m_ == 1)))],[(0,.box (pvL (Zd y116.2))),(102,.box (pvL (Zc (⟨0,([]:List Zb),([]:List Ze),0,0⟩:Ze)))),(106,.arr 5 (Zl v114))],[])) ((by first | (simp only [zl,Zf];done) | (simp only [zl,Zf];omega) | omega)) [2,3,16] [0,102,106] [] kr (sound _ _) trivial ?_
 refine WA.cond (b:=((v114.length:Int) == 1)) rfl (fun hb120=>?_) (fun hb120=>?_)
 {
 have hF:=Zi hF hb120
 refine WA.seq ?_
 obtain ⟨hc121,hF⟩:=Zn hF
 obtain ⟨y122,hy122,hF⟩:=bind_some hF
 refine WA.reg [2] [0,102] [(2,.cells (Zc y122))] (env':=[(2,.val false [.ptr 102 1 0 0])]) (os':=[(0,.box (pvL (Zd y116.2))),(102,.box (pvL (Zc y122)))]) (O:=[v115=(Zl v114).length,(0:Int)≤0,0<((v115:Nat):Int),v115=(Zl v114).length,(Zl v114)[Int.toNat 0]?=some (Zc y122)]) kr (sound _ _) ⟨zt,hc121.1,(by have h_:=hc121.2;(try simp only [zl,Zf] at h_ ⊢);omega),zt,(Zo (Z4 hy122)),trivial⟩ ?_
 refine WA.ret ?_
 obtain rfl:=Option.some.inj hF
 exact Zr (.val true (pvL (Zc y122))) [.box (pvL (Zd y116.2))] kr kr kr kr (by decide) rfl rfl }
 {
 have hF:=Zh hF hb120
 refine WA.skip ?_
 refine WA.seq ?_
 refine WA.freeze 106 3 (s:=5) (n:=v115) (els:=(Zl v114)) rfl rfl zt ?_
 refine WA.keep [2,3] [0,102] (env':=[(2,.val false [.ptr 102 1 0 0]),(3,one (.sl (Zl v114)))]) (os':=[(0,.box (pvL (Zd y116.2))),(102,.box (pvL (Zc (⟨0,([]:List Zb),([]:List Ze),0,0⟩:Ze))))]) kr kr ?_
 refine WA.reg [2] [0,102] [] (env':=[(2,.val false [.ptr 102 1 0 0])]) (os':=[(0,.box (pvL (Zd y116.2))),(102,.box (pvL (Zc (⟨3,([]:List Zb),v114,0,0⟩:Ze))))]) (O:=[]) kr (sound _ _) trivial ?_
 refine WA.ret ?_
 obtain rfl:=Option.some.inj hF
 exact Zr (.val true (pvL (Zc (⟨3,([]:List Zb),v114,0,0⟩:Ze)))) [.box (pvL (Zd y116.2))] kr kr kr kr (by decide) rfl rfl } } }
def F48:Nat→Zg→Option (Option (Ze×Zg))
  | 0,_=>none
  | k+1,v0=>Zlt (F48 k) k v0
theorem ZhS:∀(k:Nat),∀(v0:Zg) (r:Option (Ze×Zg)),F48 k v0=some r→SimP Tryz.prog GL0 badV 48 [.val false [.ptr 0 1 0 0]] [.box (pvL (Zd v0))] (r.map fun r=>(.val true (pvL (Zc r.1)),[.box (pvL (Zd r.2))]))
  | 0=>fun _ _ hF=>by cases hF
  | k+1=>fun v0 r hF=>ZkO (F48 k) (ZhS k) k v0 r hF
end Go.Proofs.YthilboheomikjaaGreatDoor
end
section
namespace Go.Proofs.YthilboheomikjaaGreatDoor
open Go.AL Go.RowKit
set_option maxRecDepth 100000
theorem Zjy (w:World):(Instr.typeAssert .nilIface 20 70 true).run Tryz.prog w = .ok (.tuple #[.agg #[],.bool false]) w:=by kernel_rfl
theorem Zjx (w:World):(Instr.typeAssert badV 20 70 true).run Tryz.prog w = .ok (.tuple #[.agg #[],.bool true]) w:=by kernel_rfl
theorem ZjB (p q:Addr) (w:World) :
    CallsD Tryz.prog 47 #[.pointer (some p),.pointer (some q)] .returning w fun e u' w'=>e = .returned (.tuple #[])∧u' = .returning∧w'=w.alloc (.cells #[] 70):=by
  refine callsD_of_wpS Tryz.func47 rfl fun c₀ cs hu=>?_
  apply wpS_seq
  apply wpS_region
  simp [wpOpsS,go_sem,recoverD,hu,Tryz.ntmps47,Exit.thenS,Zjy,Oper.upon,Act.put]
  apply wpS_seq
  apply wpS_region
  simp [wpOpsS,go_sem,Exit.thenS,Oper.upon,Act.put]
  refine wpS_cond (t:=false) (by simp [Act.eval,Array.replicate]) ?_
  simp only [Bool.false_eq_true,if_false]
  refine wpS_of_wp (wp_skip ?_)
  cases c₀
  simp_all [bodyPostS,results,Tryz.results47,Exit.thenS]
theorem Zke (p q:Addr) (w:World) (w1 w2:World) (h1:(Instr.storeAt 35 (.pointer (some p)) (.agg #[.int .i64 0,.slice none 0 0,.slice none 0 0,.int .i64 0,.int .i64 0])).run Tryz.prog (w.alloc (.cells #[] 70)) = .ok () w1)
    (h2:(Instr.storeAt 3 (.pointer (some q)) (.int .i64 3)).run Tryz.prog w1 = .ok () w2) :
    CallsD Tryz.prog 47 #[.pointer (some p),.pointer (some q)] (.panicking (ZcH badV)) w fun e u' w'=>e = .returned (.tuple #[])∧u' = .panicking [{ v:=badV,recovered:=true }]∧w'=w2:=by
  refine callsD_of_wpS Tryz.func47 rfl fun c₀ cs hu=>?_
  apply wpS_seq
  apply wpS_region
  have hb:badV = .iface 70 (.agg #[]):=rfl
  simp [wpOpsS,go_sem,recoverD,hu,Tryz.ntmps47,Exit.thenS,Zjx,Oper.upon,Act.put,ZcH]
  apply wpS_seq
  apply wpS_region
  simp [wpOpsS,go_sem,Exit.thenS,Oper.upon,Act.put]
  refine wpS_cond (t:=true) (by simp [Act.eval,Array.replicate]) ?_
  simp only [if_true]
  have hbld:∀W:World,(Instr.build 35 #[]).run Tryz.prog W = .ok (.agg #[.int .i64 0,.slice none 0 0,.slice none 0 0,.int .i64 0,.int .i64 0]) W:=fun W=>by kernel_rfl
  apply wpS_region
  simp [wpOpsS,execOp,Exit.thenS,Oper.upon,Act.put,hbld,Act.eval,h1,h2,Region.wanted,Array.replicate,show List.range 3=[0,1,2] from rfl]
  exact ⟨rfl,_,rfl,.tuple #[],by simp [results,Tryz.results47],rfl,rfl,rfl⟩
end Go.Proofs.YthilboheomikjaaGreatDoor
end
section
namespace Go.Proofs.YthilboheomikjaaGreatDoor
open Go.AL Go.RowKit
set_option maxRecDepth 100000
def zRe:Ze:=⟨0,[],[],0,0⟩
def Zjq (k:Nat) (s:List UInt8) (p:Ze) (r:Zg):Option (Ze×Int):=
  cond r.f_over (some (zRe,8)) ((F32 k p).bind fun n=>cond (decide (n > 200)) (some (zRe,8)) ((F50 k p).bind fun d=>cond (decide (d > 14)) (some (zRe,8)) (some (p,0))))
def Zjs (k:Nat) (s:List UInt8) (p:Ze) (r:Zg):Option (Ze×Int):=
  cond (decide (r.f_at<(s.length:Int))) (some (zRe,3)) ((F49 k s).bind fun b=>cond b (Zjq k s p r) (some (zRe,3)))
def Zjr (k:Nat) (s:List UInt8):Option (Ze×Int):=(F48 k ⟨s,0,false⟩).bind fun y=>match y with
  | none=>some (zRe,3)
  | some (p,r)=>Zjs k s p r
def F27 (k:Nat) (s:List UInt8):Option (Ze×Int):=cond (decide ((s.length:Int) > 400)) (some (zRe,8)) (Zjr k s)
def ptrs:List (Nat×AT):=[(2,.val false [.ptr 0 1 0 0]),(3,.val false [.ptr 1 1 0 0])]
def FR (res:Ze×Int):Exit→S→Prop
  | .ret,s=>Zj s.env [2,3]=ptrs∧Zj s.os [0,1]=[(0,.box (pvL (Zc res.1))),(1,.box (pvL [.int .i64 res.2]))]
  | .panic ch,s=>ch=ZcH badV∧res=(zRe,3)∧Zj s.env [2,3]=ptrs∧∃(p:Ze) (n:Int),Zj s.os [0,1]=[(0,.box (pvL (Zc p))),(1,.box (pvL [.int .i64 n]))]
  | _,_=>False
def ZcG:Option Code→Option Code
  | some (.seq _ (.seq _ (.seq _ c)))=>some c
  | _=>none
def ZmU:Option Code→Code
  | some (.seq _ (.seq _ (.seq (.seq _ (.cond _ c _)) _)))=>c
  | _=>.skip
def ZmV:Option Code→Code
  | some (.seq _ (.seq _ (.seq _ c)))=>c
  | _=>.skip
def ZmX:Option Code→Code
  | some (.seq _ (.seq _ (.seq _ (.seq (.seq _ (.cond _ c _)) _))))=>c
  | _=>.skip
def ZmE:Option Code→Code
  | some (.seq _ (.seq _ (.seq _ (.seq (.seq _ c) _))))=>c
  | _=>.skip
def Zlx:Option Code→Code
  | some (.seq _ (.seq _ (.seq _ (.seq _ c))))=>c
  | _=>.skip
theorem Zmi (k:Nat) (s:List UInt8) (res:Ze×Int) (hF:Zjr k s=some res) (c:Code) (hc:ZcG Tryz.f27.body=some c) :
    WA Tryz.prog GL0 45 c ⟨(0,one (.str s)) :: ptrs,[(0,.box (pvL (Zc zRe))),(1,.box (pvL [.int .i64 0]))]⟩ (FR res):=by
  cases hc
  refine WA.seq ?_
  refine WA.reg [0,2,3,4] [0,1,112] [(2,.obj 112)] (env':=(0,one (.str s)) :: ptrs ++ [(4,.val false [.ptr 112 1 0 0])]) (os':=[(0,.box (pvL (Zc zRe))),(1,.box (pvL [.int .i64 0])),(112,.box (pvL (Zd ⟨s,0,false⟩)))]) (O:=[]) (by kernel_rfl) (sound _ _) trivial ?_
  refine WA.seq ?_
  obtain ⟨y,hy,hF⟩:=bind_some hF
  cases y with
  | none=>
    obtain rfl:=Option.some.inj hF
    refine WA.regP 1 [112] [2,3] [] badV (f:=48) (args:=[.val false [.ptr 0 1 0 0]]) (os:=[.box (pvL (Zd ⟨s,0,false⟩))]) (env1:=ptrs) (os1:=[(0,.box (pvL (Zc zRe))),(1,.box (pvL [.int .i64 0])),(112,.box (pvL (Zd ⟨s,0,false⟩)))]) (O:=[]) (by kernel_rfl) (sound _ _) trivial (by decide) (ZhS k _ _ hy) (fun psl hpsl=>?_)
    obtain ⟨ps,rfl⟩:=ZQ hpsl
    exact ⟨rfl,rfl,by kernel_rfl,zRe,0,by kernel_rfl⟩
  | some y=>
    obtain ⟨p,r⟩:=y
    have hF:Zjs k s p r=some res:=hF
    refine WA.reg [0,2,3,4] [0,1,112] [(1,.call [112] (.val true (pvL (Zc p))) [.box (pvL (Zd r))] [])] (env':=(0,one (.str s)) :: ptrs ++ [(4,.val false [.ptr 112 1 0 0])]) (os':=[(0,.box (pvL (Zc p))),(1,.box (pvL [.int .i64 0])),(112,.box (pvL (Zd r)))]) (O:=[Sim Tryz.prog GL0 48 [.val false [.ptr 0 1 0 0]] [.box (pvL (Zd ⟨s,0,false⟩))] (.val true (pvL (Zc p))) [.box (pvL (Zd r))],([112]:List Nat).Nodup]) (by kernel_rfl) (sound _ _) ⟨ZhS k _ _ hy,by decide,trivial⟩ ?_
    refine WA.seq ?_
    refine WA.seq ?_
    have hbad:some (zRe,3)=some res→WA Tryz.prog GL0 45 (ZmU (ZcG Tryz.f27.body)) ⟨ptrs ++ [(4,.val false [.ptr 112 1 0 0])],[(0,.box (pvL (Zc p))),(1,.box (pvL [.int .i64 0])),(112,.box (pvL (Zd r)))]⟩ (FR res):=fun hF=>by
      obtain rfl:=Option.some.inj hF
      show WA Tryz.prog GL0 45 (.region 7 _ _) _ _
      refine WA.bad [2,3] (t:=70) (env1:=ptrs) (os1:=[(0,.box (pvL (Zc p))),(1,.box (pvL [.int .i64 0])),(112,.box (pvL (Zd r)))]) (O:=[]) (by kernel_rfl) (sound _ _) trivial ?_
      exact ⟨rfl,rfl,by kernel_rfl,p,0,by kernel_rfl⟩
    have hrest:Zjq k s p r=some res→WA Tryz.prog GL0 45 (ZmV (ZcG Tryz.f27.body)) ⟨ptrs ++ [(4,.val false [.ptr 112 1 0 0])],[(0,.box (pvL (Zc p))),(1,.box (pvL [.int .i64 0])),(112,.box (pvL (Zd r)))]⟩ (FR res):=fun hF=>by
      have hlim:some (zRe,8)=some res→WA Tryz.prog GL0 45 (ZmX (ZcG Tryz.f27.body)) ⟨ptrs,[(0,.box (pvL (Zc p))),(1,.box (pvL [.int .i64 0]))]⟩ (FR res):=fun hF=>by
        obtain rfl:=Option.some.inj hF
        show WA Tryz.prog GL0 45 (.seq (.region 9 _ _) .ret) _ _
        refine WA.seq ?_
        refine WA.reg [2,3] [0,1] [] (env':=ptrs) (os':=[(0,.box (pvL (Zc zRe))),(1,.box (pvL [.int .i64 8]))]) (O:=[]) (by kernel_rfl) (sound _ _) trivial ?_
        refine WA.ret ?_
        exact ⟨by kernel_rfl,by kernel_rfl⟩
      have hend:some (p,0)=some res→WA Tryz.prog GL0 45 (Zlx (ZcG Tryz.f27.body)) ⟨ptrs,[(0,.box (pvL (Zc p))),(1,.box (pvL [.int .i64 0]))]⟩ (FR res):=fun hF=>by
        obtain rfl:=Option.some.inj hF
        show WA Tryz.prog GL0 45 (.seq (.region 10 _ _) .ret) _ _
        refine WA.seq ?_
        refine WA.reg [2,3] [0,1] [] (env':=ptrs) (os':=[(0,.box (pvL (Zc p))),(1,.box (pvL [.int .i64 0]))]) (O:=[]) (by kernel_rfl) (sound _ _) trivial ?_
        refine WA.ret ?_
        exact ⟨by kernel_rfl,by kernel_rfl⟩
      have hB:∀b:Bool,(b=true→some (zRe,8)=some res)→(b=false→some (p,0)=some res)→WA Tryz.prog GL0 45 (ZmE (ZcG Tryz.f27.body)) ⟨ptrs ++ [(42,one (.bool b))],[(0,.box (pvL (Zc p))),(1,.box (pvL [.int .i64 0]))]⟩ (Then Tryz.prog GL0 45 (Zlx (ZcG Tryz.f27.body)) (FR res)):=fun b h1 h2=>by
        show WA Tryz.prog GL0 45 (.cond (.tmp 42) _ _) _ _
        refine WA.cond (b:=b) rfl (fun hb=>?_) (fun hb=>?_)
        · refine WA.keep [2,3] [0,1] (env':=ptrs) (os':=[(0,.box (pvL (Zc p))),(1,.box (pvL [.int .i64 0]))]) (by kernel_rfl) (by kernel_rfl) ?_
          exact (hlim (h1 hb)).mono fun e s h=>by cases e <;> first | exact h | exact h.elim
        · refine WA.skip ?_
          refine WA.keep [2,3] [0,1] (env':=ptrs) (os':=[(0,.box (pvL (Zc p))),(1,.box (pvL [.int .i64 0]))]) (by kernel_rfl) (by kernel_rfl) ?_
          exact hend (h2 hb)
      show WA Tryz.prog GL0 45 (.seq (.seq (.region 8 _ _) _) _) _ _
      refine WA.seq (WA.seq ?_)
      unfold Zjq at hF
      rcases Bool.eq_false_or_eq_true r.f_over with hb | hb
      · have hF:=Zi hF hb
        refine WA.reg [2,3,42] [0,1] [(4,.bool true)] (env':=ptrs ++ [(42,one (.bool true))]) (os':=[(0,.box (pvL (Zc p))),(1,.box (pvL [.int .i64 0]))]) (O:=[r.f_over=true]) (by kernel_rfl) (sound _ _) ⟨hb,trivial⟩ ?_
        exact hB true (fun _=>hF) (fun h=>by cases h)
      · have hF:=Zh hF hb
        obtain ⟨n,hn,hF⟩:=bind_some hF
        rcases Bool.eq_false_or_eq_true (decide (n > 200)) with hb2 | hb2
        · have hF:=Zi hF hb2
          refine WA.reg [2,3,42] [0,1] [(4,.bool false),(6,.callR [] (one (.int .i64 n))),(9,.bool true)] (env':=ptrs ++ [(42,one (.bool true))]) (os':=[(0,.box (pvL (Zc p))),(1,.box (pvL [.int .i64 0]))]) (O:=[r.f_over=false,Sim Tryz.prog GL0 32 [.val true (pvL (Zc p))] [] (one (.int .i64 n)) [],([]:List Nat).Nodup,decide (n > 200)=true]) (by kernel_rfl) (sound _ _) ⟨hb,ZfO k _ _ hn,by decide,hb2,trivial⟩ ?_
          exact hB true (fun _=>hF) (fun h=>by cases h)
        · have hF:=Zh hF hb2
          obtain ⟨d,hd,hF⟩:=bind_some hF
          refine WA.reg [2,3,42] [0,1] [(4,.bool false),(6,.callR [] (one (.int .i64 n))),(9,.bool false),(11,.callR [] (one (.int .i64 d)))] (env':=ptrs ++ [(42,one (.bool (decide (d > 14))))]) (os':=[(0,.box (pvL (Zc p))),(1,.box (pvL [.int .i64 0]))]) (O:=[r.f_over=false,Sim Tryz.prog GL0 32 [.val true (pvL (Zc p))] [] (one (.int .i64 n)) [],([]:List Nat).Nodup,decide (n > 200)=false,Sim Tryz.prog GL0 50 [.val true (pvL (Zc p))] [] (one (.int .i64 d)) [],([]:List Nat).Nodup]) (by kernel_rfl) (sound _ _) ⟨hb,ZfO k _ _ hn,by decide,hb2,Zj0 k _ _ hd,by decide,trivial⟩ ?_
          exact hB (decide (d > 14)) (fun h=>Zi hF h) (fun h=>Zh hF h)
    unfold Zjs at hF
    rcases Bool.eq_false_or_eq_true (decide (r.f_at<(s.length:Int))) with hb | hb
    · have hF:=Zi hF hb
      refine WA.reg [2,3,4,26] [0,1,112] [(7,.bool true)] (env':=ptrs ++ [(4,.val false [.ptr 112 1 0 0]),(26,one (.bool true))]) (os':=[(0,.box (pvL (Zc p))),(1,.box (pvL [.int .i64 0])),(112,.box (pvL (Zd r)))]) (O:=[decide (r.f_at<(s.length:Int))=true]) (by kernel_rfl) (sound _ _) ⟨hb,trivial⟩ ?_
      refine WA.cond (b:=true) rfl (fun _=>?_) (fun h=>by cases h)
      refine WA.keep [2,3,4] [0,1,112] (env':=ptrs ++ [(4,.val false [.ptr 112 1 0 0])]) (os':=[(0,.box (pvL (Zc p))),(1,.box (pvL [.int .i64 0])),(112,.box (pvL (Zd r)))]) (by kernel_rfl) (by kernel_rfl) ?_
      exact (hbad hF).mono fun e s h=>by cases e <;> first | exact h | exact h.elim
    · have hF:=Zh hF hb
      obtain ⟨y,hy,hF⟩:=bind_some hF
      refine WA.reg [2,3,4,26] [0,1,112] [(7,.bool false),(9,.callR [] (one (.bool y)))] (env':=ptrs ++ [(4,.val false [.ptr 112 1 0 0]),(26,one (.bool (!y)))]) (os':=[(0,.box (pvL (Zc p))),(1,.box (pvL [.int .i64 0])),(112,.box (pvL (Zd r)))]) (O:=[decide (r.f_at<(s.length:Int))=false,Sim Tryz.prog GL0 49 [one (.str s)] [] (one (.bool y)) [],([]:List Nat).Nodup]) (by kernel_rfl) (sound _ _) ⟨hb,ZfR k _ _ hy,by decide,trivial⟩ ?_
      refine WA.cond (b:=!y) rfl (fun hy'=>?_) (fun hy'=>?_)
      · have hF:=Zh hF (by simpa using hy')
        refine WA.keep [2,3,4] [0,1,112] (env':=ptrs ++ [(4,.val false [.ptr 112 1 0 0])]) (os':=[(0,.box (pvL (Zc p))),(1,.box (pvL [.int .i64 0])),(112,.box (pvL (Zd r)))]) (by kernel_rfl) (by kernel_rfl) ?_
        exact (hbad hF).mono fun e s h=>by cases e <;> first | exact h | exact h.elim
      · have hF:=Zi hF (by simpa using hy')
        refine WA.skip ?_
        refine WA.keep [2,3,4] [0,1,112] (env':=ptrs ++ [(4,.val false [.ptr 112 1 0 0])]) (os':=[(0,.box (pvL (Zc p))),(1,.box (pvL [.int .i64 0])),(112,.box (pvL (Zd r)))]) (by kernel_rfl) (by kernel_rfl) ?_
        exact hrest hF
end Go.Proofs.YthilboheomikjaaGreatDoor
end
section
namespace Go.Proofs.YthilboheomikjaaGreatDoor
open Go.AL
set_option maxRecDepth 100000
abbrev os27 (p:Ze) (n:Int):Objs:=[(0,.box (pvL (Zc p))),(1,.box (pvL [.int .i64 n]))]
abbrev ZaE (p:Ze) (n:Int):Objs:=[(102,.box (pvL (Zc p))),(103,.box (pvL [.int .i64 n]))]
def ZbJ:List (Nat×AT):=[(2,.val false [.ptr 102 1 0 0]),(3,.val false [.ptr 103 1 0 0])]
def G01 (G:Nat→Option Nat):Nat→Option Nat:=fun k=>([102,103][k]?).bind G
theorem ZgQ {w0 w:World} {I0 I:Nat→Prop} {G0 G:Nat→Option Nat} {os0:Objs} {D:List Deferred} {a:Act} {p:Ze} {n:Int} (h1:Ext w0 w I0 I (Mine G0 os0) (Mine G (os27 p n))) (hh:∀k,I0 k→w.heap[k]?=w0.heap[k]?)
    (h3:Sr GL0 w I G (os27 p n)) (h4:Fr D w I G (Go.AL.shape (os27 p n)) 45 a ptrs) :
    ∃v,(results Tryz.f27 a.tmps).run Tryz.prog w = .ok v w∧∃v' I' G',Ending.returned v = .returned v'∧Ext w0 w I0 I' (Mine G0 os0) (Mine G' (Zx []))∧Sr GL0 w I' G' (Zx [])∧
      ATr w I' G' (Go.AL.shape (Zx [])) (.tup [(true,pvL (Zc p)),(false,[.pv (.int .i64 n)])]) v'∧ZF (· < 0) w0 w I0 I' G0 G' (Go.AL.shape os0) (Go.AL.shape (Zx [])):=by
  obtain ⟨v,hv,hr⟩:=Zit (fn:=Tryz.f27) (st:=⟨ptrs,os27 p n⟩) (x:=.tup [(true,pvL (Zc p)),(false,[.pv (.int .i64 n)])]) h3 h4 (by kernel_rfl)
  obtain ⟨s1,k1⟩:=h3.sub (os':=Zx []) fun k o h=>by rw [ZD] at h;simp at h
  refine ⟨v,hv,v,I,G,rfl,⟨h1.size,h1.os,h1.tape,h1.output,h1.keep,h1.imm,h1.inew,fun k ⟨id,o,q1,q2⟩=>by rw [ZD] at q1;simp at q1⟩,s1,?_,⟨hh,h1.imm,fun id s m h=>absurd h (Nat.not_lt_zero _)⟩⟩
  exact hr.mono (R:=Zf0) (ZbX (fun _ _=>rfl) fun _ h=>h) ⟨⟨trivial,trivial,trivial,trivial,trivial,trivial⟩,⟨trivial,trivial⟩,trivial⟩
theorem to01 {D:List Deferred} {w:World} {I:Nat→Prop} {G:Nat→Option Nat} {a:Act} {p:Ze} {n:Int} (h3:Sr GL0 w I G (ZaE p n)) (h4:Fr D w I G (Go.AL.shape (ZaE p n)) 45 a ZbJ) :
    Sr GL0 w I (G01 G) (os27 p n)∧Fr D w I (G01 G) (Go.AL.shape (os27 p n)) 45 a ptrs∧∀k,Mine (G01 G) (os27 p n) k↔Mine G (ZaE p n) k:=by
  have hr:=h3.ren (st:=⟨[],ZaE p n⟩) (ids:=[102,103]) (os:=[.box (pvL (Zc p)),.box (pvL [.int .i64 n])]) ⟨_,rfl,rfl⟩ (by decide) rfl
  refine ⟨hr,⟨h4.size,h4.defers,fun t x hx=>?_⟩,fun k=>⟨fun ⟨id,o,q1,q2⟩=>?_,fun ⟨id,o,q1,q2⟩=>?_⟩⟩
  · simp only [ptrs,Zv] at hx
    split at hx
    · rename_i e;subst e;cases hx
      obtain ⟨q1,q2⟩:=h4.slot 2 _ rfl
      obtain ⟨r1,r2⟩:=Zy q2
      exact ⟨q1,_,rfl,r1,fun s m h=>r2 s m h⟩
    · split at hx
      · rename_i e;subst e;cases hx
        obtain ⟨q1,q2⟩:=h4.slot 3 _ rfl
        obtain ⟨r1,r2⟩:=Zy q2
        exact ⟨q1,_,rfl,r1,fun s m h=>r2 s m h⟩
      · cases hx
  · simp only [os27,Zv] at q1
    split at q1
    · rename_i e;subst e;exact ⟨102,_,rfl,q2⟩
    · split at q1
      · rename_i e;subst e;exact ⟨103,_,rfl,q2⟩
      · cases q1
  · simp only [ZaE,Zv] at q1
    split at q1
    · rename_i e;subst e;exact ⟨0,_,rfl,q2⟩
    · split at q1
      · rename_i e;subst e;exact ⟨1,_,rfl,q2⟩
      · cases q1
theorem Zhf {l:List (Nat×AT)} (hl:l=ptrs∨l=ZbJ) {s:List UInt8} {t:Nat} {x:AT} (h:Go.AL.look l t=some x):Go.AL.look ((0,one (.str s)) :: l) t=some x:=by
  rw [Zv]
  split
  · rename_i e;subst e;rcases hl with rfl | rfl <;> cases h
  · exact h
theorem Zm0 {D:List Deferred} {w:World} {I:Nat→Prop} {G:Nat→Option Nat} {a:Act} {p:Ze} {n:Int} {s:List UInt8} (h3:Sr GL0 w I G (ZaE p n)) (h4:Fr D w I G (Go.AL.shape (ZaE p n)) 45 a ((0,one (.str s)) :: ZbJ)) :
    Sr GL0 w I (G01 G) (os27 p n)∧Fr D w I (G01 G) (Go.AL.shape (os27 p n)) 45 a ((0,one (.str s)) :: ptrs)∧∀k,Mine (G01 G) (os27 p n) k↔Mine G (ZaE p n) k:=by
  obtain ⟨q1,q2,q3⟩:=to01 h3 ⟨h4.size,h4.defers,fun t x hx=>h4.slot t x (Zhf (.inr rfl) hx)⟩
  refine ⟨q1,⟨q2.size,q2.defers,fun t x hx=>?_⟩,q3⟩
  rw [Zv] at hx
  split at hx
  · rename_i e;subst e;cases hx
    obtain ⟨r1,r2⟩:=h4.slot 0 _ rfl
    exact ⟨r1,r2.mono (ZbX (fun _ _=>rfl) fun _ h=>h) ⟨trivial,trivial⟩⟩
  · exact q2.slot t x hx
theorem ZlC {D:List Deferred} {w:World} {I:Nat→Prop} {G:Nat→Option Nat} {a:Act} {p:Ze} {n:Int} (h3:Sr GL0 w I G (os27 p n)) (h4:Fr D w I G (Go.AL.shape (os27 p n)) 45 a ptrs) :
    ∃b c,G 0=some b∧G 1=some c∧a.tmps.getD 2 undef = .pointer (some ⟨b,0,none⟩)∧a.tmps.getD 3 undef = .pointer (some ⟨c,0,none⟩):=by
  obtain ⟨_,q2⟩:=h4.slot 2 _ rfl
  obtain ⟨_,q3⟩:=h4.slot 3 _ rfl
  have r2:=((Zy q2).2 _ _ rfl).2 rfl
  have r3:=((Zy q3).2 _ _ rfl).2 rfl
  cases hb:G 0 with
  | none=>have:=h3.none_ 0 _ rfl hb;simp [Obj.els] at this
  | some b=>
    cases hc:G 1 with
    | none=>have:=h3.none_ 1 _ rfl hc;simp [Obj.els] at this
    | some c=>exact ⟨b,c,rfl,rfl,r2 b hb,r3 c hc⟩
def ZmO:Option Code→Code
  | some (.seq a _)=>a
  | _=>.skip
def ZmI:Option Code→Code
  | some (.seq _ (.seq b _))=>b
  | _=>.skip
def ZlZ:Option Code→Code
  | some (.seq _ (.seq _ (.seq c _)))=>c
  | _=>.skip
def FA (s:List UInt8):Exit→S→Prop
  | .normal,st=>st=⟨(0,one (.str s)) :: ZbJ,ZaE zRe 0⟩
  | _,_=>False
def FB (k:Nat) (s:List UInt8) (res:Ze×Int):Exit→S→Prop
  | .normal,st=>st=⟨(0,one (.str s)) :: ZbJ,ZaE zRe 0⟩∧Zjr k s=some res
  | .ret,st=>st=⟨ZbJ,ZaE res.1 res.2⟩
  | _,_=>False
theorem Zmh (s:List UInt8):WA Tryz.prog GL0 45 (ZmO Tryz.f27.body) ⟨[(0,one (.str s))],[]⟩ (FA s):=by
  show WA Tryz.prog GL0 45 (.region 0 _ _) _ _
  exact WA.reg [0,2,3] [102,103] [(0,.obj 102),(1,.obj 103)] (env':=(0,one (.str s)) :: ZbJ) (os':=ZaE zRe 0) (O:=[]) (by kernel_rfl) (sound _ _) trivial rfl
theorem Zl8 (k:Nat) (s:List UInt8) (res:Ze×Int) (hF:F27 k s=some res) :
    WA Tryz.prog GL0 45 (ZmI Tryz.f27.body) ⟨(0,one (.str s)) :: ZbJ,ZaE zRe 0⟩ (FB k s res):=by
  show WA Tryz.prog GL0 45 (.seq _ (.cond (.tmp 7) _ _)) _ _
  refine WA.seq ?_
  refine WA.reg [0,2,3,7] [102,103] [] (env':=(0,one (.str s)) :: ZbJ ++ [(7,one (.bool (decide ((s.length:Int) > 400))))]) (os':=ZaE zRe 0) (O:=[]) (by kernel_rfl) (sound _ _) trivial ?_
  refine WA.cond (b:=decide ((s.length:Int) > 400)) rfl (fun hb=>?_) (fun hb=>?_)
  · have hF:=Zi hF hb
    obtain rfl:=Option.some.inj hF
    refine WA.seq ?_
    refine WA.reg [2,3] [102,103] [] (env':=ZbJ) (os':=ZaE zRe 8) (O:=[]) (by kernel_rfl) (sound _ _) trivial ?_
    refine WA.ret ?_
    rfl
  · have hF:=Zh hF hb
    refine WA.keep [0,2,3] [102,103] (env':=(0,one (.str s)) :: ZbJ) (os':=ZaE zRe 0) (by kernel_rfl) (by kernel_rfl) ?_
    refine WA.skip ?_
    exact ⟨rfl,hF⟩
def defd (x y:Value):Deferred:=⟨.fn (.func 47) #[x,y],#[]⟩
theorem Zk0 {a:Act} {w:World} {Q:Exit→Act→World→Prop} (ha:a.defers=[]) (h:Q .normal { tmps:=(a.tmps.setIfInBounds 9 (.func (.func 47) #[] #[a.tmps.getD 2 undef,a.tmps.getD 3 undef])),defers:=[defd (a.tmps.getD 2 undef) (a.tmps.getD 3 undef)] } w) (hs:a.tmps.size=45) :
    (ZlZ Tryz.f27.body).wp Tryz.prog Q a w:=by
  show (Code.region 3 _ _).wp _ _ _ _
  refine wp_region_list ?_
  obtain ⟨tm,df⟩:=a
  simp only at ha hs h;subst ha
  simp only [wpList,Region.wanted]
  refine .inl ?_
  simp only [Oper.wp,execOp]
  have e1:Sem.run Tryz.prog (do
        let x ←Instr.makeFunc (Fn.func 47) (Array.map (Act.eval { tmps:=tm,defers:=[] }) #[]) (Array.map (Act.eval { tmps:=tm,defers:=[] }) #[Operand.tmp 2,Operand.tmp 3])
        pure (Next.value x)) w = .ok (.value (.func (.func 47) #[] #[tm.getD 2 undef,tm.getD 3 undef])) w:=by simp [Instr.makeFunc,Act.eval]
  rw [e1,Oper.upon_value,if_pos trivial]
  refine .inl ?_
  have h9:(tm.setIfInBounds 9 (Value.func (Fn.func 47) #[] #[tm.getD 2 undef,tm.getD 3 undef])).getD 9 undef=Value.func (Fn.func 47) #[] #[tm.getD 2 undef,tm.getD 3 undef]:=by
    rw [Array.getD_eq_getD_getElem?,Array.getElem?_setIfInBounds];simp [hs]
  have e2:Sem.run Tryz.prog (do
        let x ←resolve (Act.eval { tmps:=tm.setIfInBounds 9 (Value.func (Fn.func 47) #[] #[tm.getD 2 undef,tm.getD 3 undef]),defers:=[] }) { callee:=Callee.value (Operand.tmp 9),args:=#[],argTypes:=#[] } 0
        pure (Next.defer x)) w = .ok (.defer (defd (tm.getD 2 undef) (tm.getD 3 undef))) w:=by
    simp only [resolve,Act.eval,h9,Deferred.ofValue]
    simp [defd]
  simp only [Act.put]
  rw [e2,Oper.upon_defer]
  exact h
theorem ZhO (k:Nat) (s:List UInt8) (res:Ze×Int) (hF:F27 k s=some res) :
    Sim Tryz.prog GL0 27 [one (.str s)] [] (.tup [(true,pvL (Zc res.1)),(false,[.pv (.int .i64 res.2)])]) []:=by
  intro w I G vs hs ha
  obtain ⟨v,_,rfl,hv,rfl⟩:=ha
  refine calls_of_wp_defers Tryz.func27 rfl ?_
  refine wp_seq (wp_mono (Zmh s [] w I G (Zx []) w I G _ (.refl _ _ _) (.refl _ _ _ _ _) hs ?_) ?_)
  · refine ⟨by simp [Tryz.ntmps27],rfl,fun t x hx=>?_⟩
    simp only [Zv] at hx
    split at hx
    · rename_i e;subst e;cases hx
      refine ⟨by omega,?_⟩
      rw [Array.getD_eq_getD_getElem?,Array.getElem?_append_left (by simp)]
      exact hv
    · cases hx
  rintro e a1 w1 ⟨I1,G1,s1,e1,k1,r1,f1,q1⟩
  cases e with
  | normal=>
    cases q1
    refine wp_seq (wp_mono (Zl8 k s res hF [] w I G (Zx []) w1 I1 G1 a1 e1 k1 r1 f1) ?_)
    rintro e a2 w2 ⟨I2,G2,s2,e2,k2,r2,f2,q2⟩
    cases e with
    | normal=>
      obtain ⟨rfl,hF2⟩:=q2
      obtain ⟨r3,f3,m3⟩:=Zm0 r2 f2
      obtain ⟨b,c,gb,gc,vb,vc⟩:=ZlC r3 ⟨f3.size,f3.defers,fun t x hx=>f3.slot t x (Zhf (.inl rfl) hx)⟩
      refine wp_seq (Zk0 f2.defers ?_ f2.size)
      rw [vb,vc]
      refine wp_mono (Zmi k s res hF2 _ rfl [defd (.pointer (some ⟨b,0,none⟩)) (.pointer (some ⟨c,0,none⟩))] w2 I2 (G01 G2) (os27 zRe 0) w2 I2 (G01 G2) _ (.refl _ _ _) (.refl _ _ _ _ _) r3 ⟨by simp [f3.size],rfl,fun t x hx=>?_⟩) ?_
      · obtain ⟨x1,x2⟩:=f3.slot t x hx
        have ht:t≠9:=fun e=>by subst e;cases hx
        refine ⟨x1,?_⟩
        rw [Array.getD_eq_getD_getElem?] at x2 ⊢
        rw [Array.getElem?_setIfInBounds,if_neg (fun e=>ht e.symm)];exact x2
      have gl:∀{w4 I4 G4} {p:Ze} {n:Int},Ext w2 w4 I2 I4 (Mine (G01 G2) (os27 zRe 0)) (Mine G4 (os27 p n))→
          Ext w w4 I I4 (Mine G (Zx [])) (Mine G4 (os27 p n)):=fun e4=>
        ⟨Nat.le_trans e2.size e4.size,e4.os.trans e2.os,e4.tape.trans e2.tape,e4.output.trans e2.output,fun k h h'=>by
            rw [e4.keep k (Nat.lt_of_lt_of_le h e2.size) (fun h2=>((e2.mnew k ((m3 k).1 h2)).elim h' (fun h3=>by omega))),e2.keep k h h'],
          fun k h=>e4.imm k (e2.imm k h),fun k h=>by
            rcases e4.inew k h with h | h | h
            · exact e2.inew k h
            · exact (e2.mnew k ((m3 k).1 h)).elim (fun h=>.inr (.inl h)) (fun h=>.inr (.inr h))
            · exact .inr (.inr (Nat.le_trans e2.size h)),
          fun k h=>(e4.mnew k h).elim (fun h=>(e2.mnew k ((m3 k).1 h)).elim .inl .inr) (fun h=>.inr (Nat.le_trans e2.size h))⟩
      rintro e a4 w4 ⟨I4,G4,⟨env4,os4⟩,e4,k4,r4,f4,q4⟩
      have sub:∀{p:Ze} {n:Int},Zj env4 [2,3]=ptrs→Zj os4 [0,1]=os27 p n→Sr GL0 w4 I4 G4 (os27 p n)∧Fr [defd (.pointer (some ⟨b,0,none⟩)) (.pointer (some ⟨c,0,none⟩))] w4 I4 G4 (Go.AL.shape (os27 p n)) 45 a4 ptrs∧
          Ext w2 w4 I2 I4 (Mine (G01 G2) (os27 zRe 0)) (Mine G4 (os27 p n))∧G4 0=some b∧G4 1=some c:=fun {p n} he ho=>by
        have hl:∀k o,Go.AL.look (os27 p n) k=some o→Go.AL.look os4 k=some o:=fun k o h=>by rw [←ho] at h;exact ZP h
        obtain ⟨r5,k5⟩:=r4.sub (os':=os27 p n) hl
        refine ⟨r5,⟨f4.size,f4.defers,fun t x hx=>?_⟩,⟨e4.size,e4.os,e4.tape,e4.output,e4.keep,e4.imm,e4.inew,fun k ⟨id,o,q1,q2⟩=>e4.mnew k ⟨id,o,hl id o q1,q2⟩⟩,?_,?_⟩
        · rw [←he] at hx
          obtain ⟨x1,x2⟩:=f4.slot t x (ZP hx)
          exact ⟨x1,x2.mono k5 (AT.refs_any x)⟩
        · obtain ⟨m0,j1,j2,j3⟩:=(k4.trans (k5.weaken fun _ _=>trivial)).objs 0 _ _ (by omega) rfl
          cases j1
          rw [(j3 rfl).1];exact gb
        · obtain ⟨m0,j1,j2,j3⟩:=(k4.trans (k5.weaken fun _ _=>trivial)).objs 1 _ _ (by omega) rfl
          cases j1
          rw [(j3 rfl).1];exact gc
      have inv:∀w,(Go.invoke (defd (.pointer (some ⟨b,0,none⟩)) (.pointer (some ⟨c,0,none⟩))).target #[]).run Tryz.prog w = .ok (.enter 47 #[.pointer (some ⟨b,0,none⟩),.pointer (some ⟨c,0,none⟩)]) w:=fun w=>by kernel_rfl
      have hh:∀k,I k→w4.heap[k]?=w.heap[k]?:=fun k hk=>by rw [k4.heap k (k2.imm k hk),k2.heap k hk]
      cases e with
      | ret=>
        obtain ⟨he,ho⟩:=q4
        obtain ⟨r5,f5,e5,g0,g1⟩:=sub he ho
        show Leaves _ _ _ _ a4.defers _ _
        rw [f5.defers]
        refine ⟨by simp,_,_,47,_,rfl,inv w4,fun c0 cs hm=>?_⟩
        obtain ⟨e',u',w',fr,⟨rfl,rfl,rfl⟩,hc⟩:=ZjB ⟨b,0,none⟩ ⟨c,0,none⟩ w4 c0 cs hm
        refine ⟨_,_,_,_,?_,hc⟩
        obtain ⟨p1,p2,p3⟩:=r5.imm (.cells #[] 70)
        exact ZgQ (gl (e5.trans p3)) (fun k hk=>by rw [p2.heap k (e4.imm k (e2.imm k hk)),hh k hk]) p1 ⟨f5.size,f5.defers,fun t x hx=>⟨(f5.slot t x hx).1,(f5.slot t x hx).2.mono p2 (AT.refs_any x)⟩⟩
      | panic ch=>
        obtain ⟨rfl,rfl,he,p,n,ho⟩:=q4
        obtain ⟨r5,f5,e5,g0,g1⟩:=sub he ho
        show Leaves _ _ _ _ a4.defers _ _
        rw [f5.defers]
        refine ⟨by simp,_,_,47,_,rfl,inv w4,fun c0 cs hm=>?_⟩
        obtain ⟨p1,p2,p3⟩:=r5.imm (.cells #[] 70)
        have f6:Fr _ _ _ G4 (Go.AL.shape (os27 p n)) 45 a4 ptrs:=⟨f5.size,f5.defers,fun t x hx=>⟨(f5.slot t x hx).1,(f5.slot t x hx).2.mono p2 (AT.refs_any x)⟩⟩
        obtain ⟨b',c',gb',gc',vb',vc'⟩:=ZlC p1 f6
        rw [g0] at gb';cases gb'
        rw [g1] at gc';cases gc'
        have hx0:=(f6.slot 2 _ rfl).2
        have hx1:=(f6.slot 3 _ rfl).2
        rw [vb'] at hx0;rw [vc'] at hx1
        obtain ⟨_,w6,G6,st6,x6,s6,mv6⟩:=ZfG (P:=Tryz.prog) (st:=⟨[],os27 p n⟩) (t:=35) (x:=.val false [.ptr 0 1 0 0]) (y:=.val true (pvL (Zc zRe))) (h:=none) (z:=.tup []) (os':=os27 zRe n) (O:=[]) (by kernel_rfl) trivial p1 hx0
          (v:=.agg #[.int .i64 0,.slice none 0 0,.slice none 0 0,.int .i64 0,.int .i64 0]) ⟨_,rfl,_,_,rfl,PVr.int _ _,_,_,rfl,PVr.sl0 _ _,_,_,rfl,PVr.sl0 _ _,_,_,rfl,PVr.int _ _,_,_,rfl,PVr.int _ _,rfl⟩
        have hx1':=hx1.mono mv6.keeps ⟨show (1:Nat)<100 by omega,trivial⟩
        obtain ⟨_,w7,G7,st7,x7,s7,mv7⟩:=ZfG (P:=Tryz.prog) (st:=⟨[],os27 zRe n⟩) (t:=3) (x:=.val false [.ptr 1 1 0 0]) (y:=one (.int .i64 3)) (h:=none) (z:=.tup []) (os':=os27 zRe 3) (O:=[]) (by kernel_rfl) trivial s6 hx1'
          (v:=.int .i64 3) ⟨_,rfl,PVr.int _ _⟩
        obtain ⟨e',u',w',fr,⟨rfl,rfl,rfl⟩,hc⟩:=Zke ⟨b,0,none⟩ ⟨c,0,none⟩ w4 w6 w7 st6 st7 c0 cs hm
        refine ⟨_,_,_,_,?_,hc⟩
        have k7:=mv6.keeps.trans mv7.keeps
        refine ZgQ (p:=zRe) (n:=3) (gl (e5.trans (p3.trans (x6.trans x7)))) (fun k hk=>?_) s7 ⟨f6.size,f6.defers,fun t x hx=>⟨(f6.slot t x hx).1,?_⟩⟩
        · have h4:=e4.imm k (e2.imm k hk)
          rw [k7.heap k (p2.imm k h4),p2.heap k h4,hh k hk]
        · refine (f6.slot t x hx).2.mono k7 ?_
          simp only [ptrs,Zv] at hx
          split at hx
          · cases hx;exact ⟨show (0:Nat)<100 by omega,trivial⟩
          · split at hx
            · cases hx;exact ⟨show (1:Nat)<100 by omega,trivial⟩
            · cases hx
      | _=>exact q4.elim
    | ret=>
      cases q2
      obtain ⟨r3,f3,m3⟩:=to01 r2 f2
      show Leaves _ _ _ _ a2.defers _ _
      rw [f2.defers]
      refine ZgQ ⟨e2.size,e2.os,e2.tape,e2.output,e2.keep,e2.imm,e2.inew,fun k h=>e2.mnew k ((m3 k).1 h)⟩ k2.heap r3 f3
    | _=>exact q2.elim
  | _=>exact q1.elim
end Go.Proofs.YthilboheomikjaaGreatDoor
end
section
namespace Go.Proofs.YthilboheomikjaaGreatDoor
open Go.AL
set_option maxRecDepth 100000
def ZaS (v122:Bool):Option Bool:=
  some v122
def F26 (k:Nat):Option Bool:=
  (F27 k ([97,123,50,125]:List UInt8)).bind fun y101=>(F27 k ([97,42,42]:List UInt8)).bind fun y102=>(F27 k ([97,123,50,49,125]:List UInt8)).bind fun y103=>(cond (y101.2 == 0) (cond (y101.1.f_Kind == 4) (cond (y101.1.f_Min == 2) (cond (y101.1.f_Max == 2) (cond (y102.2 == 3) (cond (y103.2 == 8) ((F31 k y101.1 ([97,97]:List UInt8)).bind fun y110=>cond y110 ((F31 k y101.1 ([97]:List UInt8)).bind fun y112=>cond (!y112) ((F34 k).bind fun y114=>(F31 k y114 ([120,195,169]:List UInt8)).bind fun y115=>cond y115 ((F33 k ([97,46,98]:List UInt8)).bind fun y117=>(F31 k y117 ([97,46,98]:List UInt8)).bind fun y118=>cond y118 ((F33 k ([97,46,98]:List UInt8)).bind fun y120=>(F31 k y120 ([97,120,98]:List UInt8)).bind fun y121=>(ZaS (!y121))) ((ZaS false))) ((ZaS false))) ((ZaS false))) ((ZaS false))) ((ZaS false))) ((ZaS false))) ((ZaS false))) ((ZaS false))) ((ZaS false))) ((ZaS false)))
theorem ZjV (k:Nat) (r:Bool) (hF:F26 k=some r):Sim Tryz.prog GL0 26 [] [] (one (.bool r)) []:=by
 refine ZB [] Tryz.func26 rfl kr kr ?_
 show WA _ _ 66 _ _ _
 refine WA.seq ?_
 refine WA.reg [] [] [] (env':=[]) (os':=[]) (O:=[]) kr (sound _ _) trivial ?_
 refine WA.seq ?_
 obtain ⟨y101,hy101,hF⟩:=bind_some hF
 refine WA.reg [1,2] [101] [(0,.callR [] (.tup [(true,pvL (Zc y101.1)),(false,[.pv (.int .i64 y101.2)])])),(4,.obj 101)] (env':=[(1,.val false [.ptr 101 1 0 0]),(2,one (.int .i64 y101.2))]) (os':=[(101,.box (pvL (Zc y101.1)))]) (O:=[Sim Tryz.prog GL0 27 [one (.str ([97,123,50,125]:List UInt8))] [] (.tup [(true,pvL (Zc y101.1)),(false,[.pv (.int .i64 y101.2)])]) [],([]:List Nat).Nodup]) kr (sound _ _) ⟨(ZhO k _ _ hy101),(by decide),trivial⟩ ?_
 refine WA.seq ?_
 obtain ⟨y102,hy102,hF⟩:=bind_some hF
 refine WA.reg [1,2,4] [101] [(0,.callR [] (.tup [(true,pvL (Zc y102.1)),(false,[.pv (.int .i64 y102.2)])])),(4,.obj 103)] (env':=[(1,.val false [.ptr 101 1 0 0]),(2,one (.int .i64 y101.2)),(4,one (.int .i64 y102.2))]) (os':=[(101,.box (pvL (Zc y101.1)))]) (O:=[Sim Tryz.prog GL0 27 [one (.str ([97,42,42]:List UInt8))] [] (.tup [(true,pvL (Zc y102.1)),(false,[.pv (.int .i64 y102.2)])]) [],([]:List Nat).Nodup]) kr (sound _ _) ⟨(ZhO k _ _ hy102),(by decide),trivial⟩ ?_
 refine WA.seq ?_
 obtain ⟨y103,hy103,hF⟩:=bind_some hF
 refine WA.reg [1,2,4,6] [101] [(0,.callR [] (.tup [(true,pvL (Zc y103.1)),(false,[.pv (.int .i64 y103.2)])])),(4,.obj 105)] (env':=[(1,.val false [.ptr 101 1 0 0]),(2,one (.int .i64 y101.2)),(4,one (.int .i64 y102.2)),(6,one (.int .i64 y103.2))]) (os':=[(101,.box (pvL (Zc y101.1)))]) (O:=[Sim Tryz.prog GL0 27 [one (.str ([97,123,50,49,125]:List UInt8))] [] (.tup [(true,pvL (Zc y103.1)),(false,[.pv (.int .i64 y103.2)])]) [],([]:List Nat).Nodup]) kr (sound _ _) ⟨(ZhO k _ _ hy103),(by decide),trivial⟩ ?_
 refine WA.join (fun s_=>∃(v122:Bool),Zj s_.env [0]=[(0,one (.bool v122))]∧Zj s_.os []=[]∧ZaS v122=some r) ?_ ?_
 {
 rintro s_ ⟨v122,he,ho,hF⟩
 refine WA.keep _ _ he ho ?_
 clear he ho
 refine WA.ret ?_
 obtain rfl:=Option.some.inj hF
 exact Zr (one (.bool v122)) [] kr kr kr kr (by decide) rfl rfl }
 {
 rcases Bool.eq_false_or_eq_true (y101.2 == 0) with hb104 | hb104
 {
 have hF:=Zi hF hb104
 rcases Bool.eq_false_or_eq_true (y101.1.f_Kind == 4) with hb105 | hb105
 {
 have hF:=Zi hF hb105
 rcases Bool.eq_false_or_eq_true (y101.1.f_Min == 2) with hb106 | hb106
 {
 have hF:=Zi hF hb106
 rcases Bool.eq_false_or_eq_true (y101.1.f_Max == 2) with hb107 | hb107
 {
 have hF:=Zi hF hb107
 rcases Bool.eq_false_or_eq_true (y102.2 == 3) with hb108 | hb108
 {
 have hF:=Zi hF hb108
 rcases Bool.eq_false_or_eq_true (y103.2 == 8) with hb109 | hb109
 {
 have hF:=Zi hF hb109
 obtain ⟨y110,hy110,hF⟩:=bind_some hF
 rcases Bool.eq_false_or_eq_true y110 with hb111 | hb111
 {
 have hF:=Zi hF hb111
 obtain ⟨y112,hy112,hF⟩:=bind_some hF
 rcases Bool.eq_false_or_eq_true (!y112) with hb113 | hb113
 {
 have hF:=Zi hF hb113
 obtain ⟨y114,hy114,hF⟩:=bind_some hF
 obtain ⟨y115,hy115,hF⟩:=bind_some hF
 rcases Bool.eq_false_or_eq_true y115 with hb116 | hb116
 {
 have hF:=Zi hF hb116
 obtain ⟨y117,hy117,hF⟩:=bind_some hF
 obtain ⟨y118,hy118,hF⟩:=bind_some hF
 rcases Bool.eq_false_or_eq_true y118 with hb119 | hb119
 {
 have hF:=Zi hF hb119
 obtain ⟨y120,hy120,hF⟩:=bind_some hF
 obtain ⟨y121,hy121,hF⟩:=bind_some hF
 refine WA.reg [0] [] [(2,.bool true),(7,.bool true),(12,.bool true),(17,.bool true),(21,.bool true),(25,.bool true),(27,.callR [] (one (.bool y110))),(29,.bool true),(31,.callR [] (one (.bool y112))),(34,.bool true),(35,.callR [] (.val true (pvL (Zc y114)))),(36,.callR [] (one (.bool y115))),(38,.bool true),(39,.callR [] (.val true (pvL (Zc y117)))),(40,.callR [] (one (.bool y118))),(42,.bool true),(43,.callR [] (.val true (pvL (Zc y120)))),(44,.callR [] (one (.bool y121)))] (env':=[(0,one (.bool (!y121)))]) (os':=[]) (O:=[(y101.2 == 0)=true,(y101.1.f_Kind == 4)=true,(y101.1.f_Min == 2)=true,(y101.1.f_Max == 2)=true,(y102.2 == 3)=true,(y103.2 == 8)=true,Sim Tryz.prog GL0 31 [.val true (pvL (Zc y101.1)),one (.str ([97,97]:List UInt8))] [] (one (.bool y110)) [],([]:List Nat).Nodup,y110=true,Sim Tryz.prog GL0 31 [.val true (pvL (Zc y101.1)),one (.str ([97]:List UInt8))] [] (one (.bool y112)) [],([]:List Nat).Nodup,(!y112)=true,Sim Tryz.prog GL0 34 [] [] (.val true (pvL (Zc y114))) [],([]:List Nat).Nodup,Sim Tryz.prog GL0 31 [.val true (pvL (Zc y114)),one (.str ([120,195,169]:List UInt8))] [] (one (.bool y115)) [],([]:List Nat).Nodup,y115=true,Sim Tryz.prog GL0 33 [one (.str ([97,46,98]:List UInt8))] [] (.val true (pvL (Zc y117))) [],([]:List Nat).Nodup,Sim Tryz.prog GL0 31 [.val true (pvL (Zc y117)),one (.str ([97,46,98]:List UInt8))] [] (one (.bool y118)) [],([]:List Nat).Nodup,y118=true,Sim Tryz.prog GL0 33 [one (.str ([97,46,98]:List UInt8))] [] (.val true (pvL (Zc y120))) [],([]:List Nat).Nodup,Sim Tryz.prog GL0 31 [.val true (pvL (Zc y120)),one (.str ([97,120,98]:List UInt8))] [] (one (.bool y121)) [],([]:List Nat).Nodup]) kr (sound _ _) ⟨hb104,hb105,hb106,hb107,hb108,hb109,(ZG k _ _ _ hy110),(by decide),hb111,(ZG k _ _ _ hy112),(by decide),hb113,(ZhR k _ hy114),(by decide),(ZG k _ _ _ hy115),(by decide),hb116,(ZhQ k _ _ hy117),(by decide),(ZG k _ _ _ hy118),(by decide),hb119,(ZhQ k _ _ hy120),(by decide),(ZG k _ _ _ hy121),(by decide),trivial⟩ ?_
 exact ⟨(!y121),kr,kr,hF⟩ }
 {
 have hF:=Zh hF hb119
 refine WA.reg [0] [] [(2,.bool true),(7,.bool true),(12,.bool true),(17,.bool true),(21,.bool true),(25,.bool true),(27,.callR [] (one (.bool y110))),(29,.bool true),(31,.callR [] (one (.bool y112))),(34,.bool true),(35,.callR [] (.val true (pvL (Zc y114)))),(36,.callR [] (one (.bool y115))),(38,.bool true),(39,.callR [] (.val true (pvL (Zc y117)))),(40,.callR [] (one (.bool y118))),(42,.bool false)] (env':=[(0,one (.bool false))]) (os':=[]) (O:=[(y101.2 == 0)=true,(y101.1.f_Kind == 4)=true,(y101.1.f_Min == 2)=true,(y101.1.f_Max == 2)=true,(y102.2 == 3)=true,(y103.2 == 8)=true,Sim Tryz.prog GL0 31 [.val true (pvL (Zc y101.1)),one (.str ([97,97]:List UInt8))] [] (one (.bool y110)) [],([]:List Nat).Nodup,y110=true,Sim Tryz.prog GL0 31 [.val true (pvL (Zc y101.1)),one (.str ([97]:List UInt8))] [] (one (.bool y112)) [],([]:List Nat).Nodup,(!y112)=true,Sim Tryz.prog GL0 34 [] [] (.val true (pvL (Zc y114))) [],([]:List Nat).Nodup,Sim Tryz.prog GL0 31 [.val true (pvL (Zc y114)),one (.str ([120,195,169]:List UInt8))] [] (one (.bool y115)) [],([]:List Nat).Nodup,y115=true,Sim Tryz.prog GL0 33 [one (.str ([97,46,98]:List UInt8))] [] (.val true (pvL (Zc y117))) [],([]:List Nat).Nodup,Sim Tryz.prog GL0 31 [.val true (pvL (Zc y117)),one (.str ([97,46,98]:List UInt8))] [] (one (.bool y118)) [],([]:List Nat).Nodup,y118=false]) kr (sound _ _) ⟨hb104,hb105,hb106,hb107,hb108,hb109,(ZG k _ _ _ hy110),(by decide),hb111,(ZG k _ _ _ hy112),(by decide),hb113,(ZhR k _ hy114),(by decide),(ZG k _ _ _ hy115),(by decide),hb116,(ZhQ k _ _ hy117),(by decide),(ZG k _ _ _ hy118),(by decide),hb119,trivial⟩ ?_
 exact ⟨false,kr,kr,hF⟩ } }
 {
 have hF:=Zh hF hb116
 refine WA.reg [0] [] [(2,.bool true),(7,.bool true),(12,.bool true),(17,.bool true),(21,.bool true),(25,.bool true),(27,.callR [] (one (.bool y110))),(29,.bool true),(31,.callR [] (one (.bool y112))),(34,.bool true),(35,.callR [] (.val true (pvL (Zc y114)))),(36,.callR [] (one (.bool y115))),(38,.bool false)] (env':=[(0,one (.bool false))]) (os':=[]) (O:=[(y101.2 == 0)=true,(y101.1.f_Kind == 4)=true,(y101.1.f_Min == 2)=true,(y101.1.f_Max == 2)=true,(y102.2 == 3)=true,(y103.2 == 8)=true,Sim Tryz.prog GL0 31 [.val true (pvL (Zc y101.1)),one (.str ([97,97]:List UInt8))] [] (one (.bool y110)) [],([]:List Nat).Nodup,y110=true,Sim Tryz.prog GL0 31 [.val true (pvL (Zc y101.1)),one (.str ([97]:List UInt8))] [] (one (.bool y112)) [],([]:List Nat).Nodup,(!y112)=true,Sim Tryz.prog GL0 34 [] [] (.val true (pvL (Zc y114))) [],([]:List Nat).Nodup,Sim Tryz.prog GL0 31 [.val true (pvL (Zc y114)),one (.str ([120,195,169]:List UInt8))] [] (one (.bool y115)) [],([]:List Nat).Nodup,y115=false]) kr (sound _ _) ⟨hb104,hb105,hb106,hb107,hb108,hb109,(ZG k _ _ _ hy110),(by decide),hb111,(ZG k _ _ _ hy112),(by decide),hb113,(ZhR k _ hy114),(by decide),(ZG k _ _ _ hy115),(by decide),hb116,trivial⟩ ?_
 exact ⟨false,kr,kr,hF⟩ } }
 {
 have hF:=Zh hF hb113
 refine WA.reg [0] [] [(2,.bool true),(7,.bool true),(12,.bool true),(17,.bool true),(21,.bool true),(25,.bool true),(27,.callR [] (one (.bool y110))),(29,.bool true),(31,.callR [] (one (.bool y112))),(34,.bool false)] (env':=[(0,one (.bool false))]) (os':=[]) (O:=[(y101.2 == 0)=true,(y101.1.f_Kind == 4)=true,(y101.1.f_Min == 2)=true,(y101.1.f_Max == 2)=true,(y102.2 == 3)=true,(y103.2 == 8)=true,Sim Tryz.prog GL0 31 [.val true (pvL (Zc y101.1)),one (.str ([97,97]:List UInt8))] [] (one (.bool y110)) [],([]:List Nat).Nodup,y110=true,Sim Tryz.prog GL0 31 [.val true (pvL (Zc y101.1)),one (.str ([97]:List UInt8))] [] (one (.bool y112)) [],([]:List Nat).Nodup,(!y112)=false]) kr (sound _ _) ⟨hb104,hb105,hb106,hb107,hb108,hb109,(ZG k _ _ _ hy110),(by decide),hb111,(ZG k _ _ _ hy112),(by decide),hb113,trivial⟩ ?_
 exact ⟨false,kr,kr,hF⟩ } }
 {
 have hF:=Zh hF hb111
 refine WA.reg [0] [] [(2,.bool true),(7,.bool true),(12,.bool true),(17,.bool true),(21,.bool true),(25,.bool true),(27,.callR [] (one (.bool y110))),(29,.bool false)] (env':=[(0,one (.bool false))]) (os':=[]) (O:=[(y101.2 == 0)=true,(y101.1.f_Kind == 4)=true,(y101.1.f_Min == 2)=true,(y101.1.f_Max == 2)=true,(y102.2 == 3)=true,(y103.2 == 8)=true,Sim Tryz.prog GL0 31 [.val true (pvL (Zc y101.1)),one (.str ([97,97]:List UInt8))] [] (one (.bool y110)) [],([]:List Nat).Nodup,y110=false]) kr (sound _ _) ⟨hb104,hb105,hb106,hb107,hb108,hb109,(ZG k _ _ _ hy110),(by decide),hb111,trivial⟩ ?_
 exact ⟨false,kr,kr,hF⟩ } }
 {
 have hF:=Zh hF hb109
 refine WA.reg [0] [] [(2,.bool true),(7,.bool true),(12,.bool true),(17,.bool true),(21,.bool true),(25,.bool false)] (env':=[(0,one (.bool false))]) (os':=[]) (O:=[(y101.2 == 0)=true,(y101.1.f_Kind == 4)=true,(y101.1.f_Min == 2)=true,(y101.1.f_Max == 2)=true,(y102.2 == 3)=true,(y103.2 == 8)=false]) kr (sound _ _) ⟨hb104,hb105,hb106,hb107,hb108,hb109,trivial⟩ ?_
 exact ⟨false,kr,kr,hF⟩ } }
 {
 have hF:=Zh hF hb108
 refine WA.reg [0] [] [(2,.bool true),(7,.bool true),(12,.bool true),(17,.bool true),(21,.bool false)] (env':=[(0,one (.bool false))]) (os':=[]) (O:=[(y101.2 == 0)=true,(y101.1.f_Kind == 4)=true,(y101.1.f_Min == 2)=true,(y101.1.f_Max == 2)=true,(y102.2 == 3)=false]) kr (sound _ _) ⟨hb104,hb105,hb106,hb107,hb108,trivial⟩ ?_
 exact ⟨false,kr,kr,hF⟩ } }
 {
 have hF:=Zh hF hb107
 refine WA.reg [0] [] [(2,.bool true),(7,.bool true),(12,.bool true),(17,.bool false)] (env':=[(0,one (.bool false))]) (os':=[]) (O:=[(y101.2 == 0)=true,(y101.1.f_Kind == 4)=true,(y101.1.f_Min == 2)=true,(y101.1.f_Max == 2)=false]) kr (sound _ _) ⟨hb104,hb105,hb106,hb107,trivial⟩ ?_
 exact ⟨false,kr,kr,hF⟩ } }
 {
 have hF:=Zh hF hb106
 refine WA.reg [0] [] [(2,.bool true),(7,.bool true),(12,.bool false)] (env':=[(0,one (.bool false))]) (os':=[]) (O:=[(y101.2 == 0)=true,(y101.1.f_Kind == 4)=true,(y101.1.f_Min == 2)=false]) kr (sound _ _) ⟨hb104,hb105,hb106,trivial⟩ ?_
 exact ⟨false,kr,kr,hF⟩ } }
 {
 have hF:=Zh hF hb105
 refine WA.reg [0] [] [(2,.bool true),(7,.bool false)] (env':=[(0,one (.bool false))]) (os':=[]) (O:=[(y101.2 == 0)=true,(y101.1.f_Kind == 4)=false]) kr (sound _ _) ⟨hb104,hb105,trivial⟩ ?_
 exact ⟨false,kr,kr,hF⟩ } }
 {
 have hF:=Zh hF hb104
 refine WA.reg [0] [] [(2,.bool false)] (env':=[(0,one (.bool false))]) (os':=[]) (O:=[(y101.2 == 0)=false]) kr (sound _ _) ⟨hb104,trivial⟩ ?_
 exact ⟨false,kr,kr,hF⟩ } }
end Go.Proofs.YthilboheomikjaaGreatDoor
end
section
namespace Go.Proofs.YthilboheomikjaaGreatDoor
open Go.AL Go.Lib
set_option maxRecDepth 100000
theorem Zji:∀(n:Nat) (s:List UInt8),s.length≤n→(pts s).length≤s.length∧(s≠[]→0<(pts s).length)
  | n,s,hn=>by
    by_cases e:s=[]
    · subst e;exact ⟨Nat.le_refl _,fun h=>absurd rfl h⟩
    · have hl:0<s.length:=List.length_pos_iff.2 e
      have hw:=decodeL_width s
      have hle:=decodeL_le s e
      obtain ⟨n,rfl⟩:∃q,n=q+1:=⟨n-1,by omega⟩
      have ih:=Zji n (s.drop (decodeL s).2) (by rw [List.length_drop];omega)
      rw [Zd6 e]
      simp only [List.length_cons]
      have:=ih.1
      rw [List.length_drop] at this
      exact ⟨by omega,fun _=>by omega⟩
end Go.Proofs.YthilboheomikjaaGreatDoor
namespace Go.Proofs.YthilboheomikjaaGreatDoor.Pure
open Go.AL
end Go.Proofs.YthilboheomikjaaGreatDoor.Pure
end
section
namespace Go.Proofs.YthilboheomikjaaGreatDoor
open Go.AL Go.Lib
set_option maxRecDepth 100000
def span (cs:List Int) (i j:Nat):List Int:=(cs.drop i).take (j-i)
theorem ZiB {cs:List Int} {i j:Nat} (h:i≤j) (hj:j≤cs.length):(span cs i j).length=j-i:=by
  unfold span;rw [List.length_take,List.length_drop];omega
theorem Zgo {cs:List Int} {i j:Nat} {u v:List Int} (h:i≤j) (hj:j≤cs.length):span cs i j=u ++ v↔∃m,i≤m∧m≤j∧u=span cs i m∧v=span cs m j:=by
  constructor
  · intro e
    have hl:=ZiB h hj
    rw [e,List.length_append] at hl
    refine ⟨i+u.length,by omega,by omega,?_,?_⟩
    · have h2:(span cs i j).take u.length=span cs i (i+u.length):=by
        unfold span
        rw [List.take_take]
        congr 1
        omega
      rw [←h2,e]
      simp
    · have:(span cs i j).drop u.length=v:=by rw [e];simp
      rw [←this]
      unfold span
      rw [List.drop_take,List.drop_drop]
      congr 1
      omega
  · rintro ⟨m,h1,h2,rfl,rfl⟩
    unfold span
    have e1:cs.drop m=(cs.drop i).drop (m-i):=by rw [List.drop_drop];congr 1;omega
    rw [e1,←List.take_append_drop (m-i) ((cs.drop i).take (j-i)),List.take_take,List.drop_take]
    congr 2
    · omega
    · omega
def Rl (P:List Int→Prop) (cs:List Int) (i j:Nat):Prop:=i≤j∧j≤cs.length∧P (span cs i j)
theorem Zj7 {P Q:List Int→Prop} {cs:List Int} {i j:Nat}:Rl (Cat P Q) cs i j↔∃m,Rl P cs i m∧Rl Q cs m j:=by
  constructor
  · rintro ⟨h1,h2,u,v,e,hu,hv⟩
    obtain ⟨m,m1,m2,rfl,rfl⟩:=(Zgo h1 h2).1 e
    exact ⟨m,⟨m1,by omega,hu⟩,m2,h2,hv⟩
  · rintro ⟨m,⟨h1,h2,h3⟩,h4,h5,h6⟩
    exact ⟨by omega,h5,_,_,(Zgo (by omega) h5).2 ⟨m,h1,h4,rfl,rfl⟩,h3,h6⟩
theorem Zj8 {cs:List Int} {i j:Nat}:Rl (fun w=>w=[]) cs i j↔i=j∧j≤cs.length:=by
  constructor
  · rintro ⟨h1,h2,h3⟩
    have:=ZiB h1 h2
    rw [h3] at this
    simp at this
    omega
  · rintro ⟨rfl,h⟩
    exact ⟨Nat.le_refl _,h,by simp [span]⟩
theorem ZhX {P Q:List Int→Prop} (h:∀w,P w↔Q w) {cs:List Int} {i j:Nat}:Rl P cs i j↔Rl Q cs i j:=by unfold Rl;rw [h]
def Ends (P:List Int→Prop) (cs:List Int) (f o:List Bool):Prop:=o.length=cs.length+1∧∀j,Sn o j↔∃i,Sn f i∧Rl P cs i j
theorem Ends.congr {P Q:List Int→Prop} {cs:List Int} {f o:List Bool} (h:Ends P cs f o) (e:∀w,P w↔Q w):Ends Q cs f o:=
  ⟨h.1,fun j=>(h.2 j).trans ⟨fun ⟨i,a,b⟩=>⟨i,a,(ZhX e).1 b⟩,fun ⟨i,a,b⟩=>⟨i,a,(ZhX e).2 b⟩⟩⟩
theorem Ends.comp {P Q:List Int→Prop} {cs:List Int} {f g o:List Bool} (h:Ends P cs f g) (h2:Ends Q cs g o):Ends (Cat P Q) cs f o:=
  ⟨h2.1,fun j=>by
    rw [h2.2]
    constructor
    · rintro ⟨m,a,b⟩
      obtain ⟨i,c,d⟩:=(h.2 m).1 a
      exact ⟨i,c,Zj7.2 ⟨m,d,b⟩⟩
    · rintro ⟨i,c,d⟩
      obtain ⟨m,e1,e2⟩:=Zj7.1 d
      exact ⟨m,(h.2 m).2 ⟨i,c,e1⟩,e2⟩⟩
theorem ZmZ {s:List Bool} {j:Nat} (h:Sn s j):j<s.length:=(List.getElem?_eq_some_iff.1 h).1
theorem Ends.eps {cs:List Int} {f:List Bool} (h:f.length=cs.length+1):Ends (fun w=>w=[]) cs f f:=
  ⟨h,fun j=>⟨fun hj=>⟨j,hj,Zj8.2 ⟨rfl,by have:=ZmZ hj;omega⟩⟩,fun ⟨i,a,b⟩=>by rw [←(Zj8.1 b).1];exact a⟩⟩
theorem Zfa {P:List Int→Prop} (w:List Int):Pow P 1 w↔P w:=by
  constructor
  · rintro ⟨u,v,rfl,h,h2⟩
    have h2:v=[]:=h2
    rw [h2,List.append_nil];exact h
  · exact fun h=>⟨w,[],by simp,h,rfl⟩
end Go.Proofs.YthilboheomikjaaGreatDoor
end
section
namespace Go.Proofs.YthilboheomikjaaGreatDoor
open Go.AL Go.Lib
set_option maxRecDepth 100000
theorem ZhL {a b c:Int}:mn a b≤c↔a≤c∨b≤c:=by unfold mn;split <;> omega
mutual
theorem ZlE:∀r:Ze,OK r→sz r≤200→fs r≤4000→WF r∧(cnt r:Int)≤2*sz r-1
  | ⟨kd,st,l,a,b⟩,ho,hs,hf=>by
    simp only [OK] at ho
    simp only [fs] at hf
    obtain ⟨h0,hl⟩:=ho
    have hL:=Zcp l
    rcases h0 with ⟨rfl,_,h3,_⟩ | ⟨rfl,_,h3,_⟩ | ⟨rfl,_,h3,_⟩ | ⟨rfl,h3,_,h5,h6,h7,h8⟩
    · obtain rfl:l=[]:=h3
      refine ⟨⟨⟨.inl rfl,fun h=>absurd h (by show ¬(1:Int)=4;omega),by show st.length≤_;omega,by simp⟩,trivial⟩,?_⟩
      simp [cnt,sz]
    · have e:sz ⟨2,st,l,a,b⟩=mn (szL l+1) 1000:=by simp [sz]
      rw [e] at hs ⊢
      have e2:mn (szL l+1) 1000=szL l+1:=mn_l (by rw [ZhL] at hs;omega)
      rw [e2] at hs ⊢
      obtain ⟨h9,h10⟩:=ZeS l hl (by omega) (by omega)
      refine ⟨⟨⟨.inr (.inl rfl),fun h=>absurd h (by show ¬(2:Int)=4;omega),by show st.length≤_;omega,by have:=Zg1 l;show l.length≤_;omega⟩,h9⟩,?_⟩
      simp only [cnt,if_neg (show ¬(2:Int)=1 by omega),if_true]
      omega
    · have e:sz ⟨3,st,l,a,b⟩=mn (szL l+1) 1000:=by simp [sz]
      rw [e] at hs ⊢
      have e2:mn (szL l+1) 1000=szL l+1:=mn_l (by rw [ZhL] at hs;omega)
      rw [e2] at hs ⊢
      obtain ⟨h9,h10⟩:=ZeS l hl (by omega) (by omega)
      refine ⟨⟨⟨.inr (.inr (.inl rfl)),fun h=>absurd h (by show ¬(3:Int)=4;omega),by show st.length≤_;omega,by have:=Zg1 l;show l.length≤_;omega⟩,h9⟩,?_⟩
      simp only [cnt,if_neg (show ¬(3:Int)=1 by omega),if_neg (show ¬(3:Int)=2 by omega),if_true]
      have:1<l.length:=h3
      omega
    · simp only at h3 h5 h6 h7 h8
      obtain ⟨x,rfl⟩:=List.length_eq_one_iff.1 h3
      have e:sz ⟨4,st,[x],a,b⟩=mn (sz x*mn (mx (if b<0 then w64 (a+1) else b) 1) 1000+1) 1000:=by simp [sz,szH]
      have hx:=ZcF x
      have eq:mn (mx (if b<0 then w64 (a+1) else b) 1) 1000=if b<0 then a+1 else if b<1 then 1 else b:=by
        rw [Zu (x:=a+1) (by omega) (by omega)]
        by_cases hb:b<0
        · rw [if_pos hb,if_pos hb,mx_l (by omega),mn_l (by omega)]
        · rw [if_neg hb,if_neg hb]
          by_cases hb1:b<1
          · rw [if_pos hb1,mx_r (by omega),mn_l (by omega)]
          · rw [if_neg hb1,mx_l (by omega),mn_l (by omega)]
      rw [eq] at e
      obtain ⟨n,rfl⟩:∃n:Nat,a=(n:Int):=⟨a.toNat,by omega⟩
      obtain ⟨s,hsz⟩:∃s:Nat,sz x=(s:Int):=⟨(sz x).toNat,by omega⟩
      rw [hsz] at e hx
      have hcx:∀q:Nat,cntL [x]=q→q=cnt x:=fun q hq=>by simp [cntL] at hq;omega
      by_cases hb:b<0
      · rw [if_pos hb] at e
        have e1:(s:Int)*((n:Int)+1)=((s*(n+1):Nat):Int):=by simp
        rw [e1] at e
        have e2:mn (((s*(n+1):Nat):Int)+1) 1000=((s*(n+1):Nat):Int)+1:=mn_l (by rw [e,ZhL] at hs;omega)
        rw [e2] at e
        rw [e] at hs ⊢
        have hsl:s≤s*(n+1):=Nat.le_mul_of_pos_right s (by omega)
        obtain ⟨h9,h10⟩:=ZeS [x] hl (by simp [szL];omega) (by simp only [fsL] at hf ⊢;omega)
        refine ⟨⟨⟨.inr (.inr (.inr rfl)),fun _=>⟨rfl,by simp only;omega,h6,h7,h8⟩,by show st.length≤_;omega,by simp⟩,h9⟩,?_⟩
        simp only [cnt,if_neg (show ¬(4:Int)=1 by omega),if_neg (show ¬(4:Int)=2 by omega),if_neg (show ¬(4:Int)=3 by omega),if_pos hb,Int.toNat_natCast]
        have hc:cntL [x]+1≤2*s:=by simp [szL,hsz] at h10;omega
        have hm:(n+1)*(cntL [x]+1)≤(n+1)*(2*s):=Nat.mul_le_mul_left _ hc
        rw [Nat.mul_add,Nat.mul_one] at hm
        have e3:(n+1)*(2*s)=2*(s*(n+1)):=by rw [Nat.mul_comm s,Nat.mul_left_comm]
        omega
      · rw [if_neg hb] at e
        obtain ⟨m,rfl⟩:∃m:Nat,b=(m:Int):=⟨b.toNat,by omega⟩
        have e1:(s:Int)*(if (m:Int)<1 then 1 else (m:Int))=((s*(if m<1 then 1 else m):Nat):Int):=by
          by_cases hm:m<1
          · rw [if_pos hm,if_pos (by omega)];simp
          · rw [if_neg hm,if_neg (by omega)];simp
        rw [e1] at e
        have e2:mn (((s*(if m<1 then 1 else m):Nat):Int)+1) 1000=((s*(if m<1 then 1 else m):Nat):Int)+1:=mn_l (by rw [e,ZhL] at hs;omega)
        rw [e2] at e
        rw [e] at hs ⊢
        have hsl:s≤s*(if m<1 then 1 else m):=Nat.le_mul_of_pos_right s (by split <;> omega)
        have hml:s*m≤s*(if m<1 then 1 else m):=Nat.mul_le_mul_left _ (by split <;> omega)
        obtain ⟨h9,h10⟩:=ZeS [x] hl (by simp [szL];omega) (by simp only [fsL] at hf ⊢;omega)
        refine ⟨⟨⟨.inr (.inr (.inr rfl)),fun _=>⟨rfl,by simp only;omega,h6,h7,h8⟩,by show st.length≤_;omega,by simp⟩,h9⟩,?_⟩
        simp only [cnt,if_neg (show ¬(4:Int)=1 by omega),if_neg (show ¬(4:Int)=2 by omega),if_neg (show ¬(4:Int)=3 by omega),if_neg hb,Int.toNat_natCast]
        have hc:cntL [x]+1≤2*s:=by simp [szL,hsz] at h10;omega
        have hm:m*(cntL [x]+1)≤m*(2*s):=Nat.mul_le_mul_left _ hc
        rw [Nat.mul_add,Nat.mul_one] at hm
        have e3:m*(2*s)=2*(s*m):=by rw [Nat.mul_comm s,Nat.mul_left_comm]
        omega
theorem ZeS:∀l:List Ze,OKL l→szL l≤199→fsL l≤4000→WFL l∧(cntL l:Int)≤2*szL l-l.length
  | [],_,_,_=>⟨trivial,by simp [cntL,szL]⟩
  | x :: l,ho,hs,hf=>by
    simp only [OKL] at ho
    simp only [szL] at hs
    simp only [fsL] at hf
    have h1:=ZcF x
    have h2:=Zcp l
    obtain ⟨a1,a2⟩:=ZlE x ho.1 (by omega) (by omega)
    obtain ⟨b1,b2⟩:=ZeS l ho.2 (by omega) (by omega)
    refine ⟨⟨a1,b1⟩,?_⟩
    simp only [cntL,szL,List.length_cons]
    omega
theorem Zg1:∀l:List Ze,(l.length:Int)≤szL l
  | []=>by simp [szL]
  | x :: l=>by
    have h1:=ZcF x
    have:=Zg1 l
    simp only [szL,List.length_cons];omega
end
mutual
theorem Zly:∀r:Ze,fu r≤fs r
  | ⟨kd,st,l,a,b⟩=>by
    have:=Zkk l
    simp only [fu,fs];omega
theorem Zkk:∀l:List Ze,fuL l≤fsL l
  | []=>by simp [fuL,fsL]
  | x :: l=>by
    have:=Zly x
    have:=Zkk l
    simp only [fuL,fsL];omega
end
def MayP (r:Ze):Prop:=(OK r∧dp r≤16)∧sz r≤200
theorem ZkT {k:Nat} {r:Ze} {s:List UInt8} (hk:k≤1048576) (hf:fs r≤4000) (hk2:fs r+s.length+1500≤k) (hs:s.length≤100000) :
    ∃b,F31 k r s=some b∧(b=true↔MayP r∧validD s=true∧Lang r (pts s)):=by
  obtain ⟨t,e,p⟩:=Zj6 (k:=k) (r:=r) hk (by omega)
  cases t
  · refine ⟨false,?_,by simp;intro h;exact absurd (p.2 h) (by simp)⟩
    unfold F31 Zed
    rw [e];rfl
  · have hm:=p.1 rfl
    cases hv:validD s
    · exact ⟨false,Zkq (by omega) e hv,by simp⟩
    · obtain ⟨hw,hc⟩:=ZlE r hm.1.1 hm.2 hf
      have:=Zly r
      have:=hm.2
      obtain ⟨b,e2,p2⟩:=Zk5 (k:=k) hk hw (by omega) (by omega) (by omega) e hv
      exact ⟨b,e2,p2.trans ⟨fun h=>⟨hm,rfl,h⟩,fun h=>h.2.2⟩⟩
end Go.Proofs.YthilboheomikjaaGreatDoor
end
section
namespace Go.Proofs.YthilboheomikjaaGreatDoor
open Go.AL Go.Lib
set_option maxRecDepth 100000
theorem ZiI {n n' b0 b1 b2 b3 c1 c2 c3:Nat} (hn:n≤n') (e1:1<n→c1=b1) (e2:2<n→c2=b2) (e3:3<n→c3=b3) (h:¬((decodeN n b0 b1 b2 b3).1=65533∧(decodeN n b0 b1 b2 b3).2=1)):decodeN n' b0 c1 c2 c3=decodeN n b0 b1 b2 b3:=by
  by_cases h0:b0<128
  · simp [decodeN,h0]
  by_cases h2:b0 / 32=6∧(1<n∧b1 / 64=2)
  · have:=e1 h2.2.1
    subst this
    simp only [decodeN,if_neg h0,if_pos h2]
    rw [if_pos ⟨h2.1,by omega,h2.2.2⟩]
  by_cases h3:b0 / 16=14∧(1<n∧b1 / 64=2)∧(2<n∧b2 / 64=2)
  · have:=e1 h3.2.1.1
    subst this
    have:=e2 h3.2.2.1
    subst this
    simp only [decodeN,if_neg h0,if_neg h2,if_pos h3]
    rw [if_neg (by omega),if_pos ⟨h3.1,⟨by omega,h3.2.1.2⟩,by omega,h3.2.2.2⟩]
  by_cases h4:b0 / 8=30∧(1<n∧b1 / 64=2)∧(2<n∧b2 / 64=2)∧(3<n∧b3 / 64=2)
  · have:=e1 h4.2.1.1
    subst this
    have:=e2 h4.2.2.1.1
    subst this
    have:=e3 h4.2.2.2.1
    subst this
    simp only [decodeN,if_neg h0,if_neg h2,if_neg h3,if_pos h4]
    rw [if_neg (by omega),if_neg (by omega),if_pos ⟨h4.1,⟨by omega,h4.2.1.2⟩,⟨by omega,h4.2.2.1.2⟩,by omega,h4.2.2.2.2⟩]
  · exact absurd (by simp only [decodeN,if_neg h0,if_neg h2,if_neg h3,if_neg h4];exact ⟨trivial,trivial⟩) h
theorem ZiH {s:List UInt8} (t:List UInt8) (hne:s≠[]) (h:¬bad s):decodeL (s ++ t)=decodeL s:=by
  unfold bad at h
  rw [decodeL_N] at h ⊢
  rw [decodeL_N s]
  have hl:0<s.length:=List.length_pos_iff.2 hne
  have g:∀i,i<s.length→(s ++ t).getD i 0=s.getD i 0:=fun i hi=>by simp [List.getElem?_append_left hi]
  rw [g 0 hl]
  exact ZiI (by simp) (fun h=>by rw [g 1 h]) (fun h=>by rw [g 2 h]) (fun h=>by rw [g 3 h]) h
theorem ZeR:∀(n:Nat) (s t:List UInt8),s.length≤n→validD s=true→validD (s ++ t)=validD t∧pts (s ++ t)=pts s ++ pts t
  | 0,s,t,hn,_=>by
    obtain rfl:s=[]:=List.length_eq_zero_iff.1 (by omega)
    exact ⟨rfl,by rw [Zco];rfl⟩
  | n+1,s,t,hn,hv=>by
    by_cases hne:s=[]
    · subst hne
      exact ⟨rfl,by rw [Zco];rfl⟩
    · obtain ⟨h1,h2⟩:=Zgq hne hv
      have hd:=ZiH t hne h1
      have hne2:s ++ t≠[]:=fun c=>hne (List.append_eq_nil_iff.1 c).1
      have hw:=decodeL_width s
      have hle:=decodeL_le s hne
      have h3:¬bad (s ++ t):=by unfold bad at h1 ⊢;rw [hd];exact h1
      have hdr:(s ++ t).drop (decodeL s).2=s.drop (decodeL s).2 ++ t:=List.drop_append_of_le_length hle
      obtain ⟨a,b⟩:=ZeR n (s.drop (decodeL s).2) t (by rw [List.length_drop];omega) h2
      refine ⟨by rw [ZjQ hne2 h3,hd,hdr,a],?_⟩
      rw [Zd6 hne2,Zd6 hne,hd,hdr,b]
      rfl
theorem Zlj {s:List UInt8}:pts s=[]↔s=[]:=by
  constructor
  · intro h
    refine Classical.byContradiction fun c=>?_
    have:=(Zji s.length s (Nat.le_refl _)).2 c
    rw [h] at this
    simp at this
  · rintro rfl;exact Zco
def Mt (r:Ze) (s:List UInt8):Prop:=MayP r∧validD s=true∧Lang r (pts s)
end Go.Proofs.YthilboheomikjaaGreatDoor
end
section
namespace Go.Proofs.YthilboheomikjaaGreatDoor
open Go.AL
set_option maxRecDepth 100000
def Zc2 (k:Nat) (v153:Bool):Option Bool:=
  cond v153 ((some false)) ((F26 k).bind fun y155=>(some y155))
def ZaR (k:Nat) (v0:Ze) (v2:List UInt8) (y113:Bool) (v147:Bool):Option Bool:=
  cond v147 ((some false)) ((F30 k (⟨4,([]:List Zb),([v0]:List Ze),0,1⟩:Ze)).bind fun y149=>cond y149 ((F31 k (⟨4,([]:List Zb),([v0]:List Ze),0,1⟩:Ze) v2).bind fun y151=>cond y113 ((Zc2 k (!(y151 == true)))) ((Zc2 k (!(y151 == (v2 == ([]:List UInt8))))))) ((Zc2 k false)))
def Zcq (k:Nat) (v0:Ze) (v2:List UInt8) (v3:List UInt8) (y113:Bool) (v128:Bool):Option Bool:=
  cond v128 ((some false)) ((F30 k (⟨4,([]:List Zb),([v0]:List Ze),0,(-1)⟩:Ze)).bind fun y130=>cond y130 ((F31 k (⟨4,([]:List Zb),([v0]:List Ze),0,(-1)⟩:Ze) ([]:List UInt8)).bind fun y132=>cond (!y132) ((ZaR k v0 v2 y113 true)) (cond y113 ((F31 k (⟨4,([]:List Zb),([v0]:List Ze),0,(-1)⟩:Ze) v2).bind fun y135=>cond (!y135) ((ZaR k v0 v2 y113 true)) (cond y113 ((F31 k v0 v3).bind fun y138=>cond y138 (if v2.length+v3.length≤4611686018427387904 then (F31 k (⟨4,([]:List Zb),([v0]:List Ze),0,(-1)⟩:Ze) (v2 ++ v3)).bind fun y141=>(ZaR k v0 v2 y113 (!y141)) else none) ((ZaR k v0 v2 y113 false))) ((ZaR k v0 v2 y113 false)))) (cond y113 ((F31 k v0 v3).bind fun y143=>cond y143 (if v2.length+v3.length≤4611686018427387904 then (F31 k (⟨4,([]:List Zb),([v0]:List Ze),0,(-1)⟩:Ze) (v2 ++ v3)).bind fun y146=>(ZaR k v0 v2 y113 (!y146)) else none) ((ZaR k v0 v2 y113 false))) ((ZaR k v0 v2 y113 false))))) ((ZaR k v0 v2 y113 false)))
def Zc1 (k:Nat) (v0:Ze) (v1:Ze) (v2:List UInt8) (v3:List UInt8) (y113:Bool) (v119:Bool):Option Bool:=
  cond v119 ((some false)) ((F30 k (⟨2,([]:List Zb),([v0,v1]:List Ze),0,0⟩:Ze)).bind fun y121=>cond y121 (cond y113 ((F31 k v1 v3).bind fun y124=>cond y124 (if v2.length+v3.length≤4611686018427387904 then (F31 k (⟨2,([]:List Zb),([v0,v1]:List Ze),0,0⟩:Ze) (v2 ++ v3)).bind fun y127=>(Zcq k v0 v2 v3 y113 (!y127)) else none) ((Zcq k v0 v2 v3 y113 false))) ((Zcq k v0 v2 v3 y113 false))) ((Zcq k v0 v2 v3 y113 false)))
def Zbo (k:Nat) (v0:Ze) (v1:Ze) (v2:List UInt8) (v3:List UInt8) (v110:Bool):Option Bool:=
  cond v110 ((F26 k).bind fun y112=>(some y112)) ((((((F31 k v0 v2).bind fun y113=>(F31 k v1 v2).bind fun y114=>(F30 k (⟨3,([]:List Zb),([v0,v1]:List Ze),0,0⟩:Ze)).bind fun y115=>cond y115 ((F31 k (⟨3,([]:List Zb),([v0,v1]:List Ze),0,0⟩:Ze) v2).bind fun y117=>cond y113 ((Zc1 k v0 v1 v2 v3 y113 (!(y117 == true)))) ((Zc1 k v0 v1 v2 v3 y113 (!(y117 == y114))))) ((Zc1 k v0 v1 v2 v3 y113 false)))))))
def F10 (k:Nat) (v0:Ze) (v1:Ze) (v2:List UInt8) (v3:List UInt8):Option Bool:=
  (F21 k v0).bind fun y101=>cond (!y101) ((Zbo k v0 v1 v2 v3 true)) ((F21 k v1).bind fun y103=>cond (!y103) ((Zbo k v0 v1 v2 v3 true)) (cond (decide ((v2.length:Int) > 20)) ((Zbo k v0 v1 v2 v3 true)) (cond (decide ((v3.length:Int) > 20)) ((Zbo k v0 v1 v2 v3 true)) ((F30 k v0).bind fun y107=>cond (!y107) ((Zbo k v0 v1 v2 v3 true)) ((F30 k v1).bind fun y109=>(Zbo k v0 v1 v2 v3 (!y109)))))))
theorem Zmr (k:Nat) (v0:Ze) (v1:Ze) (v2:List UInt8) (v3:List UInt8) (r:Bool) (hF:F10 k v0 v1 v2 v3=some r):Sim Tryz.prog GL0 10 [.val true (pvL (Zc v0)),.val true (pvL (Zc v1)),one (.str v2),one (.str v3)] [] (one (.bool r)) []:=by
 refine ZB [] Tryz.func10 rfl kr kr ?_
 show WA _ _ 140 _ _ _
 refine WA.seq ?_
 refine WA.reg [2,3,4,5] [104,105] [(0,.obj 104),(1,.obj 105)] (env':=[(2,one (.str v2)),(3,one (.str v3)),(4,.val false [.ptr 104 1 0 0]),(5,.val false [.ptr 105 1 0 0])]) (os':=[(104,.box (pvL (Zc v0))),(105,.box (pvL (Zc v1)))]) (O:=[]) kr (sound _ _) trivial ?_
 refine WA.seq ?_
 refine WA.join (fun s_=>∃(v110:Bool),Zj s_.env [2,3,4,5,42]=[(2,one (.str v2)),(3,one (.str v3)),(4,.val false [.ptr 104 1 0 0]),(5,.val false [.ptr 105 1 0 0]),(42,one (.bool v110))]∧Zj s_.os [104,105]=[(104,.box (pvL (Zc v0))),(105,.box (pvL (Zc v1)))]∧Zbo k v0 v1 v2 v3 v110=some r) ?_ ?_
 {
 rintro s_ ⟨v110,he,ho,hF⟩
 refine WA.keep _ _ he ho ?_
 clear he ho
 refine WA.cond (b:=v110) rfl (fun hb111=>?_) (fun hb111=>?_)
 {
 have hF:=Zi hF hb111
 refine WA.seq ?_
 obtain ⟨y112,hy112,hF⟩:=bind_some hF
 refine WA.reg [8] [] [(0,.callR [] (one (.bool y112)))] (env':=[(8,one (.bool y112))]) (os':=[]) (O:=[Sim Tryz.prog GL0 26 [] [] (one (.bool y112)) [],([]:List Nat).Nodup]) kr (sound _ _) ⟨(ZjV k _ hy112),(by decide),trivial⟩ ?_
 refine WA.ret ?_
 obtain rfl:=Option.some.inj hF
 exact Zr (one (.bool y112)) [] kr kr kr kr (by decide) rfl rfl }
 {
 have hF:=Zh hF hb111
 refine WA.skip ?_
 refine WA.seq ?_
 refine WA.rm (α:=(List (List PV))) (raw:=[(Zc v0),(Zc v1)]) (can:=(Zl ([v0,v1]:List Ze))) (fun m_=>([(2,one (.str v2)),(3,one (.str v3)),(4,.val false [.ptr 104 1 0 0]),(5,.val false [.ptr 105 1 0 0]),(9,.val false [.ptr 109 1 0 0])],[(104,.box (pvL (Zc v0))),(105,.box (pvL (Zc v1))),(109,.box (pvL ([.int .i64 3] ++ [.sl (([]:List Zb).map Za)] ++ [.sl m_] ++ [.int .i64 0] ++ [.int .i64 0])))],[])) (zm) [2,3,4,5,9] [104,105,109] [(4,.obj 109)] kr (sound _ _) trivial ?_
 refine WA.seq ?_
 refine WA.rm (α:=(List (List PV))) (raw:=[(Zc v0),(Zc v1)]) (can:=(Zl ([v0,v1]:List Ze))) (fun m_=>([(2,one (.str v2)),(3,one (.str v3)),(4,.val false [.ptr 104 1 0 0]),(5,.val false [.ptr 105 1 0 0]),(9,.val false [.ptr 109 1 0 0]),(10,.val false [.ptr 110 1 0 0])],[(104,.box (pvL (Zc v0))),(105,.box (pvL (Zc v1))),(109,.box (pvL (Zc (⟨3,([]:List Zb),([v0,v1]:List Ze),0,0⟩:Ze)))),(110,.box (pvL ([.int .i64 2] ++ [.sl (([]:List Zb).map Za)] ++ [.sl m_] ++ [.int .i64 0] ++ [.int .i64 0])))],[])) (zm) [2,3,4,5,9,10] [104,105,109,110] [(4,.obj 110)] kr (sound _ _) trivial ?_
 refine WA.seq ?_
 refine WA.rm (α:=(List (List PV))) (raw:=[(Zc v0)]) (can:=(Zl ([v0]:List Ze))) (fun m_=>([(2,one (.str v2)),(3,one (.str v3)),(4,.val false [.ptr 104 1 0 0]),(5,.val false [.ptr 105 1 0 0]),(9,.val false [.ptr 109 1 0 0]),(10,.val false [.ptr 110 1 0 0]),(11,.val false [.ptr 111 1 0 0])],[(104,.box (pvL (Zc v0))),(105,.box (pvL (Zc v1))),(109,.box (pvL (Zc (⟨3,([]:List Zb),([v0,v1]:List Ze),0,0⟩:Ze)))),(110,.box (pvL (Zc (⟨2,([]:List Zb),([v0,v1]:List Ze),0,0⟩:Ze)))),(111,.box (pvL ([.int .i64 4] ++ [.sl (([]:List Zb).map Za)] ++ [.sl m_] ++ [.int .i64 0] ++ [.int .i64 (-1)])))],[])) (zm) [2,3,4,5,9,10,11] [104,105,109,110,111] [(3,.obj 111)] kr (sound _ _) trivial ?_
 refine WA.seq ?_
 refine WA.rm (α:=(List (List PV))) (raw:=[(Zc v0)]) (can:=(Zl ([v0]:List Ze))) (fun m_=>([(2,one (.str v2)),(3,one (.str v3)),(4,.val false [.ptr 104 1 0 0]),(5,.val false [.ptr 105 1 0 0]),(9,.val false [.ptr 109 1 0 0]),(10,.val false [.ptr 110 1 0 0]),(11,.val false [.ptr 111 1 0 0]),(12,.val false [.ptr 112 1 0 0])],[(104,.box (pvL (Zc v0))),(105,.box (pvL (Zc v1))),(109,.box (pvL (Zc (⟨3,([]:List Zb),([v0,v1]:List Ze),0,0⟩:Ze)))),(110,.box (pvL (Zc (⟨2,([]:List Zb),([v0,v1]:List Ze),0,0⟩:Ze)))),(111,.box (pvL (Zc (⟨4,([]:List Zb),([v0]:List Ze),0,(-1)⟩:Ze)))),(112,.box (pvL ([.int .i64 4] ++ [.sl (([]:List Zb).map Za)] ++ [.sl m_] ++ [.int .i64 0] ++ [.int .i64 1])))],[])) (zm) [2,3,4,5,9,10,11,12] [104,105,109,110,111,112] [(3,.obj 112)] kr (sound _ _) trivial ?_
 refine WA.seq ?_
 obtain ⟨y113,hy113,hF⟩:=bind_some hF
 obtain ⟨y114,hy114,hF⟩:=bind_some hF
 refine WA.regD kr [2,3,4,5,9,10,11,12,13,14] [104,105,109,110,111,112] [(2,.callR [] (one (.bool y113))),(5,.callR [] (one (.bool y114)))] (env':=[(2,one (.str v2)),(3,one (.str v3)),(4,.val false [.ptr 104 1 0 0]),(5,.val false [.ptr 105 1 0 0]),(9,.val false [.ptr 109 1 0 0]),(10,.val false [.ptr 110 1 0 0]),(11,.val false [.ptr 111 1 0 0]),(12,.val false [.ptr 112 1 0 0]),(13,one (.bool y113)),(14,one (.bool y114))]) (os':=[(104,.box (pvL (Zc v0))),(105,.box (pvL (Zc v1))),(109,.box (pvL (Zc (⟨3,([]:List Zb),([v0,v1]:List Ze),0,0⟩:Ze)))),(110,.box (pvL (Zc (⟨2,([]:List Zb),([v0,v1]:List Ze),0,0⟩:Ze)))),(111,.box (pvL (Zc (⟨4,([]:List Zb),([v0]:List Ze),0,(-1)⟩:Ze)))),(112,.box (pvL (Zc (⟨4,([]:List Zb),([v0]:List Ze),0,1⟩:Ze))))]) (O:=[Sim Tryz.prog GL0 31 [.val true (pvL (Zc v0)),one (.str v2)] [] (one (.bool y113)) [],([]:List Nat).Nodup,Sim Tryz.prog GL0 31 [.val true (pvL (Zc v1)),one (.str v2)] [] (one (.bool y114)) [],([]:List Nat).Nodup]) kr kr (sound _ _) ⟨(ZG k _ _ _ hy113),(by decide),(ZG k _ _ _ hy114),(by decide),trivial⟩ ?_
 refine WA.seq ?_
 refine WA.join (fun s_=>∃(v119:Bool),Zj s_.env [2,3,4,5,10,11,12,13,75]=[(2,one (.str v2)),(3,one (.str v3)),(4,.val false [.ptr 104 1 0 0]),(5,.val false [.ptr 105 1 0 0]),(10,.val false [.ptr 110 1 0 0]),(11,.val false [.ptr 111 1 0 0]),(12,.val false [.ptr 112 1 0 0]),(13,one (.bool y113)),(75,one (.bool v119))]∧Zj s_.os [104,105,110,111,112]=[(104,.box (pvL (Zc v0))),(105,.box (pvL (Zc v1))),(110,.box (pvL (Zc (⟨2,([]:List Zb),([v0,v1]:List Ze),0,0⟩:Ze)))),(111,.box (pvL (Zc (⟨4,([]:List Zb),([v0]:List Ze),0,(-1)⟩:Ze)))),(112,.box (pvL (Zc (⟨4,([]:List Zb),([v0]:List Ze),0,1⟩:Ze))))]∧Zc1 k v0 v1 v2 v3 y113 v119=some r) ?_ ?_
 {
 rintro s_ ⟨v119,he,ho,hF⟩
 refine WA.keep _ _ he ho ?_
 clear he ho
 refine WA.cond (b:=v119) rfl (fun hb120=>?_) (fun hb120=>?_)
 {
 have hF:=Zi hF hb120
 refine WA.seq ?_
 refine WA.reg [8] [] [] (env':=[(8,one (.bool false))]) (os':=[]) (O:=[]) kr (sound _ _) trivial ?_
 refine WA.ret ?_
 obtain rfl:=Option.some.inj hF
 exact Zr (one (.bool false)) [] kr kr kr kr (by decide) rfl rfl }
 {
 have hF:=Zh hF hb120
 refine WA.skip ?_
 refine WA.seq ?_
 refine WA.join (fun s_=>∃(v128:Bool),Zj s_.env [2,3,4,11,12,13,93]=[(2,one (.str v2)),(3,one (.str v3)),(4,.val false [.ptr 104 1 0 0]),(11,.val false [.ptr 111 1 0 0]),(12,.val false [.ptr 112 1 0 0]),(13,one (.bool y113)),(93,one (.bool v128))]∧Zj s_.os [104,111,112]=[(104,.box (pvL (Zc v0))),(111,.box (pvL (Zc (⟨4,([]:List Zb),([v0]:List Ze),0,(-1)⟩:Ze)))),(112,.box (pvL (Zc (⟨4,([]:List Zb),([v0]:List Ze),0,1⟩:Ze))))]∧Zcq k v0 v2 v3 y113 v128=some r) ?_ ?_
 {
 rintro s_ ⟨v128,he,ho,hF⟩
 refine WA.keep _ _ he ho ?_
 clear he ho
 refine WA.cond (b:=v128) rfl (fun hb129=>?_) (fun hb129=>?_)
 {
 have hF:=Zi hF hb129
 refine WA.seq ?_
 refine WA.reg [8] [] [] (env':=[(8,one (.bool false))]) (os':=[]) (O:=[]) kr (sound _ _) trivial ?_
 refine WA.ret ?_
 obtain rfl:=Option.some.inj hF
 exact Zr (one (.bool false)) [] kr kr kr kr (by decide) rfl rfl }
 {
 have hF:=Zh hF hb129
 refine WA.skip ?_
 refine WA.seq ?_
 refine WA.join (fun s_=>∃(v147:Bool),Zj s_.env [2,12,13,125]=[(2,one (.str v2)),(12,.val false [.ptr 112 1 0 0]),(13,one (.bool y113)),(125,one (.bool v147))]∧Zj s_.os [112]=[(112,.box (pvL (Zc (⟨4,([]:List Zb),([v0]:List Ze),0,1⟩:Ze))))]∧ZaR k v0 v2 y113 v147=some r) ?_ ?_
 {
 rintro s_ ⟨v147,he,ho,hF⟩
 refine WA.keep _ _ he ho ?_
 clear he ho
 refine WA.cond (b:=v147) rfl (fun hb148=>?_) (fun hb148=>?_)
 {
 have hF:=Zi hF hb148
 refine WA.seq ?_
 refine WA.reg [8] [] [] (env':=[(8,one (.bool false))]) (os':=[]) (O:=[]) kr (sound _ _) trivial ?_
 refine WA.ret ?_
 obtain rfl:=Option.some.inj hF
 exact Zr (one (.bool false)) [] kr kr kr kr (by decide) rfl rfl }
 {
 have hF:=Zh hF hb148
 refine WA.skip ?_
 refine WA.seq ?_
 refine WA.join (fun s_=>∃(v153:Bool),Zj s_.env [138]=[(138,one (.bool v153))]∧Zj s_.os []=[]∧Zc2 k v153=some r) ?_ ?_
 {
 rintro s_ ⟨v153,he,ho,hF⟩
 refine WA.keep _ _ he ho ?_
 clear he ho
 refine WA.cond (b:=v153) rfl (fun hb154=>?_) (fun hb154=>?_)
 {
 have hF:=Zi hF hb154
 refine WA.seq ?_
 refine WA.reg [8] [] [] (env':=[(8,one (.bool false))]) (os':=[]) (O:=[]) kr (sound _ _) trivial ?_
 refine WA.ret ?_
 obtain rfl:=Option.some.inj hF
 exact Zr (one (.bool false)) [] kr kr kr kr (by decide) rfl rfl }
 {
 have hF:=Zh hF hb154
 refine WA.skip ?_
 refine WA.seq ?_
 obtain ⟨y155,hy155,hF⟩:=bind_some hF
 refine WA.reg [8] [] [(0,.callR [] (one (.bool y155)))] (env':=[(8,one (.bool y155))]) (os':=[]) (O:=[Sim Tryz.prog GL0 26 [] [] (one (.bool y155)) [],([]:List Nat).Nodup]) kr (sound _ _) ⟨(ZjV k _ hy155),(by decide),trivial⟩ ?_
 refine WA.ret ?_
 obtain rfl:=Option.some.inj hF
 exact Zr (one (.bool y155)) [] kr kr kr kr (by decide) rfl rfl } }
 {
 obtain ⟨y149,hy149,hF⟩:=bind_some hF
 rcases Bool.eq_false_or_eq_true y149 with hb150 | hb150
 {
 have hF:=Zi hF hb150
 obtain ⟨y151,hy151,hF⟩:=bind_some hF
 rcases Bool.eq_false_or_eq_true y113 with hb152 | hb152
 {
 have hF:=Zi hF hb152
 refine WA.reg [138] [] [(1,.callR [] (one (.bool y149))),(2,.bool true),(5,.callR [] (one (.bool y151))),(7,.bool true)] (env':=[(138,one (.bool (!(y151 == true))))]) (os':=[]) (O:=[Sim Tryz.prog GL0 30 [.val true (pvL (Zc (⟨4,([]:List Zb),([v0]:List Ze),0,1⟩:Ze)))] [] (one (.bool y149)) [],([]:List Nat).Nodup,y149=true,Sim Tryz.prog GL0 31 [.val true (pvL (Zc (⟨4,([]:List Zb),([v0]:List Ze),0,1⟩:Ze))),one (.str v2)] [] (one (.bool y151)) [],([]:List Nat).Nodup,y113=true]) kr (sound _ _) ⟨(ZY k _ _ hy149),(by decide),hb150,(ZG k _ _ _ hy151),(by decide),hb152,trivial⟩ ?_
 exact ⟨(!(y151 == true)),kr,kr,hF⟩ }
 {
 have hF:=Zh hF hb152
 refine WA.reg [138] [] [(1,.callR [] (one (.bool y149))),(2,.bool true),(5,.callR [] (one (.bool y151))),(7,.bool false)] (env':=[(138,one (.bool (!(y151 == (v2 == ([]:List UInt8))))))]) (os':=[]) (O:=[Sim Tryz.prog GL0 30 [.val true (pvL (Zc (⟨4,([]:List Zb),([v0]:List Ze),0,1⟩:Ze)))] [] (one (.bool y149)) [],([]:List Nat).Nodup,y149=true,Sim Tryz.prog GL0 31 [.val true (pvL (Zc (⟨4,([]:List Zb),([v0]:List Ze),0,1⟩:Ze))),one (.str v2)] [] (one (.bool y151)) [],([]:List Nat).Nodup,y113=false]) kr (sound _ _) ⟨(ZY k _ _ hy149),(by decide),hb150,(ZG k _ _ _ hy151),(by decide),hb152,trivial⟩ ?_
 exact ⟨(!(y151 == (v2 == ([]:List UInt8)))),kr,kr,hF⟩ } }
 {
 have hF:=Zh hF hb150
 refine WA.reg [138] [] [(1,.callR [] (one (.bool y149))),(2,.bool false)] (env':=[(138,one (.bool false))]) (os':=[]) (O:=[Sim Tryz.prog GL0 30 [.val true (pvL (Zc (⟨4,([]:List Zb),([v0]:List Ze),0,1⟩:Ze)))] [] (one (.bool y149)) [],([]:List Nat).Nodup,y149=false]) kr (sound _ _) ⟨(ZY k _ _ hy149),(by decide),hb150,trivial⟩ ?_
 exact ⟨false,kr,kr,hF⟩ } } } }
 {
 obtain ⟨y130,hy130,hF⟩:=bind_some hF
 rcases Bool.eq_false_or_eq_true y130 with hb131 | hb131
 {
 have hF:=Zi hF hb131
 obtain ⟨y132,hy132,hF⟩:=bind_some hF
 rcases Bool.eq_false_or_eq_true (!y132) with hb133 | hb133
 {
 have hF:=Zi hF hb133
 refine WA.reg [2,12,13,125] [112] [(1,.callR [] (one (.bool y130))),(2,.bool true),(4,.callR [] (one (.bool y132))),(6,.bool true)] (env':=[(2,one (.str v2)),(12,.val false [.ptr 112 1 0 0]),(13,one (.bool y113)),(125,one (.bool true))]) (os':=[(112,.box (pvL (Zc (⟨4,([]:List Zb),([v0]:List Ze),0,1⟩:Ze))))]) (O:=[Sim Tryz.prog GL0 30 [.val true (pvL (Zc (⟨4,([]:List Zb),([v0]:List Ze),0,(-1)⟩:Ze)))] [] (one (.bool y130)) [],([]:List Nat).Nodup,y130=true,Sim Tryz.prog GL0 31 [.val true (pvL (Zc (⟨4,([]:List Zb),([v0]:List Ze),0,(-1)⟩:Ze))),one (.str ([]:List UInt8))] [] (one (.bool y132)) [],([]:List Nat).Nodup,(!y132)=true]) kr (sound _ _) ⟨(ZY k _ _ hy130),(by decide),hb131,(ZG k _ _ _ hy132),(by decide),hb133,trivial⟩ ?_
 exact ⟨true,kr,kr,hF⟩ }
 {
 have hF:=Zh hF hb133
 rcases Bool.eq_false_or_eq_true y113 with hb134 | hb134
 {
 have hF:=Zi hF hb134
 obtain ⟨y135,hy135,hF⟩:=bind_some hF
 rcases Bool.eq_false_or_eq_true (!y135) with hb136 | hb136
 {
 have hF:=Zi hF hb136
 refine WA.reg [2,12,13,125] [112] [(1,.callR [] (one (.bool y130))),(2,.bool true),(4,.callR [] (one (.bool y132))),(6,.bool false),(8,.bool true),(11,.callR [] (one (.bool y135))),(15,.bool true)] (env':=[(2,one (.str v2)),(12,.val false [.ptr 112 1 0 0]),(13,one (.bool y113)),(125,one (.bool true))]) (os':=[(112,.box (pvL (Zc (⟨4,([]:List Zb),([v0]:List Ze),0,1⟩:Ze))))]) (O:=[Sim Tryz.prog GL0 30 [.val true (pvL (Zc (⟨4,([]:List Zb),([v0]:List Ze),0,(-1)⟩:Ze)))] [] (one (.bool y130)) [],([]:List Nat).Nodup,y130=true,Sim Tryz.prog GL0 31 [.val true (pvL (Zc (⟨4,([]:List Zb),([v0]:List Ze),0,(-1)⟩:Ze))),one (.str ([]:List UInt8))] [] (one (.bool y132)) [],([]:List Nat).Nodup,(!y132)=false,y113=true,Sim Tryz.prog GL0 31 [.val true (pvL (Zc (⟨4,([]:List Zb),([v0]:List Ze),0,(-1)⟩:Ze))),one (.str v2)] [] (one (.bool y135)) [],([]:List Nat).Nodup,(!y135)=true]) kr (sound _ _) ⟨(ZY k _ _ hy130),(by decide),hb131,(ZG k _ _ _ hy132),(by decide),hb133,hb134,(ZG k _ _ _ hy135),(by decide),hb136,trivial⟩ ?_
 exact ⟨true,kr,kr,hF⟩ }
 {
 have hF:=Zh hF hb136
 rcases Bool.eq_false_or_eq_true y113 with hb137 | hb137
 {
 have hF:=Zi hF hb137
 obtain ⟨y138,hy138,hF⟩:=bind_some hF
 rcases Bool.eq_false_or_eq_true y138 with hb139 | hb139
 {
 have hF:=Zi hF hb139
 obtain ⟨hc140,hF⟩:=Zn hF
 obtain ⟨y141,hy141,hF⟩:=bind_some hF
 refine WA.reg [2,12,13,125] [112] [(1,.callR [] (one (.bool y130))),(2,.bool true),(4,.callR [] (one (.bool y132))),(6,.bool false),(8,.bool true),(11,.callR [] (one (.bool y135))),(15,.bool false),(17,.bool true),(20,.callR [] (one (.bool y138))),(22,.bool true),(27,.callR [] (one (.bool y141)))] (env':=[(2,one (.str v2)),(12,.val false [.ptr 112 1 0 0]),(13,one (.bool y113)),(125,one (.bool (!y141)))]) (os':=[(112,.box (pvL (Zc (⟨4,([]:List Zb),([v0]:List Ze),0,1⟩:Ze))))]) (O:=[Sim Tryz.prog GL0 30 [.val true (pvL (Zc (⟨4,([]:List Zb),([v0]:List Ze),0,(-1)⟩:Ze)))] [] (one (.bool y130)) [],([]:List Nat).Nodup,y130=true,Sim Tryz.prog GL0 31 [.val true (pvL (Zc (⟨4,([]:List Zb),([v0]:List Ze),0,(-1)⟩:Ze))),one (.str ([]:List UInt8))] [] (one (.bool y132)) [],([]:List Nat).Nodup,(!y132)=false,y113=true,Sim Tryz.prog GL0 31 [.val true (pvL (Zc (⟨4,([]:List Zb),([v0]:List Ze),0,(-1)⟩:Ze))),one (.str v2)] [] (one (.bool y135)) [],([]:List Nat).Nodup,(!y135)=false,y113=true,Sim Tryz.prog GL0 31 [.val true (pvL (Zc v0)),one (.str v3)] [] (one (.bool y138)) [],([]:List Nat).Nodup,y138=true,v2.length+v3.length≤4611686018427387904,Sim Tryz.prog GL0 31 [.val true (pvL (Zc (⟨4,([]:List Zb),([v0]:List Ze),0,(-1)⟩:Ze))),one (.str (v2 ++ v3))] [] (one (.bool y141)) [],([]:List Nat).Nodup]) kr (sound _ _) ⟨(ZY k _ _ hy130),(by decide),hb131,(ZG k _ _ _ hy132),(by decide),hb133,hb134,(ZG k _ _ _ hy135),(by decide),hb136,hb137,(ZG k _ _ _ hy138),(by decide),hb139,hc140,(ZG k _ _ _ hy141),(by decide),trivial⟩ ?_
 exact ⟨(!y141),kr,kr,hF⟩ }
 {
 have hF:=Zh hF hb139
 refine WA.reg [2,12,13,125] [112] [(1,.callR [] (one (.bool y130))),(2,.bool true),(4,.callR [] (one (.bool y132))),(6,.bool false),(8,.bool true),(11,.callR [] (one (.bool y135))),(15,.bool false),(17,.bool true),(20,.callR [] (one (.bool y138))),(22,.bool false)] (env':=[(2,one (.str v2)),(12,.val false [.ptr 112 1 0 0]),(13,one (.bool y113)),(125,one (.bool false))]) (os':=[(112,.box (pvL (Zc (⟨4,([]:List Zb),([v0]:List Ze),0,1⟩:Ze))))]) (O:=[Sim Tryz.prog GL0 30 [.val true (pvL (Zc (⟨4,([]:List Zb),([v0]:List Ze),0,(-1)⟩:Ze)))] [] (one (.bool y130)) [],([]:List Nat).Nodup,y130=true,Sim Tryz.prog GL0 31 [.val true (pvL (Zc (⟨4,([]:List Zb),([v0]:List Ze),0,(-1)⟩:Ze))),one (.str ([]:List UInt8))] [] (one (.bool y132)) [],([]:List Nat).Nodup,(!y132)=false,y113=true,Sim Tryz.prog GL0 31 [.val true (pvL (Zc (⟨4,([]:List Zb),([v0]:List Ze),0,(-1)⟩:Ze))),one (.str v2)] [] (one (.bool y135)) [],([]:List Nat).Nodup,(!y135)=false,y113=true,Sim Tryz.prog GL0 31 [.val true (pvL (Zc v0)),one (.str v3)] [] (one (.bool y138)) [],([]:List Nat).Nodup,y138=false]) kr (sound _ _) ⟨(ZY k _ _ hy130),(by decide),hb131,(ZG k _ _ _ hy132),(by decide),hb133,hb134,(ZG k _ _ _ hy135),(by decide),hb136,hb137,(ZG k _ _ _ hy138),(by decide),hb139,trivial⟩ ?_
 exact ⟨false,kr,kr,hF⟩ } }
 {
 have hF:=Zh hF hb137
 refine WA.reg [2,12,13,125] [112] [(1,.callR [] (one (.bool y130))),(2,.bool true),(4,.callR [] (one (.bool y132))),(6,.bool false),(8,.bool true),(11,.callR [] (one (.bool y135))),(15,.bool false),(17,.bool false)] (env':=[(2,one (.str v2)),(12,.val false [.ptr 112 1 0 0]),(13,one (.bool y113)),(125,one (.bool false))]) (os':=[(112,.box (pvL (Zc (⟨4,([]:List Zb),([v0]:List Ze),0,1⟩:Ze))))]) (O:=[Sim Tryz.prog GL0 30 [.val true (pvL (Zc (⟨4,([]:List Zb),([v0]:List Ze),0,(-1)⟩:Ze)))] [] (one (.bool y130)) [],([]:List Nat).Nodup,y130=true,Sim Tryz.prog GL0 31 [.val true (pvL (Zc (⟨4,([]:List Zb),([v0]:List Ze),0,(-1)⟩:Ze))),one (.str ([]:List UInt8))] [] (one (.bool y132)) [],([]:List Nat).Nodup,(!y132)=false,y113=true,Sim Tryz.prog GL0 31 [.val true (pvL (Zc (⟨4,([]:List Zb),([v0]:List Ze),0,(-1)⟩:Ze))),one (.str v2)] [] (one (.bool y135)) [],([]:List Nat).Nodup,(!y135)=false,y113=false]) kr (sound _ _) ⟨(ZY k _ _ hy130),(by decide),hb131,(ZG k _ _ _ hy132),(by decide),hb133,hb134,(ZG k _ _ _ hy135),(by decide),hb136,hb137,trivial⟩ ?_
 exact ⟨false,kr,kr,hF⟩ } } }
 {
 have hF:=Zh hF hb134
 rcases Bool.eq_false_or_eq_true y113 with hb142 | hb142
 {
 have hF:=Zi hF hb142
 obtain ⟨y143,hy143,hF⟩:=bind_some hF
 rcases Bool.eq_false_or_eq_true y143 with hb144 | hb144
 {
 have hF:=Zi hF hb144
 obtain ⟨hc145,hF⟩:=Zn hF
 obtain ⟨y146,hy146,hF⟩:=bind_some hF
 refine WA.reg [2,12,13,125] [112] [(1,.callR [] (one (.bool y130))),(2,.bool true),(4,.callR [] (one (.bool y132))),(6,.bool false),(8,.bool false),(17,.bool true),(20,.callR [] (one (.bool y143))),(22,.bool true),(27,.callR [] (one (.bool y146)))] (env':=[(2,one (.str v2)),(12,.val false [.ptr 112 1 0 0]),(13,one (.bool y113)),(125,one (.bool (!y146)))]) (os':=[(112,.box (pvL (Zc (⟨4,([]:List Zb),([v0]:List Ze),0,1⟩:Ze))))]) (O:=[Sim Tryz.prog GL0 30 [.val true (pvL (Zc (⟨4,([]:List Zb),([v0]:List Ze),0,(-1)⟩:Ze)))] [] (one (.bool y130)) [],([]:List Nat).Nodup,y130=true,Sim Tryz.prog GL0 31 [.val true (pvL (Zc (⟨4,([]:List Zb),([v0]:List Ze),0,(-1)⟩:Ze))),one (.str ([]:List UInt8))] [] (one (.bool y132)) [],([]:List Nat).Nodup,(!y132)=false,y113=false,y113=true,Sim Tryz.prog GL0 31 [.val true (pvL (Zc v0)),one (.str v3)] [] (one (.bool y143)) [],([]:List Nat).Nodup,y143=true,v2.length+v3.length≤4611686018427387904,Sim Tryz.prog GL0 31 [.val true (pvL (Zc (⟨4,([]:List Zb),([v0]:List Ze),0,(-1)⟩:Ze))),one (.str (v2 ++ v3))] [] (one (.bool y146)) [],([]:List Nat).Nodup]) kr (sound _ _) ⟨(ZY k _ _ hy130),(by decide),hb131,(ZG k _ _ _ hy132),(by decide),hb133,hb134,hb142,(ZG k _ _ _ hy143),(by decide),hb144,hc145,(ZG k _ _ _ hy146),(by decide),trivial⟩ ?_
 exact ⟨(!y146),kr,kr,hF⟩ }
 {
 have hF:=Zh hF hb144
 refine WA.reg [2,12,13,125] [112] [(1,.callR [] (one (.bool y130))),(2,.bool true),(4,.callR [] (one (.bool y132))),(6,.bool false),(8,.bool false),(17,.bool true),(20,.callR [] (one (.bool y143))),(22,.bool false)] (env':=[(2,one (.str v2)),(12,.val false [.ptr 112 1 0 0]),(13,one (.bool y113)),(125,one (.bool false))]) (os':=[(112,.box (pvL (Zc (⟨4,([]:List Zb),([v0]:List Ze),0,1⟩:Ze))))]) (O:=[Sim Tryz.prog GL0 30 [.val true (pvL (Zc (⟨4,([]:List Zb),([v0]:List Ze),0,(-1)⟩:Ze)))] [] (one (.bool y130)) [],([]:List Nat).Nodup,y130=true,Sim Tryz.prog GL0 31 [.val true (pvL (Zc (⟨4,([]:List Zb),([v0]:List Ze),0,(-1)⟩:Ze))),one (.str ([]:List UInt8))] [] (one (.bool y132)) [],([]:List Nat).Nodup,(!y132)=false,y113=false,y113=true,Sim Tryz.prog GL0 31 [.val true (pvL (Zc v0)),one (.str v3)] [] (one (.bool y143)) [],([]:List Nat).Nodup,y143=false]) kr (sound _ _) ⟨(ZY k _ _ hy130),(by decide),hb131,(ZG k _ _ _ hy132),(by decide),hb133,hb134,hb142,(ZG k _ _ _ hy143),(by decide),hb144,trivial⟩ ?_
 exact ⟨false,kr,kr,hF⟩ } }
 {
 have hF:=Zh hF hb142
 refine WA.reg [2,12,13,125] [112] [(1,.callR [] (one (.bool y130))),(2,.bool true),(4,.callR [] (one (.bool y132))),(6,.bool false),(8,.bool false),(17,.bool false)] (env':=[(2,one (.str v2)),(12,.val false [.ptr 112 1 0 0]),(13,one (.bool y113)),(125,one (.bool false))]) (os':=[(112,.box (pvL (Zc (⟨4,([]:List Zb),([v0]:List Ze),0,1⟩:Ze))))]) (O:=[Sim Tryz.prog GL0 30 [.val true (pvL (Zc (⟨4,([]:List Zb),([v0]:List Ze),0,(-1)⟩:Ze)))] [] (one (.bool y130)) [],([]:List Nat).Nodup,y130=true,Sim Tryz.prog GL0 31 [.val true (pvL (Zc (⟨4,([]:List Zb),([v0]:List Ze),0,(-1)⟩:Ze))),one (.str ([]:List UInt8))] [] (one (.bool y132)) [],([]:List Nat).Nodup,(!y132)=false,y113=false,y113=false]) kr (sound _ _) ⟨(ZY k _ _ hy130),(by decide),hb131,(ZG k _ _ _ hy132),(by decide),hb133,hb134,hb142,trivial⟩ ?_
 exact ⟨false,kr,kr,hF⟩ } } } }
 {
 have hF:=Zh hF hb131
 refine WA.reg [2,12,13,125] [112] [(1,.callR [] (one (.bool y130))),(2,.bool false)] (env':=[(2,one (.str v2)),(12,.val false [.ptr 112 1 0 0]),(13,one (.bool y113)),(125,one (.bool false))]) (os':=[(112,.box (pvL (Zc (⟨4,([]:List Zb),([v0]:List Ze),0,1⟩:Ze))))]) (O:=[Sim Tryz.prog GL0 30 [.val true (pvL (Zc (⟨4,([]:List Zb),([v0]:List Ze),0,(-1)⟩:Ze)))] [] (one (.bool y130)) [],([]:List Nat).Nodup,y130=false]) kr (sound _ _) ⟨(ZY k _ _ hy130),(by decide),hb131,trivial⟩ ?_
 exact ⟨false,kr,kr,hF⟩ } } } }
 {
 obtain ⟨y121,hy121,hF⟩:=bind_some hF
 rcases Bool.eq_false_or_eq_true y121 with hb122 | hb122
 {
 have hF:=Zi hF hb122
 rcases Bool.eq_false_or_eq_true y113 with hb123 | hb123
 {
 have hF:=Zi hF hb123
 obtain ⟨y124,hy124,hF⟩:=bind_some hF
 rcases Bool.eq_false_or_eq_true y124 with hb125 | hb125
 {
 have hF:=Zi hF hb125
 obtain ⟨hc126,hF⟩:=Zn hF
 obtain ⟨y127,hy127,hF⟩:=bind_some hF
 refine WA.reg [2,3,4,11,12,13,93] [104,111,112] [(1,.callR [] (one (.bool y121))),(2,.bool true),(5,.bool true),(8,.callR [] (one (.bool y124))),(10,.bool true),(15,.callR [] (one (.bool y127)))] (env':=[(2,one (.str v2)),(3,one (.str v3)),(4,.val false [.ptr 104 1 0 0]),(11,.val false [.ptr 111 1 0 0]),(12,.val false [.ptr 112 1 0 0]),(13,one (.bool y113)),(93,one (.bool (!y127)))]) (os':=[(104,.box (pvL (Zc v0))),(111,.box (pvL (Zc (⟨4,([]:List Zb),([v0]:List Ze),0,(-1)⟩:Ze)))),(112,.box (pvL (Zc (⟨4,([]:List Zb),([v0]:List Ze),0,1⟩:Ze))))]) (O:=[Sim Tryz.prog GL0 30 [.val true (pvL (Zc (⟨2,([]:List Zb),([v0,v1]:List Ze),0,0⟩:Ze)))] [] (one (.bool y121)) [],([]:List Nat).Nodup,y121=true,y113=true,Sim Tryz.prog GL0 31 [.val true (pvL (Zc v1)),one (.str v3)] [] (one (.bool y124)) [],([]:List Nat).Nodup,y124=true,v2.length+v3.length≤4611686018427387904,Sim Tryz.prog GL0 31 [.val true (pvL (Zc (⟨2,([]:List Zb),([v0,v1]:List Ze),0,0⟩:Ze))),one (.str (v2 ++ v3))] [] (one (.bool y127)) [],([]:List Nat).Nodup]) kr (sound _ _) ⟨(ZY k _ _ hy121),(by decide),hb122,hb123,(ZG k _ _ _ hy124),(by decide),hb125,hc126,(ZG k _ _ _ hy127),(by decide),trivial⟩ ?_
 exact ⟨(!y127),kr,kr,hF⟩ }
 {
 have hF:=Zh hF hb125
 refine WA.reg [2,3,4,11,12,13,93] [104,111,112] [(1,.callR [] (one (.bool y121))),(2,.bool true),(5,.bool true),(8,.callR [] (one (.bool y124))),(10,.bool false)] (env':=[(2,one (.str v2)),(3,one (.str v3)),(4,.val false [.ptr 104 1 0 0]),(11,.val false [.ptr 111 1 0 0]),(12,.val false [.ptr 112 1 0 0]),(13,one (.bool y113)),(93,one (.bool false))]) (os':=[(104,.box (pvL (Zc v0))),(111,.box (pvL (Zc (⟨4,([]:List Zb),([v0]:List Ze),0,(-1)⟩:Ze)))),(112,.box (pvL (Zc (⟨4,([]:List Zb),([v0]:List Ze),0,1⟩:Ze))))]) (O:=[Sim Tryz.prog GL0 30 [.val true (pvL (Zc (⟨2,([]:List Zb),([v0,v1]:List Ze),0,0⟩:Ze)))] [] (one (.bool y121)) [],([]:List Nat).Nodup,y121=true,y113=true,Sim Tryz.prog GL0 31 [.val true (pvL (Zc v1)),one (.str v3)] [] (one (.bool y124)) [],([]:List Nat).Nodup,y124=false]) kr (sound _ _) ⟨(ZY k _ _ hy121),(by decide),hb122,hb123,(ZG k _ _ _ hy124),(by decide),hb125,trivial⟩ ?_
 exact ⟨false,kr,kr,hF⟩ } }
 {
 have hF:=Zh hF hb123
 refine WA.reg [2,3,4,11,12,13,93] [104,111,112] [(1,.callR [] (one (.bool y121))),(2,.bool true),(5,.bool false)] (env':=[(2,one (.str v2)),(3,one (.str v3)),(4,.val false [.ptr 104 1 0 0]),(11,.val false [.ptr 111 1 0 0]),(12,.val false [.ptr 112 1 0 0]),(13,one (.bool y113)),(93,one (.bool false))]) (os':=[(104,.box (pvL (Zc v0))),(111,.box (pvL (Zc (⟨4,([]:List Zb),([v0]:List Ze),0,(-1)⟩:Ze)))),(112,.box (pvL (Zc (⟨4,([]:List Zb),([v0]:List Ze),0,1⟩:Ze))))]) (O:=[Sim Tryz.prog GL0 30 [.val true (pvL (Zc (⟨2,([]:List Zb),([v0,v1]:List Ze),0,0⟩:Ze)))] [] (one (.bool y121)) [],([]:List Nat).Nodup,y121=true,y113=false]) kr (sound _ _) ⟨(ZY k _ _ hy121),(by decide),hb122,hb123,trivial⟩ ?_
 exact ⟨false,kr,kr,hF⟩ } }
 {
 have hF:=Zh hF hb122
 refine WA.reg [2,3,4,11,12,13,93] [104,111,112] [(1,.callR [] (one (.bool y121))),(2,.bool false)] (env':=[(2,one (.str v2)),(3,one (.str v3)),(4,.val false [.ptr 104 1 0 0]),(11,.val false [.ptr 111 1 0 0]),(12,.val false [.ptr 112 1 0 0]),(13,one (.bool y113)),(93,one (.bool false))]) (os':=[(104,.box (pvL (Zc v0))),(111,.box (pvL (Zc (⟨4,([]:List Zb),([v0]:List Ze),0,(-1)⟩:Ze)))),(112,.box (pvL (Zc (⟨4,([]:List Zb),([v0]:List Ze),0,1⟩:Ze))))]) (O:=[Sim Tryz.prog GL0 30 [.val true (pvL (Zc (⟨2,([]:List Zb),([v0,v1]:List Ze),0,0⟩:Ze)))] [] (one (.bool y121)) [],([]:List Nat).Nodup,y121=false]) kr (sound _ _) ⟨(ZY k _ _ hy121),(by decide),hb122,trivial⟩ ?_
 exact ⟨false,kr,kr,hF⟩ } } } }
 {
 obtain ⟨y115,hy115,hF⟩:=bind_some hF
 rcases Bool.eq_false_or_eq_true y115 with hb116 | hb116
 {
 have hF:=Zi hF hb116
 obtain ⟨y117,hy117,hF⟩:=bind_some hF
 rcases Bool.eq_false_or_eq_true y113 with hb118 | hb118
 {
 have hF:=Zi hF hb118
 refine WA.reg [2,3,4,5,10,11,12,13,75] [104,105,110,111,112] [(1,.callR [] (one (.bool y115))),(2,.bool true),(5,.callR [] (one (.bool y117))),(7,.bool true)] (env':=[(2,one (.str v2)),(3,one (.str v3)),(4,.val false [.ptr 104 1 0 0]),(5,.val false [.ptr 105 1 0 0]),(10,.val false [.ptr 110 1 0 0]),(11,.val false [.ptr 111 1 0 0]),(12,.val false [.ptr 112 1 0 0]),(13,one (.bool y113)),(75,one (.bool (!(y117 == true))))]) (os':=[(104,.box (pvL (Zc v0))),(105,.box (pvL (Zc v1))),(110,.box (pvL (Zc (⟨2,([]:List Zb),([v0,v1]:List Ze),0,0⟩:Ze)))),(111,.box (pvL (Zc (⟨4,([]:List Zb),([v0]:List Ze),0,(-1)⟩:Ze)))),(112,.box (pvL (Zc (⟨4,([]:List Zb),([v0]:List Ze),0,1⟩:Ze))))]) (O:=[Sim Tryz.prog GL0 30 [.val true (pvL (Zc (⟨3,([]:List Zb),([v0,v1]:List Ze),0,0⟩:Ze)))] [] (one (.bool y115)) [],([]:List Nat).Nodup,y115=true,Sim Tryz.prog GL0 31 [.val true (pvL (Zc (⟨3,([]:List Zb),([v0,v1]:List Ze),0,0⟩:Ze))),one (.str v2)] [] (one (.bool y117)) [],([]:List Nat).Nodup,y113=true]) kr (sound _ _) ⟨(ZY k _ _ hy115),(by decide),hb116,(ZG k _ _ _ hy117),(by decide),hb118,trivial⟩ ?_
 exact ⟨(!(y117 == true)),kr,kr,hF⟩ }
 {
 have hF:=Zh hF hb118
 refine WA.reg [2,3,4,5,10,11,12,13,75] [104,105,110,111,112] [(1,.callR [] (one (.bool y115))),(2,.bool true),(5,.callR [] (one (.bool y117))),(7,.bool false)] (env':=[(2,one (.str v2)),(3,one (.str v3)),(4,.val false [.ptr 104 1 0 0]),(5,.val false [.ptr 105 1 0 0]),(10,.val false [.ptr 110 1 0 0]),(11,.val false [.ptr 111 1 0 0]),(12,.val false [.ptr 112 1 0 0]),(13,one (.bool y113)),(75,one (.bool (!(y117 == y114))))]) (os':=[(104,.box (pvL (Zc v0))),(105,.box (pvL (Zc v1))),(110,.box (pvL (Zc (⟨2,([]:List Zb),([v0,v1]:List Ze),0,0⟩:Ze)))),(111,.box (pvL (Zc (⟨4,([]:List Zb),([v0]:List Ze),0,(-1)⟩:Ze)))),(112,.box (pvL (Zc (⟨4,([]:List Zb),([v0]:List Ze),0,1⟩:Ze))))]) (O:=[Sim Tryz.prog GL0 30 [.val true (pvL (Zc (⟨3,([]:List Zb),([v0,v1]:List Ze),0,0⟩:Ze)))] [] (one (.bool y115)) [],([]:List Nat).Nodup,y115=true,Sim Tryz.prog GL0 31 [.val true (pvL (Zc (⟨3,([]:List Zb),([v0,v1]:List Ze),0,0⟩:Ze))),one (.str v2)] [] (one (.bool y117)) [],([]:List Nat).Nodup,y113=false]) kr (sound _ _) ⟨(ZY k _ _ hy115),(by decide),hb116,(ZG k _ _ _ hy117),(by decide),hb118,trivial⟩ ?_
 exact ⟨(!(y117 == y114)),kr,kr,hF⟩ } }
 {
 have hF:=Zh hF hb116
 refine WA.reg [2,3,4,5,10,11,12,13,75] [104,105,110,111,112] [(1,.callR [] (one (.bool y115))),(2,.bool false)] (env':=[(2,one (.str v2)),(3,one (.str v3)),(4,.val false [.ptr 104 1 0 0]),(5,.val false [.ptr 105 1 0 0]),(10,.val false [.ptr 110 1 0 0]),(11,.val false [.ptr 111 1 0 0]),(12,.val false [.ptr 112 1 0 0]),(13,one (.bool y113)),(75,one (.bool false))]) (os':=[(104,.box (pvL (Zc v0))),(105,.box (pvL (Zc v1))),(110,.box (pvL (Zc (⟨2,([]:List Zb),([v0,v1]:List Ze),0,0⟩:Ze)))),(111,.box (pvL (Zc (⟨4,([]:List Zb),([v0]:List Ze),0,(-1)⟩:Ze)))),(112,.box (pvL (Zc (⟨4,([]:List Zb),([v0]:List Ze),0,1⟩:Ze))))]) (O:=[Sim Tryz.prog GL0 30 [.val true (pvL (Zc (⟨3,([]:List Zb),([v0,v1]:List Ze),0,0⟩:Ze)))] [] (one (.bool y115)) [],([]:List Nat).Nodup,y115=false]) kr (sound _ _) ⟨(ZY k _ _ hy115),(by decide),hb116,trivial⟩ ?_
 exact ⟨false,kr,kr,hF⟩ } } } }
 {
 obtain ⟨y101,hy101,hF⟩:=bind_some hF
 rcases Bool.eq_false_or_eq_true (!y101) with hb102 | hb102
 {
 have hF:=Zi hF hb102
 refine WA.reg [2,3,4,5,42] [104,105] [(1,.callR [] (one (.bool y101))),(3,.bool true)] (env':=[(2,one (.str v2)),(3,one (.str v3)),(4,.val false [.ptr 104 1 0 0]),(5,.val false [.ptr 105 1 0 0]),(42,one (.bool true))]) (os':=[(104,.box (pvL (Zc v0))),(105,.box (pvL (Zc v1)))]) (O:=[Sim Tryz.prog GL0 21 [.val true (pvL (Zc v0))] [] (one (.bool y101)) [],([]:List Nat).Nodup,(!y101)=true]) kr (sound _ _) ⟨(Za9 k _ _ hy101),(by decide),hb102,trivial⟩ ?_
 exact ⟨true,kr,kr,hF⟩ }
 {
 have hF:=Zh hF hb102
 obtain ⟨y103,hy103,hF⟩:=bind_some hF
 rcases Bool.eq_false_or_eq_true (!y103) with hb104 | hb104
 {
 have hF:=Zi hF hb104
 refine WA.reg [2,3,4,5,42] [104,105] [(1,.callR [] (one (.bool y101))),(3,.bool false),(5,.callR [] (one (.bool y103))),(8,.bool true)] (env':=[(2,one (.str v2)),(3,one (.str v3)),(4,.val false [.ptr 104 1 0 0]),(5,.val false [.ptr 105 1 0 0]),(42,one (.bool true))]) (os':=[(104,.box (pvL (Zc v0))),(105,.box (pvL (Zc v1)))]) (O:=[Sim Tryz.prog GL0 21 [.val true (pvL (Zc v0))] [] (one (.bool y101)) [],([]:List Nat).Nodup,(!y101)=false,Sim Tryz.prog GL0 21 [.val true (pvL (Zc v1))] [] (one (.bool y103)) [],([]:List Nat).Nodup,(!y103)=true]) kr (sound _ _) ⟨(Za9 k _ _ hy101),(by decide),hb102,(Za9 k _ _ hy103),(by decide),hb104,trivial⟩ ?_
 exact ⟨true,kr,kr,hF⟩ }
 {
 have hF:=Zh hF hb104
 rcases Bool.eq_false_or_eq_true (decide ((v2.length:Int) > 20)) with hb105 | hb105
 {
 have hF:=Zi hF hb105
 refine WA.reg [2,3,4,5,42] [104,105] [(1,.callR [] (one (.bool y101))),(3,.bool false),(5,.callR [] (one (.bool y103))),(8,.bool false),(13,.bool true)] (env':=[(2,one (.str v2)),(3,one (.str v3)),(4,.val false [.ptr 104 1 0 0]),(5,.val false [.ptr 105 1 0 0]),(42,one (.bool true))]) (os':=[(104,.box (pvL (Zc v0))),(105,.box (pvL (Zc v1)))]) (O:=[Sim Tryz.prog GL0 21 [.val true (pvL (Zc v0))] [] (one (.bool y101)) [],([]:List Nat).Nodup,(!y101)=false,Sim Tryz.prog GL0 21 [.val true (pvL (Zc v1))] [] (one (.bool y103)) [],([]:List Nat).Nodup,(!y103)=false,(decide ((v2.length:Int) > 20))=true]) kr (sound _ _) ⟨(Za9 k _ _ hy101),(by decide),hb102,(Za9 k _ _ hy103),(by decide),hb104,hb105,trivial⟩ ?_
 exact ⟨true,kr,kr,hF⟩ }
 {
 have hF:=Zh hF hb105
 rcases Bool.eq_false_or_eq_true (decide ((v3.length:Int) > 20)) with hb106 | hb106
 {
 have hF:=Zi hF hb106
 refine WA.reg [2,3,4,5,42] [104,105] [(1,.callR [] (one (.bool y101))),(3,.bool false),(5,.callR [] (one (.bool y103))),(8,.bool false),(13,.bool false),(18,.bool true)] (env':=[(2,one (.str v2)),(3,one (.str v3)),(4,.val false [.ptr 104 1 0 0]),(5,.val false [.ptr 105 1 0 0]),(42,one (.bool true))]) (os':=[(104,.box (pvL (Zc v0))),(105,.box (pvL (Zc v1)))]) (O:=[Sim Tryz.prog GL0 21 [.val true (pvL (Zc v0))] [] (one (.bool y101)) [],([]:List Nat).Nodup,(!y101)=false,Sim Tryz.prog GL0 21 [.val true (pvL (Zc v1))] [] (one (.bool y103)) [],([]:List Nat).Nodup,(!y103)=false,(decide ((v2.length:Int) > 20))=false,(decide ((v3.length:Int) > 20))=true]) kr (sound _ _) ⟨(Za9 k _ _ hy101),(by decide),hb102,(Za9 k _ _ hy103),(by decide),hb104,hb105,hb106,trivial⟩ ?_
 exact ⟨true,kr,kr,hF⟩ }
 {
 have hF:=Zh hF hb106
 obtain ⟨y107,hy107,hF⟩:=bind_some hF
 rcases Bool.eq_false_or_eq_true (!y107) with hb108 | hb108
 {
 have hF:=Zi hF hb108
 refine WA.reg [2,3,4,5,42] [104,105] [(1,.callR [] (one (.bool y101))),(3,.bool false),(5,.callR [] (one (.bool y103))),(8,.bool false),(13,.bool false),(18,.bool false),(20,.callR [] (one (.bool y107))),(23,.bool true)] (env':=[(2,one (.str v2)),(3,one (.str v3)),(4,.val false [.ptr 104 1 0 0]),(5,.val false [.ptr 105 1 0 0]),(42,one (.bool true))]) (os':=[(104,.box (pvL (Zc v0))),(105,.box (pvL (Zc v1)))]) (O:=[Sim Tryz.prog GL0 21 [.val true (pvL (Zc v0))] [] (one (.bool y101)) [],([]:List Nat).Nodup,(!y101)=false,Sim Tryz.prog GL0 21 [.val true (pvL (Zc v1))] [] (one (.bool y103)) [],([]:List Nat).Nodup,(!y103)=false,(decide ((v2.length:Int) > 20))=false,(decide ((v3.length:Int) > 20))=false,Sim Tryz.prog GL0 30 [.val true (pvL (Zc v0))] [] (one (.bool y107)) [],([]:List Nat).Nodup,(!y107)=true]) kr (sound _ _) ⟨(Za9 k _ _ hy101),(by decide),hb102,(Za9 k _ _ hy103),(by decide),hb104,hb105,hb106,(ZY k _ _ hy107),(by decide),hb108,trivial⟩ ?_
 exact ⟨true,kr,kr,hF⟩ }
 {
 have hF:=Zh hF hb108
 obtain ⟨y109,hy109,hF⟩:=bind_some hF
 refine WA.reg [2,3,4,5,42] [104,105] [(1,.callR [] (one (.bool y101))),(3,.bool false),(5,.callR [] (one (.bool y103))),(8,.bool false),(13,.bool false),(18,.bool false),(20,.callR [] (one (.bool y107))),(23,.bool false),(25,.callR [] (one (.bool y109)))] (env':=[(2,one (.str v2)),(3,one (.str v3)),(4,.val false [.ptr 104 1 0 0]),(5,.val false [.ptr 105 1 0 0]),(42,one (.bool (!y109)))]) (os':=[(104,.box (pvL (Zc v0))),(105,.box (pvL (Zc v1)))]) (O:=[Sim Tryz.prog GL0 21 [.val true (pvL (Zc v0))] [] (one (.bool y101)) [],([]:List Nat).Nodup,(!y101)=false,Sim Tryz.prog GL0 21 [.val true (pvL (Zc v1))] [] (one (.bool y103)) [],([]:List Nat).Nodup,(!y103)=false,(decide ((v2.length:Int) > 20))=false,(decide ((v3.length:Int) > 20))=false,Sim Tryz.prog GL0 30 [.val true (pvL (Zc v0))] [] (one (.bool y107)) [],([]:List Nat).Nodup,(!y107)=false,Sim Tryz.prog GL0 30 [.val true (pvL (Zc v1))] [] (one (.bool y109)) [],([]:List Nat).Nodup]) kr (sound _ _) ⟨(Za9 k _ _ hy101),(by decide),hb102,(Za9 k _ _ hy103),(by decide),hb104,hb105,hb106,(ZY k _ _ hy107),(by decide),hb108,(ZY k _ _ hy109),(by decide),trivial⟩ ?_
 exact ⟨(!y109),kr,kr,hF⟩ } } } } } }
end Go.Proofs.YthilboheomikjaaGreatDoor
end
section
namespace Go.Proofs.YthilboheomikjaaGreatDoor.Pure
open Go.AL Go.Lib
set_option maxRecDepth 100000
theorem ZhA:F26 6000=some true:=by kernel_rfl
theorem ZfB:Zc2 6000 false=some true:=by unfold Zc2;rw [cond_false,ZhA];rfl
theorem m6 {r:Ze} {s:List UInt8} (hf:fs r≤1571) (hs:s.length≤100):∃b,F31 6000 r s=some b∧(b=true↔Mt r s):=ZkT (by omega) (by omega) (by omega) (by omega)
theorem may6 {r:Ze} (hf:fs r≤1571):∃t,F30 6000 r=some t∧(t=true↔MayP r):=Zj6 (by omega) (by omega)
theorem Zf9 {k:Int} {a b:Ze} {x y:Int} (ha:fs a≤1570) (hb:fs b≤1570):fs ⟨k,[],[a,b],x,y⟩≤1571:=by simp only [fs,fsL,List.length_cons,List.length_nil];omega
theorem Zdz {k:Int} {a:Ze} {x y:Int} (ha:fs a≤1570):fs ⟨k,[],[a],x,y⟩≤1571:=by simp only [fs,fsL,List.length_cons,List.length_nil];omega
theorem Zl7 {a:Ze} {s:List UInt8} {p:Bool} (hfa:fs a≤1570) (hs:s.length≤20) (hma:MayP a) (hp:p=true↔Mt a s):ZaR 6000 a s p false=some true:=by
  unfold ZaR
  obtain ⟨t,e1,p1⟩:=may6 (Zdz (k:=4) (x:=0) (y:=1) hfa)
  rw [cond_false,e1,Option.bind_some]
  cases t
  · rw [cond_false];exact ZfB
  · obtain ⟨y,e2,p2⟩:=m6 (s:=s) (Zdz (k:=4) (x:=0) (y:=1) hfa) (by omega)
    rw [cond_true,e2,Option.bind_some]
    have hm:=p1.1 rfl
    have hl:∀w,Lang ⟨4,[],[a],0,1⟩ w↔w=[]∨Lang a w:=fun w=>by
      rw [Zea]
      constructor
      · rintro ⟨n,h1,h2,h3⟩
        have:n=0∨n=1:=by omega
        rcases this with rfl | rfl
        · exact .inl h3
        · exact .inr ((Zfa w).1 h3)
      · rintro (h | h)
        · exact ⟨0,by omega,by omega,h⟩
        · exact ⟨1,by omega,by omega,(Zfa w).2 h⟩
    cases p
    · have:y=(s == []):=by
        have h0:¬Mt a s:=fun c=>by have:=hp.2 c;cases this
        by_cases hs0:s=[]
        · subst hs0
          rw [p2.2 ⟨hm,rfl,(hl _).2 (.inl Zco)⟩];rfl
        · have:y=false:=by
            cases y
            · rfl
            · obtain ⟨_,h2,h3⟩:=p2.1 rfl
              rcases (hl _).1 h3 with h3 | h3
              · exact absurd (Zlj.1 h3) hs0
              · exact absurd ⟨hma,h2,h3⟩ h0
          rw [this]
          cases s
          · exact absurd rfl hs0
          · rfl
      rw [cond_false,this]
      simp only [beq_self_eq_true,Bool.not_true]
      exact ZfB
    · obtain ⟨_,h2,h3⟩:=hp.1 rfl
      rw [cond_true,p2.2 ⟨hm,h2,(hl _).2 (.inr h3)⟩]
      exact ZfB
theorem Zl6 {a:Ze} {s t:List UInt8} {p:Bool} (hfa:fs a≤1570) (hs:s.length≤20) (ht:t.length≤20) (hma:MayP a) (hp:p=true↔Mt a s):Zcq 6000 a s t p false=some true:=by
  unfold Zcq
  have fin:=Zl7 hfa hs hma hp
  obtain ⟨m,e1,p1⟩:=may6 (Zdz (k:=4) (x:=0) (y:=-1) hfa)
  rw [cond_false,e1,Option.bind_some]
  cases m
  · exact fin
  · have hm:=p1.1 rfl
    have hl:∀n w,Pow (Lang a) n w→Lang ⟨4,[],[a],0,-1⟩ w:=fun n w h=>(Zea w).2 ⟨n,by omega,.inl (by omega),h⟩
    obtain ⟨y,e2,p2⟩:=m6 (s:=[]) (Zdz (k:=4) (x:=0) (y:=-1) hfa) (by simp)
    have hy:y=true:=p2.2 ⟨hm,rfl,hl 0 _ Zco⟩
    subst hy
    rw [cond_true,e2,Option.bind_some,Bool.not_true,cond_false]
    cases p
    · rw [cond_false,cond_false];exact fin
    · obtain ⟨_,v1,l1⟩:=hp.1 rfl
      obtain ⟨y,e3,p3⟩:=m6 (s:=s) (Zdz (k:=4) (x:=0) (y:=-1) hfa) (by omega)
      have hy:y=true:=p3.2 ⟨hm,v1,hl 1 _ ((Zfa _).2 l1)⟩
      subst hy
      obtain ⟨z,e4,p4⟩:=m6 (r:=a) (s:=t) (by omega) (by omega)
      rw [cond_true,e3,Option.bind_some,Bool.not_true,cond_false,cond_true,e4,Option.bind_some]
      cases z
      · exact fin
      · obtain ⟨_,v2,l2⟩:=p4.1 rfl
        obtain ⟨va,pa⟩:=ZeR s.length s t (Nat.le_refl _) v1
        obtain ⟨y,e5,p5⟩:=m6 (s:=s ++ t) (Zdz (k:=4) (x:=0) (y:=-1) hfa) (by rw [List.length_append];omega)
        have hy:y=true:=p5.2 ⟨hm,by rw [va];exact v2,hl 2 _ (by rw [pa];exact ⟨_,_,rfl,l1,(Zfa _).2 l2⟩)⟩
        subst hy
        rw [cond_true,if_pos (by omega),e5,Option.bind_some]
        exact fin
theorem RexLaws (a b:Ze) (s t:List UInt8) (_:s.length≤140737488351232) (_:t.length≤140737488351232):∃k,F10 k a b s t=some true:=by
  refine ⟨6000,?_⟩
  have short:Zbo 6000 a b s t true=some true:=by unfold Zbo;rw [cond_true,ZhA];rfl
  obtain ⟨t1,e1,p1⟩:=Zj4 (k:=6000) (by omega) a
  obtain ⟨t2,e2,p2⟩:=Zj4 (k:=6000) (by omega) b
  unfold F10
  rw [e1,Option.bind_some]
  cases t1
  · exact short
  have hfa:=p1 rfl
  rw [Bool.not_true,cond_false,e2,Option.bind_some]
  cases t2
  · exact short
  have hfb:=p2 rfl
  rw [Bool.not_true,cond_false]
  by_cases h1:(s.length:Int) > 20
  · rw [dt h1];exact short
  rw [df h1,cond_false]
  by_cases h2:(t.length:Int) > 20
  · rw [dt h2];exact short
  rw [df h2,cond_false]
  obtain ⟨m1,e3,p3⟩:=may6 (r:=a) (by omega)
  obtain ⟨m2,e4,p4⟩:=may6 (r:=b) (by omega)
  rw [e3,Option.bind_some]
  cases m1
  · exact short
  rw [Bool.not_true,cond_false,e4,Option.bind_some]
  cases m2
  · exact short
  have hma:=p3.1 rfl
  have hmb:=p4.1 rfl
  rw [Bool.not_true]
  unfold Zbo
  obtain ⟨p,e5,hp⟩:=m6 (r:=a) (s:=s) (by omega) (by omega)
  obtain ⟨q,e6,hq⟩:=m6 (r:=b) (s:=s) (by omega) (by omega)
  rw [cond_false,e5,Option.bind_some,e6,Option.bind_some]
  have fin:=Zl6 (t:=t) hfa (by omega) (by omega) hma hp
  have hseq:Zc1 6000 a b s t p false=some true:=by
    unfold Zc1
    obtain ⟨m,e7,p7⟩:=may6 (Zf9 (k:=2) (x:=0) (y:=0) hfa hfb)
    rw [cond_false,e7,Option.bind_some]
    cases m
    · exact fin
    · rw [cond_true]
      cases p
      · exact fin
      · obtain ⟨_,v1,l1⟩:=hp.1 rfl
        obtain ⟨z,e8,p8⟩:=m6 (r:=b) (s:=t) (by omega) (by omega)
        rw [cond_true,e8,Option.bind_some]
        cases z
        · exact fin
        · obtain ⟨_,v2,l2⟩:=p8.1 rfl
          obtain ⟨va,pa⟩:=ZeR s.length s t (Nat.le_refl _) v1
          obtain ⟨y,e9,p9⟩:=m6 (s:=s ++ t) (Zf9 (k:=2) (x:=0) (y:=0) hfa hfb) (by rw [List.length_append];omega)
          have hy:y=true:=p9.2 ⟨p7.1 rfl,by rw [va];exact v2,by
            rw [pa,Zcj]
            exact .inr (.inl ⟨rfl,by simp only [LSeq];exact ⟨_,_,rfl,l1,_,[],by simp,l2,rfl⟩⟩)⟩
          subst hy
          rw [cond_true,if_pos (by omega),e9,Option.bind_some]
          exact fin
  obtain ⟨m,e7,p7⟩:=may6 (Zf9 (k:=3) (x:=0) (y:=0) hfa hfb)
  rw [e7,Option.bind_some]
  cases m
  · exact hseq
  · obtain ⟨y,e8,p8⟩:=m6 (s:=s) (Zf9 (k:=3) (x:=0) (y:=0) hfa hfb) (by omega)
    have hl:∀w,Lang ⟨3,[],[a,b],0,0⟩ w↔Lang a w∨Lang b w:=fun w=>by rw [Zcj];simp [LAlt]
    rw [cond_true,e8,Option.bind_some]
    cases p
    · have:y=q:=by
        have h0:¬Mt a s:=fun c=>by have:=hp.2 c;cases this
        cases q
        · cases y
          · rfl
          · obtain ⟨_,h2,h3⟩:=p8.1 rfl
            rcases (hl _).1 h3 with h3 | h3
            · exact absurd ⟨hma,h2,h3⟩ h0
            · exact absurd (hq.2 ⟨hmb,h2,h3⟩) (by simp)
        · obtain ⟨_,h2,h3⟩:=hq.1 rfl
          exact p8.2 ⟨p7.1 rfl,h2,(hl _).2 (.inr h3)⟩
      rw [cond_false,this]
      simp only [beq_self_eq_true,Bool.not_true]
      exact hseq
    · obtain ⟨_,h2,h3⟩:=hp.1 rfl
      rw [cond_true,p8.2 ⟨p7.1 rfl,h2,(hl _).2 (.inl h3)⟩]
      exact hseq
end Go.Proofs.YthilboheomikjaaGreatDoor.Pure
end
