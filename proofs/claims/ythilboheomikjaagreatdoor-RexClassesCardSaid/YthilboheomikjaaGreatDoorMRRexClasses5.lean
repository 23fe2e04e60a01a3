/- GR, P10, P2, G7, G9, P5, P6, P7, G13, Q9, N5, N6, N7, N8, N9, G15, Q13 -/
import Derived.Test.YthilboheomikjaaGreatDoorMRRexClasses4
import Derived.Shelf.Strings.Runes
import Derived.Shelf.Strings.IndexAny
import Derived.Below
import Derived.WalkKit
import Derived.Defers
import Derived.Recover
set_option linter.unusedVariables false
set_option linter.unusedSimpArgs false
section
namespace Go.Proofs.YthilboheomikjaaGreatDoor
open Go.AL
set_option maxRecDepth 100000
def ZgI (v105:Bool):Option Bool:=
  cond v105 ((some true)) (((some false)))
def ZgH (v0:Int) (v102:Bool):Option Bool:=
  cond v102 ((some true)) (cond (decide (57343<v0)) ((ZgI (decide (v0≤1114111)))) ((ZgI false)))
def F115 (k:Nat) (v0:Int):Option Bool:=
  (cond (decide (0≤v0)) ((ZgH v0 (decide (v0<55296)))) ((ZgH v0 false)))
theorem ZlP (k:Nat) (v0:Int) (r:Bool) (hF:F115 k v0=some r):Sim Tryz.prog GL0 115 [one (.int .i32 v0)] [] (one (.bool r)) []:=by
 refine ZC [] Tryz.func115 rfl kr kr ?_
 show WA _ _ 17 _ _ _
 refine WA.seq ?_
 refine WA.reg [0] [] [] (env':=[(0,one (.int .i32 v0))]) (os':=[]) (O:=[]) kr (sound _ _) trivial ?_
 refine WA.seq ?_
 refine WA.block ?_
 refine WA.join (fun s_=>∃(v102:Bool),Zi s_.env [0,3]=[(0,one (.int .i32 v0)),(3,one (.bool v102))]∧Zi s_.os []=[]∧ZgH v0 v102=some r) ?_ ?_
 {
 rintro s_ ⟨v102,he,ho,hF⟩
 refine WA.keep _ _ he ho ?_
 clear he ho
 refine WA.cond (b:=v102) rfl (fun hb103=>?_) (fun hb103=>?_)
 {
 have hF:=Zk hF hb103
 refine WA.seq ?_
 refine WA.reg [2] [] [] (env':=[(2,one (.bool true))]) (os':=[]) (O:=[]) kr (sound _ _) trivial ?_
 refine WA.ret ?_
 obtain rfl:=Option.some.inj hF
 exact Zu (one (.bool true)) [] kr kr kr kr (by decide) rfl rfl }
 {
 have hF:=Zj hF hb103
 refine WA.join (fun s_=>∃(v105:Bool),Zi s_.env [10]=[(10,one (.bool v105))]∧Zi s_.os []=[]∧ZgI v105=some r) ?_ ?_
 {
 rintro s_ ⟨v105,he,ho,hF⟩
 refine WA.keep _ _ he ho ?_
 clear he ho
 refine WA.cond (b:=v105) rfl (fun hb106=>?_) (fun hb106=>?_)
 {
 have hF:=Zk hF hb106
 refine WA.seq ?_
 refine WA.reg [2] [] [] (env':=[(2,one (.bool true))]) (os':=[]) (O:=[]) kr (sound _ _) trivial ?_
 refine WA.ret ?_
 obtain rfl:=Option.some.inj hF
 exact Zu (one (.bool true)) [] kr kr kr kr (by decide) rfl rfl }
 {
 have hF:=Zj hF hb106
 refine WA.skip ?_
 refine WA.seq ?_
 refine WA.reg [2] [] [] (env':=[(2,one (.bool false))]) (os':=[]) (O:=[]) kr (sound _ _) trivial ?_
 refine WA.ret ?_
 obtain rfl:=Option.some.inj hF
 exact Zu (one (.bool false)) [] kr kr kr kr (by decide) rfl rfl } }
 {
 rcases Bool.eq_false_or_eq_true (decide (57343<v0)) with hb104 | hb104
 {
 have hF:=Zk hF hb104
 refine WA.reg [10] [] [(2,.bool true)] (env':=[(10,one (.bool (decide (v0≤1114111))))]) (os':=[]) (O:=[(decide (57343<v0))=true]) kr (sound _ _) ⟨hb104,trivial⟩ ?_
 exact ⟨(decide (v0≤1114111)),kr,kr,hF⟩ }
 {
 have hF:=Zj hF hb104
 refine WA.reg [10] [] [(2,.bool false)] (env':=[(10,one (.bool false))]) (os':=[]) (O:=[(decide (57343<v0))=false]) kr (sound _ _) ⟨hb104,trivial⟩ ?_
 exact ⟨false,kr,kr,hF⟩ } } } }
 {
 rcases Bool.eq_false_or_eq_true (decide (0≤v0)) with hb101 | hb101
 {
 have hF:=Zk hF hb101
 refine WA.reg [0,3] [] [(2,.bool true)] (env':=[(0,one (.int .i32 v0)),(3,one (.bool (decide (v0<55296))))]) (os':=[]) (O:=[(decide (0≤v0))=true]) kr (sound _ _) ⟨hb101,trivial⟩ ?_
 exact ⟨(decide (v0<55296)),kr,kr,hF⟩ }
 {
 have hF:=Zj hF hb101
 refine WA.reg [0,3] [] [(2,.bool false)] (env':=[(0,one (.int .i32 v0)),(3,one (.bool false))]) (os':=[]) (O:=[(decide (0≤v0))=false]) kr (sound _ _) ⟨hb101,trivial⟩ ?_
 exact ⟨false,kr,kr,hF⟩ } }
def Zje (self5:Int→Option Int) (v0:List UInt8) (v1:Int) (v139:Int) (v149:Int):Option Int:=
  (cond (decide (v149<(((Utf8.encode v1).data.toList).length:Int))) ((idxL v0 (w64 (v139-v149))).bind fun y151=>(idxL ((Utf8.encode v1).data.toList) (w64 ((w64 ((((Utf8.encode v1).data.toList).length:Int)-1))-v149))).bind fun y152=>(cond ((y151.toNat:Int) != (y152.toNat:Int)) (none) ((self5 (w64 (v149+1)))))) (((some (w64 (v139-(w64 ((((Utf8.encode v1).data.toList).length:Int)-1))))))))
def Zfl (v0:List UInt8) (v1:Int) (v139:Int):Nat→Int→Option Int
  | 0,_=>none
  | m_+1,v149=>Zje (Zfl v0 v1 v139 m_) v0 v1 v139 v149
def ZgN (k:Nat) (v0:List UInt8) (v1:Int) (v139:Int):Option Int:=
  (Zfl v0 v1 v139 k 1)
def Zjd (k:Nat) (v0:List UInt8) (v1:Int):Option Int:=
  (cond (decide ((w64 ((((Utf8.encode v1).data.toList).length:Int)-1))<(v0.length:Int))) ((idxL v0 (w64 ((((Utf8.encode v1).data.toList).length:Int)-1))).bind fun y132=>(idxL ((Utf8.encode v1).data.toList) (w64 ((((Utf8.encode v1).data.toList).length:Int)-1))).bind fun y133=>(cond ((y132.toNat:Int) != (y133.toNat:Int)) (if (0:Int)≤(w64 ((w64 ((((Utf8.encode v1).data.toList).length:Int)-1))+1))∧((w64 ((w64 ((((Utf8.encode v1).data.toList).length:Int)-1))+1)):Int)≤(v0.length:Int)∧(v0.length:Int)≤(v0.length:Int) then (idxL ((Utf8.encode v1).data.toList) (w64 ((((Utf8.encode v1).data.toList).length:Int)-1))).bind fun y136=>(F170 k ((v0.take (Int.toNat (v0.length:Int))).drop (Int.toNat (w64 ((w64 ((((Utf8.encode v1).data.toList).length:Int)-1))+1)))) (y136.toNat:Int)).bind fun y137=>((cond (decide (y137<0)) ((some (-1))) (((ZgN k v0 v1 (w64 ((w64 ((((Utf8.encode v1).data.toList).length:Int)-1))+(w64 (y137+1))))))))) else none) ((ZgN k v0 v1 (w64 ((((Utf8.encode v1).data.toList).length:Int)-1)))))) (((some (-1)))))
def ZgO (k:Nat) (v0:List UInt8) (v1:Int):Nat→Option Int
  | 0=>none
  | m_+1=>Zjd k v0 v1
def Zfk (k:Nat) (v0:List UInt8) (v1:Int) (v102:Bool):Option Int:=
  cond v102 ((F170 k v0 (IntKind.wrap .u8 v1)).bind fun y104=>(some y104)) ((cond (v1 == 65533) (none) ((F115 k v1).bind fun y106=>(cond (!y106) ((some (-1))) (((((ZgO k v0 v1 k)))))))))
def F171 (k:Nat) (v0:List UInt8) (v1:Int):Option Int:=
  (cond (decide (0≤v1)) ((Zfk k v0 v1 (decide (v1<128)))) ((Zfk k v0 v1 false)))
theorem Zl1 (k:Nat) (v0:List UInt8) (v1:Int) (r:Int) (hF:F171 k v0 v1=some r):Sim Tryz.prog GL0 171 [one (.str v0),one (.int .i32 v1)] [] (one (.int .i64 r)) []:=by
 refine ZC [] Tryz.func171 rfl kr kr ?_
 show WA _ _ 187 _ _ _
 refine WA.seq ?_
 refine WA.reg [0,1] [] [] (env':=[(0,one (.str v0)),(1,one (.int .i32 v1))]) (os':=[]) (O:=[]) kr (sound _ _) trivial ?_
 refine WA.block ?_
 refine WA.join (fun s_=>∃(v102:Bool),Zi s_.env [0,1,160]=[(0,one (.str v0)),(1,one (.int .i32 v1)),(160,one (.bool v102))]∧Zi s_.os []=[]∧Zfk k v0 v1 v102=some r) ?_ ?_
 {
 rintro s_ ⟨v102,he,ho,hF⟩
 refine WA.keep _ _ he ho ?_
 clear he ho
 refine WA.cond (b:=v102) rfl (fun hb103=>?_) (fun hb103=>?_)
 {
 have hF:=Zk hF hb103
 refine WA.seq ?_
 obtain ⟨y104,hy104,hF⟩:=bind_some hF
 refine WA.reg [4] [] [(3,.callR [] (one (.int .i64 y104)))] (env':=[(4,one (.int .i64 y104))]) (os':=[]) (O:=[Sim Tryz.prog GL0 170 [one (.str v0),one (.int .u8 (IntKind.wrap .u8 v1))] [] (one (.int .i64 y104)) [],([]:List Nat).Nodup]) kr (sound _ _) ⟨(ZgM k _ _ _ hy104),(by decide),trivial⟩ ?_
 refine WA.ret ?_
 obtain rfl:=Option.some.inj hF
 exact Zu (one (.int .i64 y104)) [] kr kr kr kr (by decide) rfl rfl }
 {
 have hF:=Zj hF hb103
 refine WA.seq ?_
 refine WA.reg [0,1,171] [] [] (env':=[(0,one (.str v0)),(1,one (.int .i32 v1)),(171,one (.bool (v1 == 65533)))]) (os':=[]) (O:=[]) kr (sound _ _) trivial ?_
 refine WA.cond (b:=(v1 == 65533)) rfl (fun hb105=>?_) (fun hb105=>?_)
 {
 have hF:=Zk hF hb105
 cases hF }
 {
 have hF:=Zj hF hb105
 refine WA.seq ?_
 obtain ⟨y106,hy106,hF⟩:=bind_some hF
 refine WA.reg [0,1,183] [] [(1,.callR [] (one (.bool y106)))] (env':=[(0,one (.str v0)),(1,one (.int .i32 v1)),(183,one (.bool (!y106)))]) (os':=[]) (O:=[Sim Tryz.prog GL0 115 [one (.int .i32 v1)] [] (one (.bool y106)) [],([]:List Nat).Nodup]) kr (sound _ _) ⟨(ZlP k _ _ hy106),(by decide),trivial⟩ ?_
 refine WA.cond (b:=(!y106)) rfl (fun hb107=>?_) (fun hb107=>?_)
 {
 have hF:=Zk hF hb107
 refine WA.seq ?_
 refine WA.reg [4] [] [] (env':=[(4,one (.int .i64 (-1)))]) (os':=[]) (O:=[]) kr (sound _ _) trivial ?_
 refine WA.ret ?_
 obtain rfl:=Option.some.inj hF
 exact Zu (one (.int .i64 (-1))) [] kr kr kr kr (by decide) rfl rfl }
 {
 have hF:=Zj hF hb107
 refine WA.scope ?_
 refine WA.seq ?_
 refine WA.reg [0,7] [] [] (env':=[(0,one (.str v0)),(7,one (.str ((Utf8.encode v1).data.toList)))]) (os':=[]) (O:=[]) kr (sound _ _) trivial ?_
 refine WA.seq ?_
 refine WA.reg [0,7,8] [] [] (env':=[(0,one (.str v0)),(7,one (.str ((Utf8.encode v1).data.toList))),(8,one (.int .i64 (w64 ((((Utf8.encode v1).data.toList).length:Int)-1))))]) (os':=[]) (O:=[]) kr (sound _ _) trivial ?_
 refine WA.seq ?_
 refine WA.reg [0,7,8,9] [] [] (env':=[(0,one (.str v0)),(7,one (.str ((Utf8.encode v1).data.toList))),(8,one (.int .i64 (w64 ((((Utf8.encode v1).data.toList).length:Int)-1)))),(9,one (.int .i64 (w64 ((((Utf8.encode v1).data.toList).length:Int)-1))))]) (os':=[]) (O:=[]) kr (sound _ _) trivial ?_
 refine WA.seq ?_
 refine WA.reg [0,7,8,9] [] [] (env':=[(0,one (.str v0)),(7,one (.str ((Utf8.encode v1).data.toList))),(8,one (.int .i64 (w64 ((((Utf8.encode v1).data.toList).length:Int)-1)))),(9,one (.int .i64 (w64 ((((Utf8.encode v1).data.toList).length:Int)-1))))]) (os':=[]) (O:=[]) kr (sound _ _) trivial ?_
 refine WA.seq ?_
 refine WA.block ?_
 refine WA.loop (fun m s_=>Zi s_.env [0,7,8,9]=[(0,one (.str v0)),(7,one (.str ((Utf8.encode v1).data.toList))),(8,one (.int .i64 (w64 ((((Utf8.encode v1).data.toList).length:Int)-1)))),(9,one (.int .i64 (w64 ((((Utf8.encode v1).data.toList).length:Int)-1))))]∧Zi s_.os []=[]∧ZgO k v0 v1 m=some r) k ⟨kr,kr,hF⟩ ?_
 clear hF
 rintro m3 s_ ⟨he,ho,hF⟩
 refine WA.keep _ _ he ho ?_
 clear he ho
 cases m3 with
 | zero=>cases hF
 | succ m3=>
  obtain ⟨self3,hself3⟩:∃g,g=ZgO k v0 v1 m3:=⟨_,rfl⟩
  have hF:Zjd k v0 v1=some r:=by first | (rw [hself3];exact hF) | exact hF
  refine WA.seq ?_
  refine WA.seq ?_
  refine WA.reg [0,7,8,9,26] [] [] (env':=[(0,one (.str v0)),(7,one (.str ((Utf8.encode v1).data.toList))),(8,one (.int .i64 (w64 ((((Utf8.encode v1).data.toList).length:Int)-1)))),(9,one (.int .i64 (w64 ((((Utf8.encode v1).data.toList).length:Int)-1)))),(26,one (.bool (decide ((w64 ((((Utf8.encode v1).data.toList).length:Int)-1))<(v0.length:Int)))))]) (os':=[]) (O:=[]) kr (sound _ _) trivial ?_
  refine WA.cond (b:=(decide ((w64 ((((Utf8.encode v1).data.toList).length:Int)-1))<(v0.length:Int)))) rfl (fun hb131=>?_) (fun hb131=>?_)
  {
 have hF:=Zk hF hb131
 refine WA.skip ?_
 refine WA.block ?_
 refine WA.scope ?_
 refine WA.join (fun s_=>∃(v139:Int),Zi s_.env [0,7,8,9]=[(0,one (.str v0)),(7,one (.str ((Utf8.encode v1).data.toList))),(8,one (.int .i64 (w64 ((((Utf8.encode v1).data.toList).length:Int)-1)))),(9,one (.int .i64 v139))]∧Zi s_.os []=[]∧ZgN k v0 v1 v139=some r) ?_ ?_
 {
 rintro s_ ⟨v139,he,ho,hF⟩
 refine WA.keep _ _ he ho ?_
 clear he ho
 refine WA.seq ?_
 refine WA.seq ?_
 refine WA.reg [0,7,8,9,12] [] [] (env':=[(0,one (.str v0)),(7,one (.str ((Utf8.encode v1).data.toList))),(8,one (.int .i64 (w64 ((((Utf8.encode v1).data.toList).length:Int)-1)))),(9,one (.int .i64 v139)),(12,one (.int .i64 1))]) (os':=[]) (O:=[]) kr (sound _ _) trivial ?_
 refine WA.block ?_
 refine WA.loop (fun m s_=>∃(v149:Int),Zi s_.env [0,7,8,9,12]=[(0,one (.str v0)),(7,one (.str ((Utf8.encode v1).data.toList))),(8,one (.int .i64 (w64 ((((Utf8.encode v1).data.toList).length:Int)-1)))),(9,one (.int .i64 v139)),(12,one (.int .i64 v149))]∧Zi s_.os []=[]∧Zfl v0 v1 v139 m v149=some r) k ⟨1,kr,kr,hF⟩ ?_
 clear hF
 rintro m5 s_ ⟨v149,he,ho,hF⟩
 refine WA.keep _ _ he ho ?_
 clear he ho
 cases m5 with
 | zero=>cases hF
 | succ m5=>
  obtain ⟨self5,hself5⟩:∃g,g=Zfl v0 v1 v139 m5:=⟨_,rfl⟩
  have hF:Zje self5 v0 v1 v139 v149=some r:=by first | (rw [hself5];exact hF) | exact hF
  refine WA.seq ?_
  refine WA.seq ?_
  refine WA.reg [0,7,8,9,12,51] [] [] (env':=[(0,one (.str v0)),(7,one (.str ((Utf8.encode v1).data.toList))),(8,one (.int .i64 (w64 ((((Utf8.encode v1).data.toList).length:Int)-1)))),(9,one (.int .i64 v139)),(12,one (.int .i64 v149)),(51,one (.bool (decide (v149<(((Utf8.encode v1).data.toList).length:Int)))))]) (os':=[]) (O:=[]) kr (sound _ _) trivial ?_
  refine WA.cond (b:=(decide (v149<(((Utf8.encode v1).data.toList).length:Int)))) rfl (fun hb150=>?_) (fun hb150=>?_)
  {
 have hF:=Zk hF hb150
 refine WA.skip ?_
 refine WA.seq ?_
 refine WA.block ?_
 refine WA.seq ?_
 obtain ⟨y151,hy151,hF⟩:=bind_some hF
 obtain ⟨y152,hy152,hF⟩:=bind_some hF
 refine WA.regD kr [0,7,8,9,12,64] [] [(4,.num (y151.toNat:Int)),(9,.num (y152.toNat:Int))] (env':=[(0,one (.str v0)),(7,one (.str ((Utf8.encode v1).data.toList))),(8,one (.int .i64 (w64 ((((Utf8.encode v1).data.toList).length:Int)-1)))),(9,one (.int .i64 v139)),(12,one (.int .i64 v149)),(64,one (.bool ((y151.toNat:Int) != (y152.toNat:Int))))]) (os':=[]) (O:=[(idxL v0 (w64 (v139-v149))).map (fun b=>(b.toNat:Int))=some (y151.toNat:Int),(idxL ((Utf8.encode v1).data.toList) (w64 ((w64 ((((Utf8.encode v1).data.toList).length:Int)-1))-v149))).map (fun b=>(b.toNat:Int))=some (y152.toNat:Int)]) kr kr (sound _ _) ⟨(by rw [hy151];rfl),(by rw [hy152];rfl),trivial⟩ ?_
 refine WA.cond (b:=((y151.toNat:Int) != (y152.toNat:Int))) rfl (fun hb153=>?_) (fun hb153=>?_)
 {
 have hF:=Zk hF hb153
 cases hF }
 {
 have hF:=Zj hF hb153
 refine WA.skip ?_
 refine WA.reg [0,7,8,9,12] [] [] (env':=[(0,one (.str v0)),(7,one (.str ((Utf8.encode v1).data.toList))),(8,one (.int .i64 (w64 ((((Utf8.encode v1).data.toList).length:Int)-1)))),(9,one (.int .i64 v139)),(12,one (.int .i64 (w64 (v149+1))))]) (os':=[]) (O:=[]) kr (sound _ _) trivial ?_
 exact ⟨m5,Nat.lt_succ_self _,(w64 (v149+1)),kr,kr,by rw [hself5] at hF;exact hF⟩ } }
  {
 have hF:=Zj hF hb150
 refine WA.exit ?_
 refine WA.seq ?_
 refine WA.seq ?_
 refine WA.reg [4] [] [] (env':=[(4,one (.int .i64 (w64 (v139-(w64 ((((Utf8.encode v1).data.toList).length:Int)-1))))))]) (os':=[]) (O:=[]) kr (sound _ _) trivial ?_
 refine WA.ret ?_
 obtain rfl:=Option.some.inj hF
 exact Zu (one (.int .i64 (w64 (v139-(w64 ((((Utf8.encode v1).data.toList).length:Int)-1)))))) [] kr kr kr kr (by decide) rfl rfl } }
 {
 refine WA.seq ?_
 obtain ⟨y132,hy132,hF⟩:=bind_some hF
 obtain ⟨y133,hy133,hF⟩:=bind_some hF
 refine WA.regD kr [0,7,8,9,33] [] [(2,.num (y132.toNat:Int)),(5,.num (y133.toNat:Int))] (env':=[(0,one (.str v0)),(7,one (.str ((Utf8.encode v1).data.toList))),(8,one (.int .i64 (w64 ((((Utf8.encode v1).data.toList).length:Int)-1)))),(9,one (.int .i64 (w64 ((((Utf8.encode v1).data.toList).length:Int)-1)))),(33,one (.bool ((y132.toNat:Int) != (y133.toNat:Int))))]) (os':=[]) (O:=[(idxL v0 (w64 ((((Utf8.encode v1).data.toList).length:Int)-1))).map (fun b=>(b.toNat:Int))=some (y132.toNat:Int),(idxL ((Utf8.encode v1).data.toList) (w64 ((((Utf8.encode v1).data.toList).length:Int)-1))).map (fun b=>(b.toNat:Int))=some (y133.toNat:Int)]) kr kr (sound _ _) ⟨(by rw [hy132];rfl),(by rw [hy133];rfl),trivial⟩ ?_
 refine WA.cond (b:=((y132.toNat:Int) != (y133.toNat:Int))) rfl (fun hb134=>?_) (fun hb134=>?_)
 {
 have hF:=Zk hF hb134
 refine WA.seq ?_
 obtain ⟨hc135,hF⟩:=Zl hF
 obtain ⟨y136,hy136,hF⟩:=bind_some hF
 obtain ⟨y137,hy137,hF⟩:=bind_some hF
 refine WA.regD kr [0,7,8,9,11] [] [(6,.num (y136.toNat:Int)),(7,.callR [] (one (.int .i64 y137)))] (env':=[(0,one (.str v0)),(7,one (.str ((Utf8.encode v1).data.toList))),(8,one (.int .i64 (w64 ((((Utf8.encode v1).data.toList).length:Int)-1)))),(9,one (.int .i64 (w64 ((((Utf8.encode v1).data.toList).length:Int)-1)))),(11,one (.int .i64 y137))]) (os':=[]) (O:=[(0:Int)≤(w64 ((w64 ((((Utf8.encode v1).data.toList).length:Int)-1))+1)),((w64 ((w64 ((((Utf8.encode v1).data.toList).length:Int)-1))+1)):Int)≤(v0.length:Int),(v0.length:Int)≤(v0.length:Int),(idxL ((Utf8.encode v1).data.toList) (w64 ((((Utf8.encode v1).data.toList).length:Int)-1))).map (fun b=>(b.toNat:Int))=some (y136.toNat:Int),Sim Tryz.prog GL0 170 [one (.str ((v0.take (Int.toNat (v0.length:Int))).drop (Int.toNat (w64 ((w64 ((((Utf8.encode v1).data.toList).length:Int)-1))+1))))),one (.int .u8 (y136.toNat:Int))] [] (one (.int .i64 y137)) [],([]:List Nat).Nodup]) kr kr (sound _ _) ⟨hc135.1,hc135.2.1,hc135.2.2,(by rw [hy136];rfl),(ZgM k _ _ _ hy137),(by decide),trivial⟩ ?_
 refine WA.seq ?_
 refine WA.seq ?_
 refine WA.reg [0,7,8,9,11,43] [] [] (env':=[(0,one (.str v0)),(7,one (.str ((Utf8.encode v1).data.toList))),(8,one (.int .i64 (w64 ((((Utf8.encode v1).data.toList).length:Int)-1)))),(9,one (.int .i64 (w64 ((((Utf8.encode v1).data.toList).length:Int)-1)))),(11,one (.int .i64 y137)),(43,one (.bool (decide (y137<0))))]) (os':=[]) (O:=[]) kr (sound _ _) trivial ?_
 refine WA.cond (b:=(decide (y137<0))) rfl (fun hb138=>?_) (fun hb138=>?_)
 {
 have hF:=Zk hF hb138
 refine WA.seq ?_
 refine WA.reg [4] [] [] (env':=[(4,one (.int .i64 (-1)))]) (os':=[]) (O:=[]) kr (sound _ _) trivial ?_
 refine WA.ret ?_
 obtain rfl:=Option.some.inj hF
 exact Zu (one (.int .i64 (-1))) [] kr kr kr kr (by decide) rfl rfl }
 {
 have hF:=Zj hF hb138
 refine WA.skip ?_
 refine WA.reg [0,7,8,9] [] [] (env':=[(0,one (.str v0)),(7,one (.str ((Utf8.encode v1).data.toList))),(8,one (.int .i64 (w64 ((((Utf8.encode v1).data.toList).length:Int)-1)))),(9,one (.int .i64 (w64 ((w64 ((((Utf8.encode v1).data.toList).length:Int)-1))+(w64 (y137+1))))))]) (os':=[]) (O:=[]) kr (sound _ _) trivial ?_
 exact ⟨(w64 ((w64 ((((Utf8.encode v1).data.toList).length:Int)-1))+(w64 (y137+1)))),kr,kr,hF⟩ } }
 {
 have hF:=Zj hF hb134
 refine WA.skip ?_
 exact ⟨(w64 ((((Utf8.encode v1).data.toList).length:Int)-1)),kr,kr,hF⟩ } } }
  {
 have hF:=Zj hF hb131
 refine WA.exit ?_
 refine WA.seq ?_
 refine WA.seq ?_
 refine WA.reg [4] [] [] (env':=[(4,one (.int .i64 (-1)))]) (os':=[]) (O:=[]) kr (sound _ _) trivial ?_
 refine WA.ret ?_
 obtain rfl:=Option.some.inj hF
 exact Zu (one (.int .i64 (-1))) [] kr kr kr kr (by decide) rfl rfl } } } } }
 {
 rcases Bool.eq_false_or_eq_true (decide (0≤v1)) with hb101 | hb101
 {
 have hF:=Zk hF hb101
 refine WA.reg [0,1,160] [] [(2,.bool true)] (env':=[(0,one (.str v0)),(1,one (.int .i32 v1)),(160,one (.bool (decide (v1<128))))]) (os':=[]) (O:=[(decide (0≤v1))=true]) kr (sound _ _) ⟨hb101,trivial⟩ ?_
 exact ⟨(decide (v1<128)),kr,kr,hF⟩ }
 {
 have hF:=Zj hF hb101
 refine WA.reg [0,1,160] [] [(2,.bool false)] (env':=[(0,one (.str v0)),(1,one (.int .i32 v1)),(160,one (.bool false))]) (os':=[]) (O:=[(decide (0≤v1))=false]) kr (sound _ _) ⟨hb101,trivial⟩ ?_
 exact ⟨false,kr,kr,hF⟩ } }
def ZjB (k:Nat) (v0:List UInt8) (v1:Int):Option Bool:=
  (F171 k v0 v1).bind fun y101=>(some (decide (y101≥0)))
theorem ZkU (k:Nat) (v0:List UInt8) (v1:Int) (r:Bool) (hF:ZjB k v0 v1=some r):Sim Tryz.prog GL0 141 [one (.str v0),one (.int .i32 v1)] [] (one (.bool r)) []:=by
 refine ZC [] Tryz.func141 rfl kr kr ?_
 show WA _ _ 9 _ _ _
 refine WA.seq ?_
 refine WA.reg [0,1] [] [] (env':=[(0,one (.str v0)),(1,one (.int .i32 v1))]) (os':=[]) (O:=[]) kr (sound _ _) trivial ?_
 refine WA.seq ?_
 obtain ⟨y101,hy101,hF⟩:=bind_some hF
 refine WA.reg [4] [] [(2,.callR [] (one (.int .i64 y101)))] (env':=[(4,one (.bool (decide (y101≥0))))]) (os':=[]) (O:=[Sim Tryz.prog GL0 171 [one (.str v0),one (.int .i32 v1)] [] (one (.int .i64 y101)) [],([]:List Nat).Nodup]) kr (sound _ _) ⟨(Zl1 k _ _ _ hy101),(by decide),trivial⟩ ?_
 refine WA.ret ?_
 obtain rfl:=Option.some.inj hF
 exact Zu (one (.bool (decide (y101≥0)))) [] kr kr kr kr (by decide) rfl rfl
end Go.Proofs.YthilboheomikjaaGreatDoor
end
section
namespace Go.Proofs
open Go.Shelf Go.RowKit Go.Lib
variable {P:Program} {ρ:Ren}
set_option maxHeartbeats 2000000 in
set_option maxRecDepth 1000000 in
theorem ZgY (L:Lays.n152 P ρ) (s:ByteArray) (w:World) (hascii:∀(j:Nat) b,s.data.toList[j]?=some b→b.toNat<128) :
    Calls P (ρ.f 152) #[.string s,.int .i32 65533] w fun e w'=>e = .returned (.int .i64 (-1))∧∃pos,w'=w.iter s pos:=by
  have HA:Aside (∀(j:Nat) b,s.data.toList[j]?=some b→b.toNat<128):=hascii
  clear hascii
  have t3:=L.t3;have a3:=L.a3;have z3:=L.z3;have v3:=L.v3
  have t4:=L.t4;have a4:=L.a4;have z4:=L.z4;have v4:=L.v4
  have t5:=L.t5;have a5:=L.a5;have z5:=L.z5;have v5:=L.v5
  have t9:=L.t9;have a9:=L.a9;have z9:=L.z9;have v9:=L.v9
  have t21:=L.t21;have a21:=L.a21;have z21:=L.z21;have v21:=L.v21
  go_enter L.f152,Body.n152_ntmps ρ
  go_wp2
  go_loopg [5,6] s.size (fun g _ _ wx=>∃i:Nat,i+g=s.size∧wx=w.iter s i)
  case atStart=>exact ⟨0,by omega,rfl⟩
  case round=>
    obtain ⟨i,hig,rfl⟩:=hrel
    cases gk with
    | zero=>
      obtain rfl:i=s.size:=by omega
      have hnx:=run_next_end (P:=P) w s s.size
      go_wp2
      go_ret
      exact ⟨rfl,_,rfl⟩
    | succ g=>
      have hi:i<s.size:=by omega
      obtain ⟨x,hx⟩:∃x:UInt8,s[i]'hi=x:=⟨_,rfl⟩
      have hxl:s.data.toList[i]?=some x:=by rw [←hx];exact Lib.data_getElem? s i hi
      have hx128:x.toNat<128:=HA.out i x hxl
      have hnx:=fun ty=>run_next_ascii (P:=P) w s i ty hi (by rw [hx];exact hx128)
      rw [hx] at hnx
      have hne:((x.toNat:Int) == 65533)=false:=beq_eq_false_iff_ne.2 (by omega)
      go_wp2
      go_roundg g
      case measure=>omega
      case rel=>exact ⟨i+1,by omega,rfl⟩
set_option maxHeartbeats 2000000 in
set_option maxRecDepth 1000000 in
theorem Zfx (L:Lays.n151 P ρ) (s:ByteArray) (w:World) (hascii:∀(j:Nat) b,s.data.toList[j]?=some b→b.toNat<128) :
    Calls P (ρ.f 151) #[.string s,.int .i32 65533] w fun e w'=>e = .returned (.bool false)∧Below w.heap.size w w':=by
  have HA:Aside (∀(j:Nat) b,s.data.toList[j]?=some b→b.toNat<128):=hascii
  clear hascii
  have t3:=L.t3;have a3:=L.a3;have z3:=L.z3;have v3:=L.v3
  have t4:=L.t4;have a4:=L.a4;have z4:=L.z4;have v4:=L.v4
  have t9:=L.t9;have a9:=L.a9;have z9:=L.z9;have v9:=L.v9
  have t21:=L.t21;have a21:=L.a21;have z21:=L.z21;have v21:=L.v21
  have e152:∀args w,(callFunc (ρ.f 152) args).run P w = .ok (.enter (ρ.f 152) args) w:=enters_of L.f152 (by kernel_rfl) rfl
  go_enter L.f151,Body.n151_ntmps ρ
  go_wp2_with (go_at_fn (ρ.f 152);refine (ZgY { L with } _ _ HA.out).mono ?_;rintro e w' ⟨rfl,pos,hw⟩;rw [hw])
  go_ret
  exact ⟨rfl,(Below.refl _ w).alloc (Nat.le_refl _) _⟩
end Go.Proofs
end
section
namespace Go.Proofs.YthilboheomikjaaGreatDoor
open Go.AL Go.RowKit
def badV:Value:=.iface 70 (.agg #[])
def F141 (k:Nat) (s:List UInt8) (r:Int):Option Bool:=if r=65533 then (if (s.all fun b=>decide (b.toNat<128))=true then some false else none) else ZjB k s r
theorem Zjb (k:Nat) (v0:List UInt8) (v1:Int) (r:Bool) (hF:F141 k v0 v1=some r):Sim Tryz.prog GL0 141 [one (.str v0),one (.int .i32 v1)] [] (one (.bool r)) []:=by
  unfold F141 at hF
  by_cases h:v1=65533
  · rw [if_pos h] at hF
    obtain ⟨hl,hF⟩:=Zl hF
    obtain rfl:=Option.some.inj hF
    subst h
    refine Zbe fun w I G vs hs ha=>?_
    obtain ⟨vs,rfl,hb⟩:=ZcH ha;clear ha;have ha:=hb;clear hb
    obtain ⟨vs,rfl,hb⟩:=Zik ha;clear ha;have ha:=hb;clear hb
    obtain rfl:=ZcG ha
    refine Calls.imp (Zfx Tryz.lays151 ⟨v0.toArray⟩ w fun j b hb=>?_) ?_
    · have:=List.all_eq_true.1 hl b (List.mem_of_getElem? (by simpa using hb))
      simpa using this
    · rintro e w' ⟨rfl,hb⟩
      exact ⟨_,rfl,fun _ _ _ _=>⟨_,rfl,.bool _⟩,hb⟩
  · rw [if_neg h] at hF
    exact ZkU k v0 v1 r hF
end Go.Proofs.YthilboheomikjaaGreatDoor
end
section
namespace Go.Proofs.YthilboheomikjaaGreatDoor
open Go.AL
set_option maxRecDepth 100000
structure Zg where
  f_s:List UInt8
  f_at:Int
  f_over:Bool
def Zc (x:Zg):List PV:=[.str x.f_s,.int .i64 x.f_at,.bool x.f_over]
def F97 (k:Nat) (v0:Zg) (v1:List UInt8):Option Bool:=
  (if (0:Int)≤v0.f_at∧(v0.f_at:Int)≤(v0.f_s.length:Int)∧(v0.f_s.length:Int)≤(v0.f_s.length:Int) then (F116 k ((v0.f_s.take (Int.toNat (v0.f_s.length:Int))).drop (Int.toNat v0.f_at)) v1).bind fun y102=>(some y102) else none)
theorem ZcF (k:Nat) (v0:Zg) (v1:List UInt8) (r:Bool) (hF:F97 k v0 v1=some r):Sim Tryz.prog GL0 97 [.val false [.ptr 0 1 0 0],one (.str v1)] [.box (pvL (Zc v0))] (one (.bool r)) [.box (pvL (Zc v0))]:=by
 refine ZC [0] Tryz.func97 rfl kr kr ?_
 show WA _ _ 16 _ _ _
 refine WA.seq ?_
 refine WA.reg [0,1] [0] [] (env':=[(0,.val false [.ptr 0 1 0 0]),(1,one (.str v1))]) (os':=[(0,.box (pvL (Zc v0)))]) (O:=[]) kr (sound _ _) trivial ?_
 refine WA.seq ?_
 obtain ⟨hc101,hF⟩:=Zl hF
 obtain ⟨y102,hy102,hF⟩:=bind_some hF
 refine WA.regD kr [4] [0] [(10,.callR [] (one (.bool y102)))] (env':=[(4,one (.bool y102))]) (os':=[(0,.box (pvL (Zc v0)))]) (O:=[(0:Int)≤v0.f_at,(v0.f_at:Int)≤(v0.f_s.length:Int),(v0.f_s.length:Int)≤(v0.f_s.length:Int),Sim Tryz.prog GL0 116 [one (.str ((v0.f_s.take (Int.toNat (v0.f_s.length:Int))).drop (Int.toNat v0.f_at))),one (.str v1)] [] (one (.bool y102)) [],([]:List Nat).Nodup]) kr kr (sound _ _) ⟨hc101.1,hc101.2.1,hc101.2.2,(ZlQ k _ _ _ hy102),(by decide),trivial⟩ ?_
 refine WA.ret ?_
 obtain rfl:=Option.some.inj hF
 exact Zu (one (.bool y102)) [.box (pvL (Zc v0))] kr kr kr kr (by decide) rfl rfl
def F71 (k:Nat) (v0:Zg) (v1:List UInt8):Option (Bool×Zg):=
  (F97 k v0 v1).bind fun y101=>(cond (!y101) ((some (false,v0))) ((((some (true,({ v0 with f_at:=(w64 (v0.f_at+(v1.length:Int))) }:Zg)))))))
theorem Zal (k:Nat) (v0:Zg) (v1:List UInt8) (r:Bool×Zg) (hF:F71 k v0 v1=some r):Sim Tryz.prog GL0 71 [.val false [.ptr 0 1 0 0],one (.str v1)] [.box (pvL (Zc v0))] (one (.bool r.1)) [.box (pvL (Zc r.2))]:=by
 refine ZC [0] Tryz.func71 rfl kr kr ?_
 show WA _ _ 19 _ _ _
 refine WA.seq ?_
 refine WA.reg [0,1] [0] [] (env':=[(0,.val false [.ptr 0 1 0 0]),(1,one (.str v1))]) (os':=[(0,.box (pvL (Zc v0)))]) (O:=[]) kr (sound _ _) trivial ?_
 refine WA.seq ?_
 refine WA.seq ?_
 obtain ⟨y101,hy101,hF⟩:=bind_some hF
 refine WA.reg [0,1,8] [0] [(2,.callR [0] (one (.bool y101)))] (env':=[(0,.val false [.ptr 0 1 0 0]),(1,one (.str v1)),(8,one (.bool (!y101)))]) (os':=[(0,.box (pvL (Zc v0)))]) (O:=[Sim Tryz.prog GL0 97 [.val false [.ptr 0 1 0 0],one (.str v1)] [.box (pvL (Zc v0))] (one (.bool y101)) [.box (pvL (Zc v0))],([0]:List Nat).Nodup]) kr (sound _ _) ⟨(ZcF k _ _ _ hy101),(by decide),trivial⟩ ?_
 refine WA.cond (b:=(!y101)) rfl (fun hb102=>?_) (fun hb102=>?_)
 {
 have hF:=Zk hF hb102
 refine WA.seq ?_
 refine WA.reg [4] [0] [] (env':=[(4,one (.bool false))]) (os':=[(0,.box (pvL (Zc v0)))]) (O:=[]) kr (sound _ _) trivial ?_
 refine WA.ret ?_
 obtain rfl:=Option.some.inj hF
 exact Zu (one (.bool false)) [.box (pvL (Zc v0))] kr kr kr kr (by decide) rfl rfl }
 {
 have hF:=Zj hF hb102
 refine WA.skip ?_
 refine WA.seq ?_
 refine WA.reg [] [0] [] (env':=[]) (os':=[(0,.box (pvL (Zc ({ v0 with f_at:=(w64 (v0.f_at+(v1.length:Int))) }:Zg))))]) (O:=[]) kr (sound _ _) trivial ?_
 refine WA.seq ?_
 refine WA.reg [4] [0] [] (env':=[(4,one (.bool true))]) (os':=[(0,.box (pvL (Zc ({ v0 with f_at:=(w64 (v0.f_at+(v1.length:Int))) }:Zg))))]) (O:=[]) kr (sound _ _) trivial ?_
 refine WA.ret ?_
 obtain rfl:=Option.some.inj hF
 exact Zu (one (.bool true)) [.box (pvL (Zc ({ v0 with f_at:=(w64 (v0.f_at+(v1.length:Int))) }:Zg)))] kr kr kr kr (by decide) rfl rfl }
def Zfd (v0:Zg) (y101:Int×Int) (v103:Bool):Option (Option (Int×Zg)):=
  cond v103 (some none) ((((some (some (y101.1,({ v0 with f_at:=(w64 (v0.f_at+y101.2)) }:Zg)))))))
def F140 (k:Nat) (v0:Zg):Option (Option (Int×Zg)):=
  (F55 k v0.f_s v0.f_at).bind fun y101=>(cond (y101.2 == 0) ((Zfd v0 y101 true)) ((Zfd v0 y101 (decide (y101.1<0)))))
theorem Zcj (k:Nat) (v0:Zg) (r:Option (Int×Zg)) (hF:F140 k v0=some r):SimP Tryz.prog GL0 badV 140 [.val false [.ptr 0 1 0 0]] [.box (pvL (Zc v0))] (r.map fun r=>(one (.int .i64 r.1),[.box (pvL (Zc r.2))])):=by
 refine Za2 [0] Tryz.func140 rfl kr kr ?_
 show WA _ _ 35 _ _ _
 refine WA.seq ?_
 refine WA.reg [0] [0] [] (env':=[(0,.val false [.ptr 0 1 0 0])]) (os':=[(0,.box (pvL (Zc v0)))]) (O:=[]) kr (sound _ _) trivial ?_
 refine WA.seq ?_
 obtain ⟨y101,hy101,hF⟩:=bind_some hF
 refine WA.regD kr [0,3,4] [0] [(8,.callR [] (.tup [(false,[.pv (.int .i64 y101.1)]),(false,[.pv (.int .i64 y101.2)])]))] (env':=[(0,.val false [.ptr 0 1 0 0]),(3,one (.int .i64 y101.1)),(4,one (.int .i64 y101.2))]) (os':=[(0,.box (pvL (Zc v0)))]) (O:=[Sim Tryz.prog GL0 55 [one (.str v0.f_s),one (.int .i64 v0.f_at)] [] (.tup [(false,[.pv (.int .i64 y101.1)]),(false,[.pv (.int .i64 y101.2)])]) [],([]:List Nat).Nodup]) kr kr (sound _ _) ⟨(Zib k _ _ _ hy101),(by decide),trivial⟩ ?_
 refine WA.seq ?_
 refine WA.join (fun s_=>∃(v103:Bool),Zi s_.env [0,3,4,22]=[(0,.val false [.ptr 0 1 0 0]),(3,one (.int .i64 y101.1)),(4,one (.int .i64 y101.2)),(22,one (.bool v103))]∧Zi s_.os [0]=[(0,.box (pvL (Zc v0)))]∧Zfd v0 y101 v103=some r) ?_ ?_
 {
 rintro s_ ⟨v103,he,ho,hF⟩
 refine WA.keep _ _ he ho ?_
 clear he ho
 refine WA.cond (b:=v103) rfl (fun hb104=>?_) (fun hb104=>?_)
 {
 have hF:=Zk hF hb104
 refine WA.bad [] (t:=70) (env1:=[]) (os1:=[(0,.box (pvL (Zc v0)))]) (O:=[]) kr (sound _ _) trivial ?_
 obtain rfl:=Option.some.inj hF
 exact ⟨rfl,[(Zc v0)],kr,rfl⟩ }
 {
 have hF:=Zj hF hb104
 refine WA.skip ?_
 refine WA.seq ?_
 refine WA.reg [3] [0] [] (env':=[(3,one (.int .i64 y101.1))]) (os':=[(0,.box (pvL (Zc ({ v0 with f_at:=(w64 (v0.f_at+y101.2)) }:Zg))))]) (O:=[]) kr (sound _ _) trivial ?_
 refine WA.seq ?_
 refine WA.reg [2] [0] [] (env':=[(2,one (.int .i64 y101.1))]) (os':=[(0,.box (pvL (Zc ({ v0 with f_at:=(w64 (v0.f_at+y101.2)) }:Zg))))]) (O:=[]) kr (sound _ _) trivial ?_
 refine WA.ret ?_
 obtain rfl:=Option.some.inj hF
 exact Zu (one (.int .i64 y101.1)) [.box (pvL (Zc ({ v0 with f_at:=(w64 (v0.f_at+y101.2)) }:Zg)))] kr kr kr kr (by decide) rfl rfl } }
 {
 rcases Bool.eq_false_or_eq_true (y101.2 == 0) with hb102 | hb102
 {
 have hF:=Zk hF hb102
 refine WA.reg [0,3,4,22] [0] [(2,.bool true)] (env':=[(0,.val false [.ptr 0 1 0 0]),(3,one (.int .i64 y101.1)),(4,one (.int .i64 y101.2)),(22,one (.bool true))]) (os':=[(0,.box (pvL (Zc v0)))]) (O:=[(y101.2 == 0)=true]) kr (sound _ _) ⟨hb102,trivial⟩ ?_
 exact ⟨true,kr,kr,hF⟩ }
 {
 have hF:=Zj hF hb102
 refine WA.reg [0,3,4,22] [0] [(2,.bool false)] (env':=[(0,.val false [.ptr 0 1 0 0]),(3,one (.int .i64 y101.1)),(4,one (.int .i64 y101.2)),(22,one (.bool (decide (y101.1<0))))]) (os':=[(0,.box (pvL (Zc v0)))]) (O:=[(y101.2 == 0)=false]) kr (sound _ _) ⟨hb102,trivial⟩ ?_
 exact ⟨(decide (y101.1<0)),kr,kr,hF⟩ } }
def ZgL (y128:Int) (v130:Zg):Option (Option (Int×Zg)):=
  (some (some (y128,v130)))
def ZgK (k:Nat) (v0:Zg) (v116:Zg) (v125:Bool):Option (Option (Int×Zg)):=
  cond v125 (some none) ((if (0:Int)≤v0.f_at∧(v0.f_at:Int)≤v116.f_at∧v116.f_at≤(v116.f_s.length:Int) then (F172 k ((v116.f_s.take (Int.toNat v116.f_at)).drop (Int.toNat v0.f_at))).bind fun y128=>(cond v116.f_over ((ZgL y128 ({ v116 with f_over:=true }:Zg))) ((ZgL y128 ({ v116 with f_over:=(decide (y128 > 20)) }:Zg)))) else none))
def Zdi (k:Nat) (self2:Zg→Option (Option (Int×Zg))) (v0:Zg) (v116:Zg) (v122:Bool):Option (Option (Int×Zg)):=
  cond v122 ((self2 ({ v116 with f_at:=(w64 (v116.f_at+1)) }:Zg))) ((cond (v116.f_at == v0.f_at) ((ZgK k v0 v116 true)) ((ZgK k v0 v116 (decide (v116.f_at > (w64 (v0.f_at+3))))))))
def Zjc (k:Nat) (self2:Zg→Option (Option (Int×Zg))) (v0:Zg) (v116:Zg):Option (Option (Int×Zg)):=
  cond (decide (v116.f_at<(v116.f_s.length:Int))) (cond (decide (v116.f_at<(w64 (v0.f_at+4)))) ((idxL v116.f_s v116.f_at).bind fun y119=>cond (decide ((y119.toNat:Int)≥48)) ((idxL v116.f_s v116.f_at).bind fun y121=>(Zdi k self2 v0 v116 (decide ((y121.toNat:Int)≤57)))) ((Zdi k self2 v0 v116 false))) ((Zdi k self2 v0 v116 false))) ((Zdi k self2 v0 v116 false))
def Zfe (k:Nat) (v0:Zg):Nat→Zg→Option (Option (Int×Zg))
  | 0,_=>none
  | m_+1,v116=>Zjc k (Zfe k v0 m_) v0 v116
def F142 (k:Nat) (v0:Zg):Option (Option (Int×Zg)):=
  ((Zfe k v0 k v0))
theorem Zff (k:Nat) (v0:Zg) (r:Option (Int×Zg)) (hF:F142 k v0=some r):SimP Tryz.prog GL0 badV 142 [.val false [.ptr 0 1 0 0]] [.box (pvL (Zc v0))] (r.map fun r=>(one (.int .i64 r.1),[.box (pvL (Zc r.2))])):=by
 refine Za2 [0] Tryz.func142 rfl kr kr ?_
 show WA _ _ 103 _ _ _
 refine WA.seq ?_
 refine WA.reg [0] [0] [] (env':=[(0,.val false [.ptr 0 1 0 0])]) (os':=[(0,.box (pvL (Zc v0)))]) (O:=[]) kr (sound _ _) trivial ?_
 refine WA.seq ?_
 refine WA.reg [0,3] [0] [] (env':=[(0,.val false [.ptr 0 1 0 0]),(3,one (.int .i64 v0.f_at))]) (os':=[(0,.box (pvL (Zc v0)))]) (O:=[]) kr (sound _ _) trivial ?_
 refine WA.seq ?_
 refine WA.block ?_
 refine WA.loop (fun m s_=>∃(v116:Zg),Zi s_.env [0,3]=[(0,.val false [.ptr 0 1 0 0]),(3,one (.int .i64 v0.f_at))]∧Zi s_.os [0]=[(0,.box (pvL (Zc v116)))]∧Zfe k v0 m v116=some r) k ⟨v0,kr,kr,hF⟩ ?_
 clear hF
 rintro m2 s_ ⟨v116,he,ho,hF⟩
 refine WA.keep _ _ he ho ?_
 clear he ho
 cases m2 with
 | zero=>cases hF
 | succ m2=>
  obtain ⟨self2,hself2⟩:∃g,g=Zfe k v0 m2:=⟨_,rfl⟩
  have hF:Zjc k self2 v0 v116=some r:=by first | (rw [hself2];exact hF) | exact hF
  refine WA.seq ?_
  refine WA.join (fun s_=>∃(v122:Bool),Zi s_.env [0,3,52]=[(0,.val false [.ptr 0 1 0 0]),(3,one (.int .i64 v0.f_at)),(52,one (.bool v122))]∧Zi s_.os [0]=[(0,.box (pvL (Zc v116)))]∧Zdi k self2 v0 v116 v122=some r) ?_ ?_
  {
 rintro s_ ⟨v122,he,ho,hF⟩
 refine WA.keep _ _ he ho ?_
 clear he ho
 refine WA.cond (b:=v122) rfl (fun hb123=>?_) (fun hb123=>?_)
 {
 have hF:=Zk hF hb123
 refine WA.skip ?_
 refine WA.block ?_
 refine WA.reg [0,3] [0] [] (env':=[(0,.val false [.ptr 0 1 0 0]),(3,one (.int .i64 v0.f_at))]) (os':=[(0,.box (pvL (Zc ({ v116 with f_at:=(w64 (v116.f_at+1)) }:Zg))))]) (O:=[]) kr (sound _ _) trivial ?_
 exact ⟨m2,Nat.lt_succ_self _,({ v116 with f_at:=(w64 (v116.f_at+1)) }:Zg),kr,kr,by rw [hself2] at hF;exact hF⟩ }
 {
 have hF:=Zj hF hb123
 refine WA.exit ?_
 refine WA.seq ?_
 refine WA.join (fun s_=>∃(v125:Bool),Zi s_.env [0,3,74]=[(0,.val false [.ptr 0 1 0 0]),(3,one (.int .i64 v0.f_at)),(74,one (.bool v125))]∧Zi s_.os [0]=[(0,.box (pvL (Zc v116)))]∧ZgK k v0 v116 v125=some r) ?_ ?_
 {
 rintro s_ ⟨v125,he,ho,hF⟩
 refine WA.keep _ _ he ho ?_
 clear he ho
 refine WA.cond (b:=v125) rfl (fun hb126=>?_) (fun hb126=>?_)
 {
 have hF:=Zk hF hb126
 refine WA.bad [] (t:=70) (env1:=[]) (os1:=[(0,.box (pvL (Zc v116)))]) (O:=[]) kr (sound _ _) trivial ?_
 obtain rfl:=Option.some.inj hF
 exact ⟨rfl,[(Zc v116)],kr,rfl⟩ }
 {
 have hF:=Zj hF hb126
 refine WA.skip ?_
 refine WA.seq ?_
 obtain ⟨hc127,hF⟩:=Zl hF
 obtain ⟨y128,hy128,hF⟩:=bind_some hF
 refine WA.regD kr [0,4] [0] [(10,.callR [] (.tup [(false,[.pv (.int .i64 y128)]),(false,[.pv .nilif])]))] (env':=[(0,.val false [.ptr 0 1 0 0]),(4,one (.int .i64 y128))]) (os':=[(0,.box (pvL (Zc v116)))]) (O:=[(0:Int)≤v0.f_at,(v0.f_at:Int)≤v116.f_at,v116.f_at≤(v116.f_s.length:Int),Sim Tryz.prog GL0 172 [one (.str ((v116.f_s.take (Int.toNat v116.f_at)).drop (Int.toNat v0.f_at)))] [] (.tup [(false,[.pv (.int .i64 y128)]),(false,[.pv .nilif])]) [],([]:List Nat).Nodup]) kr kr (sound _ _) ⟨hc127.1,hc127.2.1,hc127.2.2,(Zl2 k _ _ hy128),(by decide),trivial⟩ ?_
 refine WA.join (fun s_=>∃(v130:Zg),Zi s_.env [4]=[(4,one (.int .i64 y128))]∧Zi s_.os [0]=[(0,.box (pvL (Zc v130)))]∧ZgL y128 v130=some r) ?_ ?_
 {
 rintro s_ ⟨v130,he,ho,hF⟩
 refine WA.keep _ _ he ho ?_
 clear he ho
 refine WA.seq ?_
 refine WA.reg [2] [0] [] (env':=[(2,one (.int .i64 y128))]) (os':=[(0,.box (pvL (Zc v130)))]) (O:=[]) kr (sound _ _) trivial ?_
 refine WA.ret ?_
 obtain rfl:=Option.some.inj hF
 exact Zu (one (.int .i64 y128)) [.box (pvL (Zc v130))] kr kr kr kr (by decide) rfl rfl }
 {
 rcases Bool.eq_false_or_eq_true v116.f_over with hb129 | hb129
 {
 have hF:=Zk hF hb129
 refine WA.reg [4] [0] [(5,.bool true)] (env':=[(4,one (.int .i64 y128))]) (os':=[(0,.box (pvL (Zc ({ v116 with f_over:=true }:Zg))))]) (O:=[v116.f_over=true]) kr (sound _ _) ⟨hb129,trivial⟩ ?_
 exact ⟨({ v116 with f_over:=true }:Zg),kr,kr,hF⟩ }
 {
 have hF:=Zj hF hb129
 refine WA.reg [4] [0] [(5,.bool false)] (env':=[(4,one (.int .i64 y128))]) (os':=[(0,.box (pvL (Zc ({ v116 with f_over:=(decide (y128 > 20)) }:Zg))))]) (O:=[v116.f_over=false]) kr (sound _ _) ⟨hb129,trivial⟩ ?_
 exact ⟨({ v116 with f_over:=(decide (y128 > 20)) }:Zg),kr,kr,hF⟩ } } } }
 {
 rcases Bool.eq_false_or_eq_true (v116.f_at == v0.f_at) with hb124 | hb124
 {
 have hF:=Zk hF hb124
 refine WA.reg [0,3,74] [0] [(6,.bool true)] (env':=[(0,.val false [.ptr 0 1 0 0]),(3,one (.int .i64 v0.f_at)),(74,one (.bool true))]) (os':=[(0,.box (pvL (Zc v116)))]) (O:=[(v116.f_at == v0.f_at)=true]) kr (sound _ _) ⟨hb124,trivial⟩ ?_
 exact ⟨true,kr,kr,hF⟩ }
 {
 have hF:=Zj hF hb124
 refine WA.reg [0,3,74] [0] [(6,.bool false)] (env':=[(0,.val false [.ptr 0 1 0 0]),(3,one (.int .i64 v0.f_at)),(74,one (.bool (decide (v116.f_at > (w64 (v0.f_at+3))))))]) (os':=[(0,.box (pvL (Zc v116)))]) (O:=[(v116.f_at == v0.f_at)=false]) kr (sound _ _) ⟨hb124,trivial⟩ ?_
 exact ⟨(decide (v116.f_at > (w64 (v0.f_at+3)))),kr,kr,hF⟩ } } } }
  {
 rcases Bool.eq_false_or_eq_true (decide (v116.f_at<(v116.f_s.length:Int))) with hb117 | hb117
 {
 have hF:=Zk hF hb117
 rcases Bool.eq_false_or_eq_true (decide (v116.f_at<(w64 (v0.f_at+4)))) with hb118 | hb118
 {
 have hF:=Zk hF hb118
 obtain ⟨y119,hy119,hF⟩:=bind_some hF
 rcases Bool.eq_false_or_eq_true (decide ((y119.toNat:Int)≥48)) with hb120 | hb120
 {
 have hF:=Zk hF hb120
 obtain ⟨y121,hy121,hF⟩:=bind_some hF
 refine WA.regD kr [0,3,52] [0] [(10,.bool true),(19,.bool true),(28,.num (y119.toNat:Int)),(31,.bool true),(40,.num (y121.toNat:Int))] (env':=[(0,.val false [.ptr 0 1 0 0]),(3,one (.int .i64 v0.f_at)),(52,one (.bool (decide ((y121.toNat:Int)≤57))))]) (os':=[(0,.box (pvL (Zc v116)))]) (O:=[(decide (v116.f_at<(v116.f_s.length:Int)))=true,(decide (v116.f_at<(w64 (v0.f_at+4))))=true,(idxL v116.f_s v116.f_at).map (fun b=>(b.toNat:Int))=some (y119.toNat:Int),(decide ((y119.toNat:Int)≥48))=true,(idxL v116.f_s v116.f_at).map (fun b=>(b.toNat:Int))=some (y121.toNat:Int)]) kr kr (sound _ _) ⟨hb117,hb118,(by rw [hy119];rfl),hb120,(by rw [hy121];rfl),trivial⟩ ?_
 exact ⟨(decide ((y121.toNat:Int)≤57)),kr,kr,hF⟩ }
 {
 have hF:=Zj hF hb120
 refine WA.regD kr [0,3,52] [0] [(10,.bool true),(19,.bool true),(28,.num (y119.toNat:Int)),(31,.bool false)] (env':=[(0,.val false [.ptr 0 1 0 0]),(3,one (.int .i64 v0.f_at)),(52,one (.bool false))]) (os':=[(0,.box (pvL (Zc v116)))]) (O:=[(decide (v116.f_at<(v116.f_s.length:Int)))=true,(decide (v116.f_at<(w64 (v0.f_at+4))))=true,(idxL v116.f_s v116.f_at).map (fun b=>(b.toNat:Int))=some (y119.toNat:Int),(decide ((y119.toNat:Int)≥48))=false]) kr kr (sound _ _) ⟨hb117,hb118,(by rw [hy119];rfl),hb120,trivial⟩ ?_
 exact ⟨false,kr,kr,hF⟩ } }
 {
 have hF:=Zj hF hb118
 refine WA.regD kr [0,3,52] [0] [(10,.bool true),(19,.bool false)] (env':=[(0,.val false [.ptr 0 1 0 0]),(3,one (.int .i64 v0.f_at)),(52,one (.bool false))]) (os':=[(0,.box (pvL (Zc v116)))]) (O:=[(decide (v116.f_at<(v116.f_s.length:Int)))=true,(decide (v116.f_at<(w64 (v0.f_at+4))))=false]) kr kr (sound _ _) ⟨hb117,hb118,trivial⟩ ?_
 exact ⟨false,kr,kr,hF⟩ } }
 {
 have hF:=Zj hF hb117
 refine WA.regD kr [0,3,52] [0] [(10,.bool false)] (env':=[(0,.val false [.ptr 0 1 0 0]),(3,one (.int .i64 v0.f_at)),(52,one (.bool false))]) (os':=[(0,.box (pvL (Zc v116)))]) (O:=[(decide (v116.f_at<(v116.f_s.length:Int)))=false]) kr kr (sound _ _) ⟨hb117,trivial⟩ ?_
 exact ⟨false,kr,kr,hF⟩ } }
def Zdd (k:Nat) (y101:Int×Zg) (v108:Zg) (v109:Int):Option (Option (Int×Int×Zg)):=
  (F71 k v108 ([125]:List UInt8)).bind fun y110=>(cond (!y110.1) (some none) (((some (some (y101.1,v109,y110.2))))))
def F118 (k:Nat) (v0:Zg):Option (Option (Int×Int×Zg)):=
  (orP (F142 k v0) fun y101=>((F71 k y101.2 ([44]:List UInt8)).bind fun y102=>(cond y102.1 ((F97 k y102.2 ([125]:List UInt8)).bind fun y104=>(cond (!y104) (orP (F142 k y102.2) fun y106=>(cond y106.2.f_over ((Zdd k y101 ({ y106.2 with f_over:=true }:Zg) y106.1)) ((Zdd k y101 ({ y106.2 with f_over:=(decide (y106.1<y101.1)) }:Zg) y106.1)))) ((Zdd k y101 y102.2 (-1))))) ((Zdd k y101 y102.2 y101.1)))))
theorem Zi8 (k:Nat) (v0:Zg) (r:Option (Int×Int×Zg)) (hF:F118 k v0=some r):SimP Tryz.prog GL0 badV 118 [.val false [.ptr 0 1 0 0]] [.box (pvL (Zc v0))] (r.map fun r=>(.tup [(false,[.pv (.int .i64 r.1)]),(false,[.pv (.int .i64 r.2.1)])],[.box (pvL (Zc r.2.2))])):=by
 refine Za2 [0] Tryz.func118 rfl kr kr ?_
 show WA _ _ 35 _ _ _
 refine WA.seq ?_
 refine WA.reg [0] [0] [] (env':=[(0,.val false [.ptr 0 1 0 0])]) (os':=[(0,.box (pvL (Zc v0)))]) (O:=[]) kr (sound _ _) trivial ?_
 refine WA.seq ?_
 rcases Z2 hF with ⟨hz,hr⟩ | ⟨y101,hy101,hF⟩
 {
 subst hr
 refine WA.regP 1 [0] [] [] badV (f:=142) (args:=[.val false [.ptr 0 1 0 0]]) (os:=[.box (pvL (Zc v0))]) (env1:=[]) (os1:=[(0,.box (pvL (Zc v0)))]) (O:=[]) kr (sound _ _) trivial (by decide) (Zff k _ _ hz) (fun psl hpsl=>?_)
 obtain ⟨ps,rfl⟩:=ZQ hpsl
 exact ⟨rfl,[ps],kr,rfl⟩ }
 {
 refine WA.reg [0,4] [0] [(1,.call [0] (one (.int .i64 y101.1)) [.box (pvL (Zc y101.2))] [])] (env':=[(0,.val false [.ptr 0 1 0 0]),(4,one (.int .i64 y101.1))]) (os':=[(0,.box (pvL (Zc y101.2)))]) (O:=[Sim Tryz.prog GL0 142 [.val false [.ptr 0 1 0 0]] [.box (pvL (Zc v0))] (one (.int .i64 y101.1)) [.box (pvL (Zc y101.2))],([0]:List Nat).Nodup]) kr (sound _ _) ⟨(Zff k _ _ hy101),(by decide),trivial⟩ ?_
 refine WA.seq ?_
 refine WA.reg [0,4,5] [0] [] (env':=[(0,.val false [.ptr 0 1 0 0]),(4,one (.int .i64 y101.1)),(5,one (.int .i64 y101.1))]) (os':=[(0,.box (pvL (Zc y101.2)))]) (O:=[]) kr (sound _ _) trivial ?_
 refine WA.join (fun s_=>∃(v108:Zg) (v109:Int),Zi s_.env [0,4,5]=[(0,.val false [.ptr 0 1 0 0]),(4,one (.int .i64 y101.1)),(5,one (.int .i64 v109))]∧Zi s_.os [0]=[(0,.box (pvL (Zc v108)))]∧Zdd k y101 v108 v109=some r) ?_ ?_
 {
 rintro s_ ⟨v108,v109,he,ho,hF⟩
 refine WA.keep _ _ he ho ?_
 clear he ho
 refine WA.seq ?_
 refine WA.seq ?_
 obtain ⟨y110,hy110,hF⟩:=bind_some hF
 refine WA.reg [4,5,30] [0] [(1,.call [0] (one (.bool y110.1)) [.box (pvL (Zc y110.2))] [])] (env':=[(4,one (.int .i64 y101.1)),(5,one (.int .i64 v109)),(30,one (.bool (!y110.1)))]) (os':=[(0,.box (pvL (Zc y110.2)))]) (O:=[Sim Tryz.prog GL0 71 [.val false [.ptr 0 1 0 0],one (.str ([125]:List UInt8))] [.box (pvL (Zc v108))] (one (.bool y110.1)) [.box (pvL (Zc y110.2))],([0]:List Nat).Nodup]) kr (sound _ _) ⟨(Zal k _ _ _ hy110),(by decide),trivial⟩ ?_
 refine WA.cond (b:=(!y110.1)) rfl (fun hb111=>?_) (fun hb111=>?_)
 {
 have hF:=Zk hF hb111
 refine WA.bad [] (t:=70) (env1:=[]) (os1:=[(0,.box (pvL (Zc y110.2)))]) (O:=[]) kr (sound _ _) trivial ?_
 obtain rfl:=Option.some.inj hF
 exact ⟨rfl,[(Zc y110.2)],kr,rfl⟩ }
 {
 have hF:=Zj hF hb111
 refine WA.skip ?_
 refine WA.seq ?_
 refine WA.reg [2,3] [0] [] (env':=[(2,one (.int .i64 y101.1)),(3,one (.int .i64 v109))]) (os':=[(0,.box (pvL (Zc y110.2)))]) (O:=[]) kr (sound _ _) trivial ?_
 refine WA.ret ?_
 obtain rfl:=Option.some.inj hF
 exact Zu (.tup [(false,[.pv (.int .i64 y101.1)]),(false,[.pv (.int .i64 v109)])]) [.box (pvL (Zc y110.2))] kr kr kr kr (by decide) rfl rfl } }
 {
 refine WA.seq ?_
 obtain ⟨y102,hy102,hF⟩:=bind_some hF
 refine WA.reg [0,4,5,10] [0] [(1,.call [0] (one (.bool y102.1)) [.box (pvL (Zc y102.2))] [])] (env':=[(0,.val false [.ptr 0 1 0 0]),(4,one (.int .i64 y101.1)),(5,one (.int .i64 y101.1)),(10,one (.bool y102.1))]) (os':=[(0,.box (pvL (Zc y102.2)))]) (O:=[Sim Tryz.prog GL0 71 [.val false [.ptr 0 1 0 0],one (.str ([44]:List UInt8))] [.box (pvL (Zc y101.2))] (one (.bool y102.1)) [.box (pvL (Zc y102.2))],([0]:List Nat).Nodup]) kr (sound _ _) ⟨(Zal k _ _ _ hy102),(by decide),trivial⟩ ?_
 refine WA.cond (b:=y102.1) rfl (fun hb103=>?_) (fun hb103=>?_)
 {
 have hF:=Zk hF hb103
 refine WA.seq ?_
 refine WA.reg [0,4,5] [0] [] (env':=[(0,.val false [.ptr 0 1 0 0]),(4,one (.int .i64 y101.1)),(5,one (.int .i64 (-1)))]) (os':=[(0,.box (pvL (Zc y102.2)))]) (O:=[]) kr (sound _ _) trivial ?_
 refine WA.seq ?_
 obtain ⟨y104,hy104,hF⟩:=bind_some hF
 refine WA.reg [0,4,5,13] [0] [(1,.callR [0] (one (.bool y104)))] (env':=[(0,.val false [.ptr 0 1 0 0]),(4,one (.int .i64 y101.1)),(5,one (.int .i64 (-1))),(13,one (.bool (!y104)))]) (os':=[(0,.box (pvL (Zc y102.2)))]) (O:=[Sim Tryz.prog GL0 97 [.val false [.ptr 0 1 0 0],one (.str ([125]:List UInt8))] [.box (pvL (Zc y102.2))] (one (.bool y104)) [.box (pvL (Zc y102.2))],([0]:List Nat).Nodup]) kr (sound _ _) ⟨(ZcF k _ _ _ hy104),(by decide),trivial⟩ ?_
 refine WA.cond (b:=(!y104)) rfl (fun hb105=>?_) (fun hb105=>?_)
 {
 have hF:=Zk hF hb105
 refine WA.seq ?_
 rcases Z2 hF with ⟨hz,hr⟩ | ⟨y106,hy106,hF⟩
 {
 subst hr
 refine WA.regP 1 [0] [] [] badV (f:=142) (args:=[.val false [.ptr 0 1 0 0]]) (os:=[.box (pvL (Zc y102.2))]) (env1:=[]) (os1:=[(0,.box (pvL (Zc y102.2)))]) (O:=[]) kr (sound _ _) trivial (by decide) (Zff k _ _ hz) (fun psl hpsl=>?_)
 obtain ⟨ps,rfl⟩:=ZQ hpsl
 exact ⟨rfl,[ps],kr,rfl⟩ }
 {
 refine WA.reg [0,4,5] [0] [(1,.call [0] (one (.int .i64 y106.1)) [.box (pvL (Zc y106.2))] [])] (env':=[(0,.val false [.ptr 0 1 0 0]),(4,one (.int .i64 y101.1)),(5,one (.int .i64 y106.1))]) (os':=[(0,.box (pvL (Zc y106.2)))]) (O:=[Sim Tryz.prog GL0 142 [.val false [.ptr 0 1 0 0]] [.box (pvL (Zc y102.2))] (one (.int .i64 y106.1)) [.box (pvL (Zc y106.2))],([0]:List Nat).Nodup]) kr (sound _ _) ⟨(Zff k _ _ hy106),(by decide),trivial⟩ ?_
 rcases Bool.eq_false_or_eq_true y106.2.f_over with hb107 | hb107
 {
 have hF:=Zk hF hb107
 refine WA.reg [0,4,5] [0] [(5,.bool true)] (env':=[(0,.val false [.ptr 0 1 0 0]),(4,one (.int .i64 y101.1)),(5,one (.int .i64 y106.1))]) (os':=[(0,.box (pvL (Zc ({ y106.2 with f_over:=true }:Zg))))]) (O:=[y106.2.f_over=true]) kr (sound _ _) ⟨hb107,trivial⟩ ?_
 exact ⟨({ y106.2 with f_over:=true }:Zg),y106.1,kr,kr,hF⟩ }
 {
 have hF:=Zj hF hb107
 refine WA.reg [0,4,5] [0] [(5,.bool false)] (env':=[(0,.val false [.ptr 0 1 0 0]),(4,one (.int .i64 y101.1)),(5,one (.int .i64 y106.1))]) (os':=[(0,.box (pvL (Zc ({ y106.2 with f_over:=(decide (y106.1<y101.1)) }:Zg))))]) (O:=[y106.2.f_over=false]) kr (sound _ _) ⟨hb107,trivial⟩ ?_
 exact ⟨({ y106.2 with f_over:=(decide (y106.1<y101.1)) }:Zg),y106.1,kr,kr,hF⟩ } } }
 {
 have hF:=Zj hF hb105
 refine WA.skip ?_
 exact ⟨y102.2,(-1),kr,kr,hF⟩ } }
 {
 have hF:=Zj hF hb103
 refine WA.skip ?_
 exact ⟨y102.2,y101.1,kr,kr,hF⟩ } } }
def Zfb (y101:Int×Zg) (v109:Int):Option (Option ((List Zb)×Zg)):=
  (some (some (([(⟨v109,v109⟩:Zb)]:List Zb),y101.2)))
def ZgJ (y101:Int×Zg) (v107:Bool):Option (Option ((List Zb)×Zg)):=
  cond v107 (some none) ((Zfb y101 y101.1))
def F139 (k:Nat) (v0:Zg) (v1:List UInt8):Option (Option ((List Zb)×Zg)):=
  (orP (F140 k v0) fun y101=>((cond (y101.1 == 100) ((some (some (([(⟨48,57⟩:Zb)]:List Zb),y101.2)))) ((cond (y101.1 == 110) ((Zfb y101 10)) ((cond (y101.1 == 116) ((Zfb y101 9)) (cond (decide (y101.1 > 126)) ((ZgJ y101 true)) ((F170 k v1 (IntKind.wrap .u8 y101.1)).bind fun y106=>(ZgJ y101 (decide (y106<0))))))))))))
theorem Zfc (k:Nat) (v0:Zg) (v1:List UInt8) (r:Option ((List Zb)×Zg)) (hF:F139 k v0 v1=some r):SimP Tryz.prog GL0 badV 139 [.val false [.ptr 0 1 0 0],one (.str v1)] [.box (pvL (Zc v0))] (r.map fun r=>(.val false [.arr 1 r.1.length],[.box (pvL (Zc r.2)),.arr 2 (r.1.map Za)])):=by
 refine Za2 [0,900] Tryz.func139 rfl kr kr ?_
 show WA _ _ 35 _ _ _
 refine WA.seq ?_
 refine WA.reg [0,1] [0] [(0,.obj 900)] (env':=[(0,.val false [.ptr 0 1 0 0]),(1,one (.str v1))]) (os':=[(0,.box (pvL (Zc v0)))]) (O:=[]) kr (sound _ _) trivial ?_
 refine WA.seq ?_
 rcases Z2 hF with ⟨hz,hr⟩ | ⟨y101,hy101,hF⟩
 {
 subst hr
 refine WA.regP 1 [0] [] [] badV (f:=140) (args:=[.val false [.ptr 0 1 0 0]]) (os:=[.box (pvL (Zc v0))]) (env1:=[]) (os1:=[(0,.box (pvL (Zc v0)))]) (O:=[]) kr (sound _ _) trivial (by decide) (Zcj k _ _ hz) (fun psl hpsl=>?_)
 obtain ⟨ps,rfl⟩:=ZQ hpsl
 exact ⟨rfl,[ps],kr,rfl⟩ }
 {
 refine WA.reg [1,5] [0] [(1,.call [0] (one (.int .i64 y101.1)) [.box (pvL (Zc y101.2))] [])] (env':=[(1,one (.str v1)),(5,one (.int .i64 y101.1))]) (os':=[(0,.box (pvL (Zc y101.2)))]) (O:=[Sim Tryz.prog GL0 140 [.val false [.ptr 0 1 0 0]] [.box (pvL (Zc v0))] (one (.int .i64 y101.1)) [.box (pvL (Zc y101.2))],([0]:List Nat).Nodup]) kr (sound _ _) ⟨(Zcj k _ _ hy101),(by decide),trivial⟩ ?_
 refine WA.join (fun s_=>∃(v109:Int),Zi s_.env [5]=[(5,one (.int .i64 v109))]∧Zi s_.os [0]=[(0,.box (pvL (Zc y101.2)))]∧Zfb y101 v109=some r) ?_ ?_
 {
 rintro s_ ⟨v109,he,ho,hF⟩
 refine WA.keep _ _ he ho ?_
 clear he ho
 refine WA.seq ?_
 refine WA.reg [4] [0,900] [(3,.obj 900)] (env':=[(4,.val false [.arr 900 1])]) (os':=[(0,.box (pvL (Zc y101.2))),(900,.arr 2 (([(⟨v109,v109⟩:Zb)]:List Zb).map Za))]) (O:=[]) kr (sound _ _) trivial ?_
 refine WA.ret ?_
 obtain rfl:=Option.some.inj hF
 exact Zu (.val false [.arr 900 1]) [.box (pvL (Zc y101.2)),.arr 2 (([(⟨v109,v109⟩:Zb)]:List Zb).map Za)] kr (by have h0_:1=(([(⟨v109,v109⟩:Zb)]:List Zb):List _).length:=zt;rw [h0_] <;> rfl) kr kr (by decide) rfl rfl }
 {
 refine WA.block ?_
 refine WA.seq ?_
 refine WA.reg [1,5,8] [0] [] (env':=[(1,one (.str v1)),(5,one (.int .i64 y101.1)),(8,one (.bool (y101.1 == 100)))]) (os':=[(0,.box (pvL (Zc y101.2)))]) (O:=[]) kr (sound _ _) trivial ?_
 refine WA.cond (b:=(y101.1 == 100)) rfl (fun hb102=>?_) (fun hb102=>?_)
 {
 have hF:=Zk hF hb102
 refine WA.seq ?_
 refine WA.reg [4] [0,900] [(1,.obj 900)] (env':=[(4,.val false [.arr 900 1])]) (os':=[(0,.box (pvL (Zc y101.2))),(900,.arr 2 (([(⟨48,57⟩:Zb)]:List Zb).map Za))]) (O:=[]) kr (sound _ _) trivial ?_
 refine WA.ret ?_
 obtain rfl:=Option.some.inj hF
 exact Zu (.val false [.arr 900 1]) [.box (pvL (Zc y101.2)),.arr 2 (([(⟨48,57⟩:Zb)]:List Zb).map Za)] kr (by have h0_:1=(([(⟨48,57⟩:Zb)]:List Zb):List _).length:=zt;rw [h0_] <;> rfl) kr kr (by decide) rfl rfl }
 {
 have hF:=Zj hF hb102
 refine WA.seq ?_
 refine WA.reg [1,5,13] [0] [] (env':=[(1,one (.str v1)),(5,one (.int .i64 y101.1)),(13,one (.bool (y101.1 == 110)))]) (os':=[(0,.box (pvL (Zc y101.2)))]) (O:=[]) kr (sound _ _) trivial ?_
 refine WA.cond (b:=(y101.1 == 110)) rfl (fun hb103=>?_) (fun hb103=>?_)
 {
 have hF:=Zk hF hb103
 refine WA.reg [5] [0] [] (env':=[(5,one (.int .i64 10))]) (os':=[(0,.box (pvL (Zc y101.2)))]) (O:=[]) kr (sound _ _) trivial ?_
 exact ⟨10,kr,kr,hF⟩ }
 {
 have hF:=Zj hF hb103
 refine WA.seq ?_
 refine WA.reg [1,5,16] [0] [] (env':=[(1,one (.str v1)),(5,one (.int .i64 y101.1)),(16,one (.bool (y101.1 == 116)))]) (os':=[(0,.box (pvL (Zc y101.2)))]) (O:=[]) kr (sound _ _) trivial ?_
 refine WA.cond (b:=(y101.1 == 116)) rfl (fun hb104=>?_) (fun hb104=>?_)
 {
 have hF:=Zk hF hb104
 refine WA.reg [5] [0] [] (env':=[(5,one (.int .i64 9))]) (os':=[(0,.box (pvL (Zc y101.2)))]) (O:=[]) kr (sound _ _) trivial ?_
 exact ⟨9,kr,kr,hF⟩ }
 {
 have hF:=Zj hF hb104
 refine WA.join (fun s_=>∃(v107:Bool),Zi s_.env [5,19]=[(5,one (.int .i64 y101.1)),(19,one (.bool v107))]∧Zi s_.os [0]=[(0,.box (pvL (Zc y101.2)))]∧ZgJ y101 v107=some r) ?_ ?_
 {
 rintro s_ ⟨v107,he,ho,hF⟩
 refine WA.keep _ _ he ho ?_
 clear he ho
 refine WA.cond (b:=v107) rfl (fun hb108=>?_) (fun hb108=>?_)
 {
 have hF:=Zk hF hb108
 refine WA.bad [] (t:=70) (env1:=[]) (os1:=[(0,.box (pvL (Zc y101.2)))]) (O:=[]) kr (sound _ _) trivial ?_
 obtain rfl:=Option.some.inj hF
 exact ⟨rfl,[(Zc y101.2)],kr,rfl⟩ }
 {
 have hF:=Zj hF hb108
 refine WA.skip ?_
 exact ⟨y101.1,kr,kr,hF⟩ } }
 {
 rcases Bool.eq_false_or_eq_true (decide (y101.1 > 126)) with hb105 | hb105
 {
 have hF:=Zk hF hb105
 refine WA.reg [5,19] [0] [(2,.bool true)] (env':=[(5,one (.int .i64 y101.1)),(19,one (.bool true))]) (os':=[(0,.box (pvL (Zc y101.2)))]) (O:=[(decide (y101.1 > 126))=true]) kr (sound _ _) ⟨hb105,trivial⟩ ?_
 exact ⟨true,kr,kr,hF⟩ }
 {
 have hF:=Zj hF hb105
 obtain ⟨y106,hy106,hF⟩:=bind_some hF
 refine WA.reg [5,19] [0] [(2,.bool false),(6,.callR [] (one (.int .i64 y106)))] (env':=[(5,one (.int .i64 y101.1)),(19,one (.bool (decide (y106<0))))]) (os':=[(0,.box (pvL (Zc y101.2)))]) (O:=[(decide (y101.1 > 126))=false,Sim Tryz.prog GL0 170 [one (.str v1),one (.int .u8 (IntKind.wrap .u8 y101.1))] [] (one (.int .i64 y106)) [],([]:List Nat).Nodup]) kr (sound _ _) ⟨hb105,(ZgM k _ _ _ hy106),(by decide),trivial⟩ ?_
 exact ⟨(decide (y106<0)),kr,kr,hF⟩ } } } } } } }
def F169 (k:Nat) (v0:Zg):Option (Option ((List Zb)×Zg)):=
  (F71 k v0 ([92]:List UInt8)).bind fun y101=>(cond y101.1 (orP (F139 k y101.2 ([92,46,91,93,40,41,123,125,42,43,63,124,94,36,45,47]:List UInt8)) fun y103=>(some (some (y103.1,y103.2)))) ((orP (F140 k y101.2) fun y104=>(F141 k ([92,91,93,94,45]:List UInt8) (IntKind.wrap .i32 y104.1)).bind fun y105=>(cond y105 (some none) (((some (some (([(⟨y104.1,y104.1⟩:Zb)]:List Zb),y104.2)))))))))
theorem Zfj (k:Nat) (v0:Zg) (r:Option ((List Zb)×Zg)) (hF:F169 k v0=some r):SimP Tryz.prog GL0 badV 169 [.val false [.ptr 0 1 0 0]] [.box (pvL (Zc v0))] (r.map fun r=>(.val false [.arr 1 r.1.length],[.box (pvL (Zc r.2)),.arr 2 (r.1.map Za)])):=by
 refine Za2 [0,900] Tryz.func169 rfl kr kr ?_
 show WA _ _ 19 _ _ _
 refine WA.seq ?_
 refine WA.reg [0] [0] [(0,.obj 900)] (env':=[(0,.val false [.ptr 0 1 0 0])]) (os':=[(0,.box (pvL (Zc v0)))]) (O:=[]) kr (sound _ _) trivial ?_
 refine WA.seq ?_
 refine WA.seq ?_
 obtain ⟨y101,hy101,hF⟩:=bind_some hF
 refine WA.reg [0,5] [0] [(1,.call [0] (one (.bool y101.1)) [.box (pvL (Zc y101.2))] [])] (env':=[(0,.val false [.ptr 0 1 0 0]),(5,one (.bool y101.1))]) (os':=[(0,.box (pvL (Zc y101.2)))]) (O:=[Sim Tryz.prog GL0 71 [.val false [.ptr 0 1 0 0],one (.str ([92]:List UInt8))] [.box (pvL (Zc v0))] (one (.bool y101.1)) [.box (pvL (Zc y101.2))],([0]:List Nat).Nodup]) kr (sound _ _) ⟨(Zal k _ _ _ hy101),(by decide),trivial⟩ ?_
 refine WA.cond (b:=y101.1) rfl (fun hb102=>?_) (fun hb102=>?_)
 {
 have hF:=Zk hF hb102
 refine WA.seq ?_
 rcases Z2 hF with ⟨hz,hr⟩ | ⟨y103,hy103,hF⟩
 {
 subst hr
 refine WA.regP 1 [0] [] [] badV (f:=139) (args:=[.val false [.ptr 0 1 0 0],one (.str ([92,46,91,93,40,41,123,125,42,43,63,124,94,36,45,47]:List UInt8))]) (os:=[.box (pvL (Zc y101.2))]) (env1:=[]) (os1:=[(0,.box (pvL (Zc y101.2)))]) (O:=[]) kr (sound _ _) trivial (by decide) (Zfc k _ _ _ hz) (fun psl hpsl=>?_)
 obtain ⟨ps,rfl⟩:=ZQ hpsl
 exact ⟨rfl,[ps],kr,rfl⟩ }
 {
 refine WA.reg [2] [0,900] [(1,.call [0] (.val false [.arr 1 y103.1.length]) [.box (pvL (Zc y103.2)),.arr 2 (y103.1.map Za)] [900])] (env':=[(2,.val false [.arr 900 y103.1.length])]) (os':=[(0,.box (pvL (Zc y103.2))),(900,.arr 2 (y103.1.map Za))]) (O:=[Sim Tryz.prog GL0 139 [.val false [.ptr 0 1 0 0],one (.str ([92,46,91,93,40,41,123,125,42,43,63,124,94,36,45,47]:List UInt8))] [.box (pvL (Zc y101.2))] (.val false [.arr 1 y103.1.length]) [.box (pvL (Zc y103.2)),.arr 2 (y103.1.map Za)],([0]:List Nat).Nodup]) kr (sound _ _) ⟨(Zfc k _ _ _ hy103),(by decide),trivial⟩ ?_
 refine WA.ret ?_
 obtain rfl:=Option.some.inj hF
 exact Zu (.val false [.arr 900 y103.1.length]) [.box (pvL (Zc y103.2)),.arr 2 (y103.1.map Za)] kr kr kr kr (by decide) rfl rfl } }
 {
 have hF:=Zj hF hb102
 refine WA.skip ?_
 refine WA.seq ?_
 rcases Z2 hF with ⟨hz,hr⟩ | ⟨y104,hy104,hF⟩
 {
 subst hr
 refine WA.regP 1 [0] [] [] badV (f:=140) (args:=[.val false [.ptr 0 1 0 0]]) (os:=[.box (pvL (Zc y101.2))]) (env1:=[]) (os1:=[(0,.box (pvL (Zc y101.2)))]) (O:=[]) kr (sound _ _) trivial (by decide) (Zcj k _ _ hz) (fun psl hpsl=>?_)
 obtain ⟨ps,rfl⟩:=ZQ hpsl
 exact ⟨rfl,[ps],kr,rfl⟩ }
 {
 refine WA.reg [3] [0] [(1,.call [0] (one (.int .i64 y104.1)) [.box (pvL (Zc y104.2))] [])] (env':=[(3,one (.int .i64 y104.1))]) (os':=[(0,.box (pvL (Zc y104.2)))]) (O:=[Sim Tryz.prog GL0 140 [.val false [.ptr 0 1 0 0]] [.box (pvL (Zc y101.2))] (one (.int .i64 y104.1)) [.box (pvL (Zc y104.2))],([0]:List Nat).Nodup]) kr (sound _ _) ⟨(Zcj k _ _ hy104),(by decide),trivial⟩ ?_
 refine WA.seq ?_
 refine WA.seq ?_
 obtain ⟨y105,hy105,hF⟩:=bind_some hF
 refine WA.reg [3,12] [0] [(2,.callR [] (one (.bool y105)))] (env':=[(3,one (.int .i64 y104.1)),(12,one (.bool y105))]) (os':=[(0,.box (pvL (Zc y104.2)))]) (O:=[Sim Tryz.prog GL0 141 [one (.str ([92,91,93,94,45]:List UInt8)),one (.int .i32 (IntKind.wrap .i32 y104.1))] [] (one (.bool y105)) [],([]:List Nat).Nodup]) kr (sound _ _) ⟨(Zjb k _ _ _ hy105),(by decide),trivial⟩ ?_
 refine WA.cond (b:=y105) rfl (fun hb106=>?_) (fun hb106=>?_)
 {
 have hF:=Zk hF hb106
 refine WA.bad [] (t:=70) (env1:=[]) (os1:=[(0,.box (pvL (Zc y104.2)))]) (O:=[]) kr (sound _ _) trivial ?_
 obtain rfl:=Option.some.inj hF
 exact ⟨rfl,[(Zc y104.2)],kr,rfl⟩ }
 {
 have hF:=Zj hF hb106
 refine WA.skip ?_
 refine WA.seq ?_
 refine WA.reg [2] [0,900] [(3,.obj 900)] (env':=[(2,.val false [.arr 900 1])]) (os':=[(0,.box (pvL (Zc y104.2))),(900,.arr 2 (([(⟨y104.1,y104.1⟩:Zb)]:List Zb).map Za))]) (O:=[]) kr (sound _ _) trivial ?_
 refine WA.ret ?_
 obtain rfl:=Option.some.inj hF
 exact Zu (.val false [.arr 900 1]) [.box (pvL (Zc y104.2)),.arr 2 (([(⟨y104.1,y104.1⟩:Zb)]:List Zb).map Za)] kr (by have h0_:1=(([(⟨y104.1,y104.1⟩:Zb)]:List Zb):List _).length:=zt;rw [h0_] <;> rfl) kr kr (by decide) rfl rfl } } }
end Go.Proofs.YthilboheomikjaaGreatDoor
end
section
namespace Go.Proofs.YthilboheomikjaaGreatDoor
open Go.AL
set_option maxRecDepth 100000
def Zdh (self5:Zg→(List Zb)→Bool→Option (Option (Ze×Zg))) (v153:List Zb) (v177:Zg) (v178:List Zb):Option (Option (Ze×Zg)):=
  if v153.length+v178.length≤1073741824 then (self5 v177 (v153 ++ v178) false) else none
def Zdg (self5:Zg→(List Zb)→Bool→Option (Option (Ze×Zg))) (v153:List Zb) (y162:(List Zb)×Zg) (y166:(List Zb)×Zg) (v172:Bool):Option (Option (Ze×Zg)):=
  cond v172 (some none) ((idxL y166.1 0).bind fun y174=>if (0:Int)≤0∧0<(y162.1.length:Int) then (idxL y162.1 0).bind fun y176=>(Zdh self5 v153 y166.2 (y162.1.set (Int.toNat 0) ({ y176 with f_Hi:=y174.f_Lo }:Zb))) else none)
def Zci (k:Nat) (v158:Zg) (v186:List Zb):Option (Option (Ze×Zg)):=
  (F58 k v186).bind fun y187=>(some (some (y187,v158)))
def Zch (k:Nat) (self5:Zg→(List Zb)→Bool→Option (Option (Ze×Zg))) (y101:Bool×Zg) (v153:List Zb) (v158:Zg) (v159:Bool):Option (Option (Ze×Zg)):=
  cond v159 ((F97 k v158 ([92,100]:List UInt8)).bind fun y161=>(orP (F169 k v158) fun y162=>(F71 k y162.2 ([45]:List UInt8)).bind fun y163=>(cond y163.1 ((F97 k y163.2 ([92,100]:List UInt8)).bind fun y165=>(orP (F169 k y163.2) fun y166=>(cond y161 ((Zdg self5 v153 y162 y166 true)) (cond y165 ((Zdg self5 v153 y162 y166 true)) ((idxL y166.1 0).bind fun y169=>if (0:Int)≤0∧0<(y162.1.length:Int) then (idxL y162.1 0).bind fun y171=>(Zdg self5 v153 y162 y166 (decide (y169.f_Lo<y171.f_Lo))) else none))))) ((Zdh self5 v153 y163.2 y162.1))))) ((F77 k v153).bind fun y181=>(F59 k).bind fun y182=>(F76 k y181 y182).bind fun y183=>((cond y101.1 ((F109 k y183).bind fun y185=>(Zci k v158 y185)) ((Zci k v158 y183)))))
def Zcg (k:Nat) (self5:Zg→(List Zb)→Bool→Option (Option (Ze×Zg))) (y101:Bool×Zg) (v152:Zg) (v153:List Zb) (v155:Bool):Option (Option (Ze×Zg)):=
  cond v155 ((Zch k self5 y101 v153 v152 true)) ((F71 k v152 ([93]:List UInt8)).bind fun y157=>(Zch k self5 y101 v153 y157.2 (!y157.1)))
def Zby (k:Nat) (y101:Bool×Zg):Nat→Zg→(List Zb)→Bool→Option (Option (Ze×Zg))
  | 0,_,_,_=>none
  | m_+1,v152,v153,v155=>Zcg k (Zby k y101 m_) y101 v152 v153 v155
def F138 (k:Nat) (v0:Zg):Option (Option (Ze×Zg)):=
  (F71 k v0 ([94]:List UInt8)).bind fun y101=>(((Zby k y101 k y101.2 ([]:List Zb) true)))
theorem Zja (k:Nat) (v0:Zg) (r:Option (Ze×Zg)) (hF:F138 k v0=some r):SimP Tryz.prog GL0 badV 138 [.val false [.ptr 0 1 0 0]] [.box (pvL (Zc v0))] (r.map fun r=>(.val true (pvL (Zd r.1)),[.box (pvL (Zc r.2))])):=by
 refine Za2 [0] Tryz.func138 rfl kr kr ?_
 show WA _ _ 64 _ _ _
 refine WA.seq ?_
 refine WA.reg [0,2] [0,102] [(0,.obj 102)] (env':=[(0,.val false [.ptr 0 1 0 0]),(2,.val false [.ptr 102 1 0 0])]) (os':=[(0,.box (pvL (Zc v0))),(102,.box (pvL (Zd (⟨0,([]:List Zb),([]:List Ze),0,0⟩:Ze))))]) (O:=[]) kr (sound _ _) trivial ?_
 refine WA.seq ?_
 obtain ⟨y101,hy101,hF⟩:=bind_some hF
 refine WA.reg [0,2,3] [0,102] [(1,.call [0] (one (.bool y101.1)) [.box (pvL (Zc y101.2))] [])] (env':=[(0,.val false [.ptr 0 1 0 0]),(2,.val false [.ptr 102 1 0 0]),(3,one (.bool y101.1))]) (os':=[(0,.box (pvL (Zc y101.2))),(102,.box (pvL (Zd (⟨0,([]:List Zb),([]:List Ze),0,0⟩:Ze))))]) (O:=[Sim Tryz.prog GL0 71 [.val false [.ptr 0 1 0 0],one (.str ([94]:List UInt8))] [.box (pvL (Zc v0))] (one (.bool y101.1)) [.box (pvL (Zc y101.2))],([0]:List Nat).Nodup]) kr (sound _ _) ⟨(Zal k _ _ _ hy101),(by decide),trivial⟩ ?_
 refine WA.seq ?_
 refine WA.reg [0,2,3,4] [0,102,104] [(0,.obj 104)] (env':=[(0,.val false [.ptr 0 1 0 0]),(2,.val false [.ptr 102 1 0 0]),(3,one (.bool y101.1)),(4,.val false [.arr 104 0])]) (os':=[(0,.box (pvL (Zc y101.2))),(102,.box (pvL (Zd (⟨0,([]:List Zb),([]:List Ze),0,0⟩:Ze)))),(104,.arr 2 (([]:List Zb).map Za))]) (O:=[]) kr (sound _ _) trivial ?_
 refine WA.seq ?_
 refine WA.seq ?_
 refine WA.reg [0,2,3,4,5] [0,102,104] [] (env':=[(0,.val false [.ptr 0 1 0 0]),(2,.val false [.ptr 102 1 0 0]),(3,one (.bool y101.1)),(4,.val false [.arr 104 0]),(5,one (.bool true))]) (os':=[(0,.box (pvL (Zc y101.2))),(102,.box (pvL (Zd (⟨0,([]:List Zb),([]:List Ze),0,0⟩:Ze)))),(104,.arr 2 (([]:List Zb).map Za))]) (O:=[]) kr (sound _ _) trivial ?_
 refine WA.block ?_
 refine WA.loop (fun m s_=>∃(v152:Zg) (v153:List Zb) (v154:Nat) (v155:Bool),Zi s_.env [0,2,3,4,5]=[(0,.val false [.ptr 0 1 0 0]),(2,.val false [.ptr 102 1 0 0]),(3,one (.bool y101.1)),(4,.val false [.arr 104 v154]),(5,one (.bool v155))]∧Zi s_.os [0,102,104]=[(0,.box (pvL (Zc v152))),(102,.box (pvL (Zd (⟨0,([]:List Zb),([]:List Ze),0,0⟩:Ze)))),(104,.arr 2 (v153.map Za))]∧v154=(v153:List _).length∧Zby k y101 m v152 v153 v155=some r) k ⟨y101.2,([]:List Zb),0,true,kr,kr,zt,hF⟩ ?_
 clear hF
 rintro m5 s_ ⟨v152,v153,v154,v155,he,ho,hn_v154,hF⟩
 refine WA.keep _ _ he ho ?_
 clear he ho
 cases m5 with
 | zero=>cases hF
 | succ m5=>
  obtain ⟨self5,hself5⟩:∃g,g=Zby k y101 m5:=⟨_,rfl⟩
  have hF:Zcg k self5 y101 v152 v153 v155=some r:=by first | (rw [hself5];exact hF) | exact hF
  refine WA.seq ?_
  refine WA.join (fun s_=>∃(v158:Zg) (v159:Bool),Zi s_.env [0,2,3,4,17]=[(0,.val false [.ptr 0 1 0 0]),(2,.val false [.ptr 102 1 0 0]),(3,one (.bool y101.1)),(4,.val false [.arr 104 v154]),(17,one (.bool v159))]∧Zi s_.os [0,102,104]=[(0,.box (pvL (Zc v158))),(102,.box (pvL (Zd (⟨0,([]:List Zb),([]:List Ze),0,0⟩:Ze)))),(104,.arr 2 (v153.map Za))]∧Zch k self5 y101 v153 v158 v159=some r) ?_ ?_
  {
 rintro s_ ⟨v158,v159,he,ho,hF⟩
 refine WA.keep _ _ he ho ?_
 clear he ho
 refine WA.cond (b:=v159) rfl (fun hb160=>?_) (fun hb160=>?_)
 {
 have hF:=Zk hF hb160
 refine WA.skip ?_
 refine WA.seq ?_
 refine WA.block ?_
 refine WA.seq ?_
 obtain ⟨y161,hy161,hF⟩:=bind_some hF
 refine WA.reg [0,2,3,4,6] [0,102,104] [(1,.callR [0] (one (.bool y161)))] (env':=[(0,.val false [.ptr 0 1 0 0]),(2,.val false [.ptr 102 1 0 0]),(3,one (.bool y101.1)),(4,.val false [.arr 104 v154]),(6,one (.bool y161))]) (os':=[(0,.box (pvL (Zc v158))),(102,.box (pvL (Zd (⟨0,([]:List Zb),([]:List Ze),0,0⟩:Ze)))),(104,.arr 2 (v153.map Za))]) (O:=[Sim Tryz.prog GL0 97 [.val false [.ptr 0 1 0 0],one (.str ([92,100]:List UInt8))] [.box (pvL (Zc v158))] (one (.bool y161)) [.box (pvL (Zc v158))],([0]:List Nat).Nodup]) kr (sound _ _) ⟨(ZcF k _ _ _ hy161),(by decide),trivial⟩ ?_
 refine WA.seq ?_
 rcases Z2 hF with ⟨hz,hr⟩ | ⟨y162,hy162,hF⟩
 {
 subst hr
 refine WA.regP 1 [0] [] [] badV (f:=169) (args:=[.val false [.ptr 0 1 0 0]]) (os:=[.box (pvL (Zc v158))]) (env1:=[]) (os1:=[(0,.box (pvL (Zc v158))),(102,.box (pvL (Zd (⟨0,([]:List Zb),([]:List Ze),0,0⟩:Ze)))),(104,.arr 2 (v153.map Za))]) (O:=[]) kr (sound _ _) trivial (by decide) (Zfj k _ _ hz) (fun psl hpsl=>?_)
 obtain ⟨ps,rfl⟩:=ZQ hpsl
 exact ⟨rfl,[ps],kr,rfl⟩ }
 {
 refine WA.reg [0,2,3,4,6,7] [0,102,104,121] [(1,.call [0] (.val false [.arr 1 y162.1.length]) [.box (pvL (Zc y162.2)),.arr 2 (y162.1.map Za)] [121])] (env':=[(0,.val false [.ptr 0 1 0 0]),(2,.val false [.ptr 102 1 0 0]),(3,one (.bool y101.1)),(4,.val false [.arr 104 v154]),(6,one (.bool y161)),(7,.val false [.arr 121 y162.1.length])]) (os':=[(0,.box (pvL (Zc y162.2))),(102,.box (pvL (Zd (⟨0,([]:List Zb),([]:List Ze),0,0⟩:Ze)))),(104,.arr 2 (v153.map Za)),(121,.arr 2 (y162.1.map Za))]) (O:=[Sim Tryz.prog GL0 169 [.val false [.ptr 0 1 0 0]] [.box (pvL (Zc v158))] (.val false [.arr 1 y162.1.length]) [.box (pvL (Zc y162.2)),.arr 2 (y162.1.map Za)],([0]:List Nat).Nodup]) kr (sound _ _) ⟨(Zfj k _ _ hy162),(by decide),trivial⟩ ?_
 refine WA.join (fun s_=>∃(v177:Zg) (v178:List Zb) (v179:Nat),Zi s_.env [0,2,3,4,7]=[(0,.val false [.ptr 0 1 0 0]),(2,.val false [.ptr 102 1 0 0]),(3,one (.bool y101.1)),(4,.val false [.arr 104 v154]),(7,.val false [.arr 121 v179])]∧Zi s_.os [0,102,104,121]=[(0,.box (pvL (Zc v177))),(102,.box (pvL (Zd (⟨0,([]:List Zb),([]:List Ze),0,0⟩:Ze)))),(104,.arr 2 (v153.map Za)),(121,.arr 2 (v178.map Za))]∧v179=(v178:List _).length∧Zdh self5 v153 v177 v178=some r) ?_ ?_
 {
 rintro s_ ⟨v177,v178,v179,he,ho,hn_v179,hF⟩
 refine WA.keep _ _ he ho ?_
 clear he ho
 refine WA.freeze 121 7 (s:=2) (n:=v179) (els:=(v178.map Za)) rfl rfl zt ?_
 refine WA.keep [0,2,3,4,7] [0,102,104] (env':=[(0,.val false [.ptr 0 1 0 0]),(2,.val false [.ptr 102 1 0 0]),(3,one (.bool y101.1)),(4,.val false [.arr 104 v154]),(7,one (.sl (v178.map Za)))]) (os':=[(0,.box (pvL (Zc v177))),(102,.box (pvL (Zd (⟨0,([]:List Zb),([]:List Ze),0,0⟩:Ze)))),(104,.arr 2 (v153.map Za))]) kr kr ?_
 obtain ⟨hc180,hF⟩:=Zl hF
 refine WA.rm (α:=Nat×(List (List PV))) (raw:=((v154+(v178.map Za).length),((v153.map Za) ++ (v178.map Za)))) (can:=((v154+v178.length),((v153 ++ v178).map Za))) (fun m_=>([(0,.val false [.ptr 0 1 0 0]),(2,.val false [.ptr 102 1 0 0]),(3,one (.bool y101.1)),(4,.val false [.arr 104 m_.1])],[(0,.box (pvL (Zc v177))),(102,.box (pvL (Zd (⟨0,([]:List Zb),([]:List Ze),0,0⟩:Ze)))),(104,.arr 2 m_.2)],[v154=(v153.map Za).length,(v153.map Za).length+(v178.map Za).length≤1073741824,∀es,es∈(v178.map Za)→es.length=2])) (ZH (by first | (simp only [zl,Zf];done) | (simp only [zl,Zf];omega) | omega) zm) [0,2,3,4] [0,102,104] [] kr (sound _ _) ⟨zt,(by first | exact hc180 | (simp only [List.length_map,Zf];exact hc180)),(Zax v178),trivial⟩ ?_
 refine WA.reg [0,2,3,4,5] [0,102,104] [] (env':=[(0,.val false [.ptr 0 1 0 0]),(2,.val false [.ptr 102 1 0 0]),(3,one (.bool y101.1)),(4,.val false [.arr 104 (v154+v178.length)]),(5,one (.bool false))]) (os':=[(0,.box (pvL (Zc v177))),(102,.box (pvL (Zd (⟨0,([]:List Zb),([]:List Ze),0,0⟩:Ze)))),(104,.arr 2 ((v153 ++ v178).map Za))]) (O:=[]) kr (sound _ _) trivial ?_
 exact ⟨m5,Nat.lt_succ_self _,v177,(v153 ++ v178),(v154+v178.length),false,kr,kr,zt,by rw [hself5] at hF;exact hF⟩ }
 {
 refine WA.seq ?_
 obtain ⟨y163,hy163,hF⟩:=bind_some hF
 refine WA.reg [0,2,3,4,6,7,23] [0,102,104,121] [(1,.call [0] (one (.bool y163.1)) [.box (pvL (Zc y163.2))] [])] (env':=[(0,.val false [.ptr 0 1 0 0]),(2,.val false [.ptr 102 1 0 0]),(3,one (.bool y101.1)),(4,.val false [.arr 104 v154]),(6,one (.bool y161)),(7,.val false [.arr 121 y162.1.length]),(23,one (.bool y163.1))]) (os':=[(0,.box (pvL (Zc y163.2))),(102,.box (pvL (Zd (⟨0,([]:List Zb),([]:List Ze),0,0⟩:Ze)))),(104,.arr 2 (v153.map Za)),(121,.arr 2 (y162.1.map Za))]) (O:=[Sim Tryz.prog GL0 71 [.val false [.ptr 0 1 0 0],one (.str ([45]:List UInt8))] [.box (pvL (Zc y162.2))] (one (.bool y163.1)) [.box (pvL (Zc y163.2))],([0]:List Nat).Nodup]) kr (sound _ _) ⟨(Zal k _ _ _ hy163),(by decide),trivial⟩ ?_
 refine WA.cond (b:=y163.1) rfl (fun hb164=>?_) (fun hb164=>?_)
 {
 have hF:=Zk hF hb164
 refine WA.seq ?_
 obtain ⟨y165,hy165,hF⟩:=bind_some hF
 refine WA.reg [0,2,3,4,6,7,8] [0,102,104,121] [(1,.callR [0] (one (.bool y165)))] (env':=[(0,.val false [.ptr 0 1 0 0]),(2,.val false [.ptr 102 1 0 0]),(3,one (.bool y101.1)),(4,.val false [.arr 104 v154]),(6,one (.bool y161)),(7,.val false [.arr 121 y162.1.length]),(8,one (.bool y165))]) (os':=[(0,.box (pvL (Zc y163.2))),(102,.box (pvL (Zd (⟨0,([]:List Zb),([]:List Ze),0,0⟩:Ze)))),(104,.arr 2 (v153.map Za)),(121,.arr 2 (y162.1.map Za))]) (O:=[Sim Tryz.prog GL0 97 [.val false [.ptr 0 1 0 0],one (.str ([92,100]:List UInt8))] [.box (pvL (Zc y163.2))] (one (.bool y165)) [.box (pvL (Zc y163.2))],([0]:List Nat).Nodup]) kr (sound _ _) ⟨(ZcF k _ _ _ hy165),(by decide),trivial⟩ ?_
 refine WA.seq ?_
 rcases Z2 hF with ⟨hz,hr⟩ | ⟨y166,hy166,hF⟩
 {
 subst hr
 refine WA.regP 1 [0] [] [] badV (f:=169) (args:=[.val false [.ptr 0 1 0 0]]) (os:=[.box (pvL (Zc y163.2))]) (env1:=[]) (os1:=[(0,.box (pvL (Zc y163.2))),(102,.box (pvL (Zd (⟨0,([]:List Zb),([]:List Ze),0,0⟩:Ze)))),(104,.arr 2 (v153.map Za)),(121,.arr 2 (y162.1.map Za))]) (O:=[]) kr (sound _ _) trivial (by decide) (Zfj k _ _ hz) (fun psl hpsl=>?_)
 obtain ⟨ps,rfl⟩:=ZQ hpsl
 exact ⟨rfl,[ps],kr,rfl⟩ }
 {
 refine WA.reg [0,2,3,4,6,7,8,9] [0,102,104,121] [(1,.call [0] (one (.sl (y166.1.map Za))) [.box (pvL (Zc y166.2))] [])] (env':=[(0,.val false [.ptr 0 1 0 0]),(2,.val false [.ptr 102 1 0 0]),(3,one (.bool y101.1)),(4,.val false [.arr 104 v154]),(6,one (.bool y161)),(7,.val false [.arr 121 y162.1.length]),(8,one (.bool y165)),(9,one (.sl (y166.1.map Za)))]) (os':=[(0,.box (pvL (Zc y166.2))),(102,.box (pvL (Zd (⟨0,([]:List Zb),([]:List Ze),0,0⟩:Ze)))),(104,.arr 2 (v153.map Za)),(121,.arr 2 (y162.1.map Za))]) (O:=[Sim Tryz.prog GL0 169 [.val false [.ptr 0 1 0 0]] [.box (pvL (Zc y163.2))] (one (.sl (y166.1.map Za))) [.box (pvL (Zc y166.2))],([0]:List Nat).Nodup]) kr (sound _ _) ⟨(Zjz (os':=[.box (pvL (Zc y166.2))]) (m:=1) rfl (Nat.le_refl _) (List.length_map _).symm (Zfj k _ _ hy166)),(by decide),trivial⟩ ?_
 refine WA.seq ?_
 refine WA.join (fun s_=>∃(v172:Bool),Zi s_.env [0,2,3,4,7,9,42]=[(0,.val false [.ptr 0 1 0 0]),(2,.val false [.ptr 102 1 0 0]),(3,one (.bool y101.1)),(4,.val false [.arr 104 v154]),(7,.val false [.arr 121 y162.1.length]),(9,one (.sl (y166.1.map Za))),(42,one (.bool v172))]∧Zi s_.os [0,102,104,121]=[(0,.box (pvL (Zc y166.2))),(102,.box (pvL (Zd (⟨0,([]:List Zb),([]:List Ze),0,0⟩:Ze)))),(104,.arr 2 (v153.map Za)),(121,.arr 2 (y162.1.map Za))]∧Zdg self5 v153 y162 y166 v172=some r) ?_ ?_
 {
 rintro s_ ⟨v172,he,ho,hF⟩
 refine WA.keep _ _ he ho ?_
 clear he ho
 refine WA.cond (b:=v172) rfl (fun hb173=>?_) (fun hb173=>?_)
 {
 have hF:=Zk hF hb173
 refine WA.bad [] (t:=70) (env1:=[]) (os1:=[(0,.box (pvL (Zc y166.2))),(102,.box (pvL (Zd (⟨0,([]:List Zb),([]:List Ze),0,0⟩:Ze)))),(104,.arr 2 (v153.map Za)),(121,.arr 2 (y162.1.map Za))]) (O:=[]) kr (sound _ _) trivial ?_
 obtain rfl:=Option.some.inj hF
 exact ⟨rfl,[(Zc y166.2)],kr,rfl⟩ }
 {
 have hF:=Zj hF hb173
 refine WA.skip ?_
 obtain ⟨y174,hy174,hF⟩:=bind_some hF
 obtain ⟨hc175,hF⟩:=Zl hF
 obtain ⟨y176,hy176,hF⟩:=bind_some hF
 refine WA.rm (α:=(List (List PV))) (raw:=((y162.1.map Za).set (Int.toNat 0) (Za ({ y176 with f_Hi:=y174.f_Lo }:Zb)))) (can:=((y162.1.set (Int.toNat 0) ({ y176 with f_Hi:=y174.f_Lo }:Zb)).map Za)) (fun m_=>([(0,.val false [.ptr 0 1 0 0]),(2,.val false [.ptr 102 1 0 0]),(3,one (.bool y101.1)),(4,.val false [.arr 104 v154]),(7,.val false [.arr 121 y162.1.length])],[(0,.box (pvL (Zc y166.2))),(102,.box (pvL (Zd (⟨0,([]:List Zb),([]:List Ze),0,0⟩:Ze)))),(104,.arr 2 (v153.map Za)),(121,.arr 2 m_)],[idxL (y166.1.map Za) 0=some (Za y174),y162.1.length=(y162.1.map Za).length,(0:Int)≤0,0<((y162.1.length:Nat):Int),y162.1.length=(y162.1.map Za).length,0<y162.1.length,y162.1.length=(y162.1.map Za).length,(y162.1.map Za)[Int.toNat 0]?=some (Za y176)])) (zm) [0,2,3,4,7] [0,102,104,121] [(2,.cells (Za y174)),(7,.cells (Za y176))] kr (sound _ _) ⟨(Zp _ hy174),zt,hc175.1,(by have h_:=hc175.2;(try simp only [zl,Zf] at h_ ⊢);omega),zt,(by omega),zt,(Zo (Zp _ hy176)),trivial⟩ ?_
 exact ⟨y166.2,(y162.1.set (Int.toNat 0) ({ y176 with f_Hi:=y174.f_Lo }:Zb)),y162.1.length,kr,kr,zt,hF⟩ } }
 {
 rcases Bool.eq_false_or_eq_true y161 with hb167 | hb167
 {
 have hF:=Zk hF hb167
 refine WA.regD kr [0,2,3,4,7,9,42] [0,102,104,121] [(1,.bool true)] (env':=[(0,.val false [.ptr 0 1 0 0]),(2,.val false [.ptr 102 1 0 0]),(3,one (.bool y101.1)),(4,.val false [.arr 104 v154]),(7,.val false [.arr 121 y162.1.length]),(9,one (.sl (y166.1.map Za))),(42,one (.bool true))]) (os':=[(0,.box (pvL (Zc y166.2))),(102,.box (pvL (Zd (⟨0,([]:List Zb),([]:List Ze),0,0⟩:Ze)))),(104,.arr 2 (v153.map Za)),(121,.arr 2 (y162.1.map Za))]) (O:=[y161=true]) kr kr (sound _ _) ⟨hb167,trivial⟩ ?_
 exact ⟨true,kr,kr,hF⟩ }
 {
 have hF:=Zj hF hb167
 rcases Bool.eq_false_or_eq_true y165 with hb168 | hb168
 {
 have hF:=Zk hF hb168
 refine WA.regD kr [0,2,3,4,7,9,42] [0,102,104,121] [(1,.bool false),(4,.bool true)] (env':=[(0,.val false [.ptr 0 1 0 0]),(2,.val false [.ptr 102 1 0 0]),(3,one (.bool y101.1)),(4,.val false [.arr 104 v154]),(7,.val false [.arr 121 y162.1.length]),(9,one (.sl (y166.1.map Za))),(42,one (.bool true))]) (os':=[(0,.box (pvL (Zc y166.2))),(102,.box (pvL (Zd (⟨0,([]:List Zb),([]:List Ze),0,0⟩:Ze)))),(104,.arr 2 (v153.map Za)),(121,.arr 2 (y162.1.map Za))]) (O:=[y161=false,y165=true]) kr kr (sound _ _) ⟨hb167,hb168,trivial⟩ ?_
 exact ⟨true,kr,kr,hF⟩ }
 {
 have hF:=Zj hF hb168
 obtain ⟨y169,hy169,hF⟩:=bind_some hF
 obtain ⟨hc170,hF⟩:=Zl hF
 obtain ⟨y171,hy171,hF⟩:=bind_some hF
 refine WA.regD kr [0,2,3,4,7,9,42] [0,102,104,121] [(1,.bool false),(4,.bool false),(6,.cells (Za y169)),(12,.cells (Za y171))] (env':=[(0,.val false [.ptr 0 1 0 0]),(2,.val false [.ptr 102 1 0 0]),(3,one (.bool y101.1)),(4,.val false [.arr 104 v154]),(7,.val false [.arr 121 y162.1.length]),(9,one (.sl (y166.1.map Za))),(42,one (.bool (decide (y169.f_Lo<y171.f_Lo))))]) (os':=[(0,.box (pvL (Zc y166.2))),(102,.box (pvL (Zd (⟨0,([]:List Zb),([]:List Ze),0,0⟩:Ze)))),(104,.arr 2 (v153.map Za)),(121,.arr 2 (y162.1.map Za))]) (O:=[y161=false,y165=false,idxL (y166.1.map Za) 0=some (Za y169),y162.1.length=(y162.1.map Za).length,(0:Int)≤0,0<((y162.1.length:Nat):Int),y162.1.length=(y162.1.map Za).length,0<y162.1.length,y162.1.length=(y162.1.map Za).length,(y162.1.map Za)[Int.toNat 0]?=some (Za y171)]) kr kr (sound _ _) ⟨hb167,hb168,(Zp _ hy169),zt,hc170.1,(by have h_:=hc170.2;(try simp only [zl,Zf] at h_ ⊢);omega),zt,(by omega),zt,(Zo (Zp _ hy171)),trivial⟩ ?_
 exact ⟨(decide (y169.f_Lo<y171.f_Lo)),kr,kr,hF⟩ } } } } }
 {
 have hF:=Zj hF hb164
 refine WA.skip ?_
 exact ⟨y163.2,y162.1,y162.1.length,kr,kr,zt,hF⟩ } } } }
 {
 have hF:=Zj hF hb160
 refine WA.exit ?_
 refine WA.seq ?_
 refine WA.freeze 104 4 (s:=2) (n:=v154) (els:=(v153.map Za)) rfl rfl zt ?_
 refine WA.keep [2,3,4] [0,102] (env':=[(2,.val false [.ptr 102 1 0 0]),(3,one (.bool y101.1)),(4,one (.sl (v153.map Za)))]) (os':=[(0,.box (pvL (Zc v158))),(102,.box (pvL (Zd (⟨0,([]:List Zb),([]:List Ze),0,0⟩:Ze))))]) kr kr ?_
 obtain ⟨y181,hy181,hF⟩:=bind_some hF
 obtain ⟨y182,hy182,hF⟩:=bind_some hF
 obtain ⟨y183,hy183,hF⟩:=bind_some hF
 refine WA.reg [2,3,4] [0,102] [(1,.callR [] (one (.sl (y181.map Za)))),(2,.callR [] (one (.sl (y182.map Za)))),(3,.callR [] (one (.sl (y183.map Za))))] (env':=[(2,.val false [.ptr 102 1 0 0]),(3,one (.bool y101.1)),(4,one (.sl (y183.map Za)))]) (os':=[(0,.box (pvL (Zc v158))),(102,.box (pvL (Zd (⟨0,([]:List Zb),([]:List Ze),0,0⟩:Ze))))]) (O:=[Sim Tryz.prog GL0 77 [one (.sl (v153.map Za))] [] (one (.sl (y181.map Za))) [],([]:List Nat).Nodup,Sim Tryz.prog GL0 59 [] [] (one (.sl (y182.map Za))) [],([]:List Nat).Nodup,Sim Tryz.prog GL0 76 [one (.sl (y181.map Za)),one (.sl (y182.map Za))] [] (one (.sl (y183.map Za))) [],([]:List Nat).Nodup]) kr (sound _ _) ⟨(Zgb k _ _ hy181),(by decide),(Zey k _ hy182),(by decide),(Zid k _ _ _ hy183),(by decide),trivial⟩ ?_
 refine WA.join (fun s_=>∃(v186:List Zb),Zi s_.env [2,4]=[(2,.val false [.ptr 102 1 0 0]),(4,one (.sl (v186.map Za)))]∧Zi s_.os [0,102]=[(0,.box (pvL (Zc v158))),(102,.box (pvL (Zd (⟨0,([]:List Zb),([]:List Ze),0,0⟩:Ze))))]∧Zci k v158 v186=some r) ?_ ?_
 {
 rintro s_ ⟨v186,he,ho,hF⟩
 refine WA.keep _ _ he ho ?_
 clear he ho
 refine WA.seq ?_
 obtain ⟨y187,hy187,hF⟩:=bind_some hF
 refine WA.reg [2] [0,102] [(1,.callR [] (.val true (pvL (Zd y187))))] (env':=[(2,.val false [.ptr 102 1 0 0])]) (os':=[(0,.box (pvL (Zc v158))),(102,.box (pvL (Zd y187)))]) (O:=[Sim Tryz.prog GL0 58 [one (.sl (v186.map Za))] [] (.val true (pvL (Zd y187))) [],([]:List Nat).Nodup]) kr (sound _ _) ⟨(Zdw k _ _ hy187),(by decide),trivial⟩ ?_
 refine WA.ret ?_
 obtain rfl:=Option.some.inj hF
 exact Zu (.val true (pvL (Zd y187))) [.box (pvL (Zc v158))] kr kr kr kr (by decide) rfl rfl }
 {
 refine WA.seq ?_
 refine WA.reg [2,4,59] [0,102] [] (env':=[(2,.val false [.ptr 102 1 0 0]),(4,one (.sl (y183.map Za))),(59,one (.bool y101.1))]) (os':=[(0,.box (pvL (Zc v158))),(102,.box (pvL (Zd (⟨0,([]:List Zb),([]:List Ze),0,0⟩:Ze))))]) (O:=[]) kr (sound _ _) trivial ?_
 refine WA.cond (b:=y101.1) rfl (fun hb184=>?_) (fun hb184=>?_)
 {
 have hF:=Zk hF hb184
 obtain ⟨y185,hy185,hF⟩:=bind_some hF
 refine WA.reg [2,4] [0,102] [(1,.callR [] (one (.sl (y185.map Za))))] (env':=[(2,.val false [.ptr 102 1 0 0]),(4,one (.sl (y185.map Za)))]) (os':=[(0,.box (pvL (Zc v158))),(102,.box (pvL (Zd (⟨0,([]:List Zb),([]:List Ze),0,0⟩:Ze))))]) (O:=[Sim Tryz.prog GL0 109 [one (.sl (y183.map Za))] [] (one (.sl (y185.map Za))) [],([]:List Nat).Nodup]) kr (sound _ _) ⟨(ZlO k _ _ hy185),(by decide),trivial⟩ ?_
 exact ⟨y185,kr,kr,hF⟩ }
 {
 have hF:=Zj hF hb184
 refine WA.skip ?_
 exact ⟨y183,kr,kr,hF⟩ } } } }
  {
 rcases Bool.eq_false_or_eq_true v155 with hb156 | hb156
 {
 have hF:=Zk hF hb156
 refine WA.reg [0,2,3,4,17] [0,102,104] [(1,.bool true)] (env':=[(0,.val false [.ptr 0 1 0 0]),(2,.val false [.ptr 102 1 0 0]),(3,one (.bool y101.1)),(4,.val false [.arr 104 v154]),(17,one (.bool true))]) (os':=[(0,.box (pvL (Zc v152))),(102,.box (pvL (Zd (⟨0,([]:List Zb),([]:List Ze),0,0⟩:Ze)))),(104,.arr 2 (v153.map Za))]) (O:=[v155=true]) kr (sound _ _) ⟨hb156,trivial⟩ ?_
 exact ⟨v152,true,kr,kr,hF⟩ }
 {
 have hF:=Zj hF hb156
 obtain ⟨y157,hy157,hF⟩:=bind_some hF
 refine WA.reg [0,2,3,4,17] [0,102,104] [(1,.bool false),(3,.call [0] (one (.bool y157.1)) [.box (pvL (Zc y157.2))] [])] (env':=[(0,.val false [.ptr 0 1 0 0]),(2,.val false [.ptr 102 1 0 0]),(3,one (.bool y101.1)),(4,.val false [.arr 104 v154]),(17,one (.bool (!y157.1)))]) (os':=[(0,.box (pvL (Zc y157.2))),(102,.box (pvL (Zd (⟨0,([]:List Zb),([]:List Ze),0,0⟩:Ze)))),(104,.arr 2 (v153.map Za))]) (O:=[v155=false,Sim Tryz.prog GL0 71 [.val false [.ptr 0 1 0 0],one (.str ([93]:List UInt8))] [.box (pvL (Zc v152))] (one (.bool y157.1)) [.box (pvL (Zc y157.2))],([0]:List Nat).Nodup]) kr (sound _ _) ⟨hb156,(Zal k _ _ _ hy157),(by decide),trivial⟩ ?_
 exact ⟨y157.2,(!y157.1),kr,kr,hF⟩ } }
def F117 (R48:Zg→Option (Option (Ze×Zg))) (k:Nat) (v0:Zg):Option (Option (Ze×Zg)):=
  (F71 k v0 ([40]:List UInt8)).bind fun y101=>(cond y101.1 (orP (R48 y101.2) fun y103=>(F71 k y103.2 ([41]:List UInt8)).bind fun y104=>(cond (!y104.1) (some none) (((some (some (y103.1,y104.2))))))) ((F71 k y101.2 ([91]:List UInt8)).bind fun y106=>(cond y106.1 (orP (F138 k y106.2) fun y108=>(some (some (y108.1,y108.2)))) ((F71 k y106.2 ([46]:List UInt8)).bind fun y109=>(cond y109.1 ((F59 k).bind fun y111=>(F58 k y111).bind fun y112=>(some (some (y112,y109.2)))) ((F71 k y109.2 ([92]:List UInt8)).bind fun y113=>(cond y113.1 (orP (F139 k y113.2 ([92,46,91,93,40,41,123,125,42,43,63,124,94,36,45,47]:List UInt8)) fun y115=>(F58 k y115.1).bind fun y116=>(some (some (y116,y115.2)))) ((orP (F140 k y113.2) fun y117=>(F141 k ([92,46,91,93,40,41,123,125,42,43,63,124,94,36]:List UInt8) (IntKind.wrap .i32 y117.1)).bind fun y118=>(cond y118 (some none) ((F58 k ([(⟨y117.1,y117.1⟩:Zb)]:List Zb)).bind fun y120=>(some (some (y120,y117.2))))))))))))))
theorem Zi7 (R48:Zg→Option (Option (Ze×Zg))) (IH48:∀(v0:Zg) (r:Option (Ze×Zg)),R48 v0=some r→SimP Tryz.prog GL0 badV 48 [.val false [.ptr 0 1 0 0]] [.box (pvL (Zc v0))] (r.map fun r=>(.val true (pvL (Zd r.1)),[.box (pvL (Zc r.2))]))) (k:Nat) (v0:Zg) (r:Option (Ze×Zg)) (hF:F117 R48 k v0=some r):SimP Tryz.prog GL0 badV 117 [.val false [.ptr 0 1 0 0]] [.box (pvL (Zc v0))] (r.map fun r=>(.val true (pvL (Zd r.1)),[.box (pvL (Zc r.2))])):=by
 refine Za2 [0] Tryz.func117 rfl kr kr ?_
 show WA _ _ 44 _ _ _
 refine WA.seq ?_
 refine WA.reg [0,2] [0,102] [(0,.obj 102)] (env':=[(0,.val false [.ptr 0 1 0 0]),(2,.val false [.ptr 102 1 0 0])]) (os':=[(0,.box (pvL (Zc v0))),(102,.box (pvL (Zd (⟨0,([]:List Zb),([]:List Ze),0,0⟩:Ze))))]) (O:=[]) kr (sound _ _) trivial ?_
 refine WA.seq ?_
 refine WA.block ?_
 refine WA.seq ?_
 obtain ⟨y101,hy101,hF⟩:=bind_some hF
 refine WA.reg [0,2,5] [0,102] [(1,.call [0] (one (.bool y101.1)) [.box (pvL (Zc y101.2))] [])] (env':=[(0,.val false [.ptr 0 1 0 0]),(2,.val false [.ptr 102 1 0 0]),(5,one (.bool y101.1))]) (os':=[(0,.box (pvL (Zc y101.2))),(102,.box (pvL (Zd (⟨0,([]:List Zb),([]:List Ze),0,0⟩:Ze))))]) (O:=[Sim Tryz.prog GL0 71 [.val false [.ptr 0 1 0 0],one (.str ([40]:List UInt8))] [.box (pvL (Zc v0))] (one (.bool y101.1)) [.box (pvL (Zc y101.2))],([0]:List Nat).Nodup]) kr (sound _ _) ⟨(Zal k _ _ _ hy101),(by decide),trivial⟩ ?_
 refine WA.cond (b:=y101.1) rfl (fun hb102=>?_) (fun hb102=>?_)
 {
 have hF:=Zk hF hb102
 refine WA.seq ?_
 rcases Z2 hF with ⟨hz,hr⟩ | ⟨y103,hy103,hF⟩
 {
 subst hr
 refine WA.regP 1 [0] [] [] badV (f:=48) (args:=[.val false [.ptr 0 1 0 0]]) (os:=[.box (pvL (Zc y101.2))]) (env1:=[]) (os1:=[(0,.box (pvL (Zc y101.2))),(102,.box (pvL (Zd (⟨0,([]:List Zb),([]:List Ze),0,0⟩:Ze))))]) (O:=[]) kr (sound _ _) trivial (by decide) (IH48 _ _ hz) (fun psl hpsl=>?_)
 obtain ⟨ps,rfl⟩:=ZQ hpsl
 exact ⟨rfl,[ps],kr,rfl⟩ }
 {
 refine WA.reg [0,2,3] [0,102,103] [(1,.call [0] (.val true (pvL (Zd y103.1))) [.box (pvL (Zc y103.2))] []),(2,.obj 103)] (env':=[(0,.val false [.ptr 0 1 0 0]),(2,.val false [.ptr 102 1 0 0]),(3,.val false [.ptr 103 1 0 0])]) (os':=[(0,.box (pvL (Zc y103.2))),(102,.box (pvL (Zd (⟨0,([]:List Zb),([]:List Ze),0,0⟩:Ze)))),(103,.box (pvL (Zd y103.1)))]) (O:=[Sim Tryz.prog GL0 48 [.val false [.ptr 0 1 0 0]] [.box (pvL (Zc y101.2))] (.val true (pvL (Zd y103.1))) [.box (pvL (Zc y103.2))],([0]:List Nat).Nodup]) kr (sound _ _) ⟨(IH48 _ _ hy103),(by decide),trivial⟩ ?_
 refine WA.seq ?_
 refine WA.seq ?_
 obtain ⟨y104,hy104,hF⟩:=bind_some hF
 refine WA.reg [2,3,12] [0,102,103] [(1,.call [0] (one (.bool y104.1)) [.box (pvL (Zc y104.2))] [])] (env':=[(2,.val false [.ptr 102 1 0 0]),(3,.val false [.ptr 103 1 0 0]),(12,one (.bool (!y104.1)))]) (os':=[(0,.box (pvL (Zc y104.2))),(102,.box (pvL (Zd (⟨0,([]:List Zb),([]:List Ze),0,0⟩:Ze)))),(103,.box (pvL (Zd y103.1)))]) (O:=[Sim Tryz.prog GL0 71 [.val false [.ptr 0 1 0 0],one (.str ([41]:List UInt8))] [.box (pvL (Zc y103.2))] (one (.bool y104.1)) [.box (pvL (Zc y104.2))],([0]:List Nat).Nodup]) kr (sound _ _) ⟨(Zal k _ _ _ hy104),(by decide),trivial⟩ ?_
 refine WA.cond (b:=(!y104.1)) rfl (fun hb105=>?_) (fun hb105=>?_)
 {
 have hF:=Zk hF hb105
 refine WA.bad [] (t:=70) (env1:=[]) (os1:=[(0,.box (pvL (Zc y104.2))),(102,.box (pvL (Zd (⟨0,([]:List Zb),([]:List Ze),0,0⟩:Ze)))),(103,.box (pvL (Zd y103.1)))]) (O:=[]) kr (sound _ _) trivial ?_
 obtain rfl:=Option.some.inj hF
 exact ⟨rfl,[(Zc y104.2)],kr,rfl⟩ }
 {
 have hF:=Zj hF hb105
 refine WA.skip ?_
 refine WA.seq ?_
 refine WA.reg [2] [0,102] [] (env':=[(2,.val false [.ptr 102 1 0 0])]) (os':=[(0,.box (pvL (Zc y104.2))),(102,.box (pvL (Zd y103.1)))]) (O:=[]) kr (sound _ _) trivial ?_
 refine WA.ret ?_
 obtain rfl:=Option.some.inj hF
 exact Zu (.val true (pvL (Zd y103.1))) [.box (pvL (Zc y104.2))] kr kr kr kr (by decide) rfl rfl } } }
 {
 have hF:=Zj hF hb102
 refine WA.seq ?_
 obtain ⟨y106,hy106,hF⟩:=bind_some hF
 refine WA.reg [0,2,16] [0,102] [(1,.call [0] (one (.bool y106.1)) [.box (pvL (Zc y106.2))] [])] (env':=[(0,.val false [.ptr 0 1 0 0]),(2,.val false [.ptr 102 1 0 0]),(16,one (.bool y106.1))]) (os':=[(0,.box (pvL (Zc y106.2))),(102,.box (pvL (Zd (⟨0,([]:List Zb),([]:List Ze),0,0⟩:Ze))))]) (O:=[Sim Tryz.prog GL0 71 [.val false [.ptr 0 1 0 0],one (.str ([91]:List UInt8))] [.box (pvL (Zc y101.2))] (one (.bool y106.1)) [.box (pvL (Zc y106.2))],([0]:List Nat).Nodup]) kr (sound _ _) ⟨(Zal k _ _ _ hy106),(by decide),trivial⟩ ?_
 refine WA.cond (b:=y106.1) rfl (fun hb107=>?_) (fun hb107=>?_)
 {
 have hF:=Zk hF hb107
 refine WA.seq ?_
 rcases Z2 hF with ⟨hz,hr⟩ | ⟨y108,hy108,hF⟩
 {
 subst hr
 refine WA.regP 1 [0] [] [] badV (f:=138) (args:=[.val false [.ptr 0 1 0 0]]) (os:=[.box (pvL (Zc y106.2))]) (env1:=[]) (os1:=[(0,.box (pvL (Zc y106.2))),(102,.box (pvL (Zd (⟨0,([]:List Zb),([]:List Ze),0,0⟩:Ze))))]) (O:=[]) kr (sound _ _) trivial (by decide) (Zja k _ _ hz) (fun psl hpsl=>?_)
 obtain ⟨ps,rfl⟩:=ZQ hpsl
 exact ⟨rfl,[ps],kr,rfl⟩ }
 {
 refine WA.reg [2] [0,102] [(1,.call [0] (.val true (pvL (Zd y108.1))) [.box (pvL (Zc y108.2))] [])] (env':=[(2,.val false [.ptr 102 1 0 0])]) (os':=[(0,.box (pvL (Zc y108.2))),(102,.box (pvL (Zd y108.1)))]) (O:=[Sim Tryz.prog GL0 138 [.val false [.ptr 0 1 0 0]] [.box (pvL (Zc y106.2))] (.val true (pvL (Zd y108.1))) [.box (pvL (Zc y108.2))],([0]:List Nat).Nodup]) kr (sound _ _) ⟨(Zja k _ _ hy108),(by decide),trivial⟩ ?_
 refine WA.ret ?_
 obtain rfl:=Option.some.inj hF
 exact Zu (.val true (pvL (Zd y108.1))) [.box (pvL (Zc y108.2))] kr kr kr kr (by decide) rfl rfl } }
 {
 have hF:=Zj hF hb107
 refine WA.seq ?_
 obtain ⟨y109,hy109,hF⟩:=bind_some hF
 refine WA.reg [0,2,21] [0,102] [(1,.call [0] (one (.bool y109.1)) [.box (pvL (Zc y109.2))] [])] (env':=[(0,.val false [.ptr 0 1 0 0]),(2,.val false [.ptr 102 1 0 0]),(21,one (.bool y109.1))]) (os':=[(0,.box (pvL (Zc y109.2))),(102,.box (pvL (Zd (⟨0,([]:List Zb),([]:List Ze),0,0⟩:Ze))))]) (O:=[Sim Tryz.prog GL0 71 [.val false [.ptr 0 1 0 0],one (.str ([46]:List UInt8))] [.box (pvL (Zc y106.2))] (one (.bool y109.1)) [.box (pvL (Zc y109.2))],([0]:List Nat).Nodup]) kr (sound _ _) ⟨(Zal k _ _ _ hy109),(by decide),trivial⟩ ?_
 refine WA.cond (b:=y109.1) rfl (fun hb110=>?_) (fun hb110=>?_)
 {
 have hF:=Zk hF hb110
 refine WA.seq ?_
 obtain ⟨y111,hy111,hF⟩:=bind_some hF
 obtain ⟨y112,hy112,hF⟩:=bind_some hF
 refine WA.reg [2] [0,102] [(0,.callR [] (one (.sl (y111.map Za)))),(1,.callR [] (.val true (pvL (Zd y112))))] (env':=[(2,.val false [.ptr 102 1 0 0])]) (os':=[(0,.box (pvL (Zc y109.2))),(102,.box (pvL (Zd y112)))]) (O:=[Sim Tryz.prog GL0 59 [] [] (one (.sl (y111.map Za))) [],([]:List Nat).Nodup,Sim Tryz.prog GL0 58 [one (.sl (y111.map Za))] [] (.val true (pvL (Zd y112))) [],([]:List Nat).Nodup]) kr (sound _ _) ⟨(Zey k _ hy111),(by decide),(Zdw k _ _ hy112),(by decide),trivial⟩ ?_
 refine WA.ret ?_
 obtain rfl:=Option.some.inj hF
 exact Zu (.val true (pvL (Zd y112))) [.box (pvL (Zc y109.2))] kr kr kr kr (by decide) rfl rfl }
 {
 have hF:=Zj hF hb110
 refine WA.seq ?_
 obtain ⟨y113,hy113,hF⟩:=bind_some hF
 refine WA.reg [0,2,26] [0,102] [(1,.call [0] (one (.bool y113.1)) [.box (pvL (Zc y113.2))] [])] (env':=[(0,.val false [.ptr 0 1 0 0]),(2,.val false [.ptr 102 1 0 0]),(26,one (.bool y113.1))]) (os':=[(0,.box (pvL (Zc y113.2))),(102,.box (pvL (Zd (⟨0,([]:List Zb),([]:List Ze),0,0⟩:Ze))))]) (O:=[Sim Tryz.prog GL0 71 [.val false [.ptr 0 1 0 0],one (.str ([92]:List UInt8))] [.box (pvL (Zc y109.2))] (one (.bool y113.1)) [.box (pvL (Zc y113.2))],([0]:List Nat).Nodup]) kr (sound _ _) ⟨(Zal k _ _ _ hy113),(by decide),trivial⟩ ?_
 refine WA.cond (b:=y113.1) rfl (fun hb114=>?_) (fun hb114=>?_)
 {
 have hF:=Zk hF hb114
 refine WA.seq ?_
 rcases Z2 hF with ⟨hz,hr⟩ | ⟨y115,hy115,hF⟩
 {
 subst hr
 refine WA.regP 1 [0] [] [] badV (f:=139) (args:=[.val false [.ptr 0 1 0 0],one (.str ([92,46,91,93,40,41,123,125,42,43,63,124,94,36,45,47]:List UInt8))]) (os:=[.box (pvL (Zc y113.2))]) (env1:=[]) (os1:=[(0,.box (pvL (Zc y113.2))),(102,.box (pvL (Zd (⟨0,([]:List Zb),([]:List Ze),0,0⟩:Ze))))]) (O:=[]) kr (sound _ _) trivial (by decide) (Zfc k _ _ _ hz) (fun psl hpsl=>?_)
 obtain ⟨ps,rfl⟩:=ZQ hpsl
 exact ⟨rfl,[ps],kr,rfl⟩ }
 {
 obtain ⟨y116,hy116,hF⟩:=bind_some hF
 refine WA.reg [2] [0,102] [(1,.call [0] (one (.sl (y115.1.map Za))) [.box (pvL (Zc y115.2))] []),(2,.callR [] (.val true (pvL (Zd y116))))] (env':=[(2,.val false [.ptr 102 1 0 0])]) (os':=[(0,.box (pvL (Zc y115.2))),(102,.box (pvL (Zd y116)))]) (O:=[Sim Tryz.prog GL0 139 [.val false [.ptr 0 1 0 0],one (.str ([92,46,91,93,40,41,123,125,42,43,63,124,94,36,45,47]:List UInt8))] [.box (pvL (Zc y113.2))] (one (.sl (y115.1.map Za))) [.box (pvL (Zc y115.2))],([0]:List Nat).Nodup,Sim Tryz.prog GL0 58 [one (.sl (y115.1.map Za))] [] (.val true (pvL (Zd y116))) [],([]:List Nat).Nodup]) kr (sound _ _) ⟨(Zjz (os':=[.box (pvL (Zc y115.2))]) (m:=1) rfl (Nat.le_refl _) (List.length_map _).symm (Zfc k _ _ _ hy115)),(by decide),(Zdw k _ _ hy116),(by decide),trivial⟩ ?_
 refine WA.ret ?_
 obtain rfl:=Option.some.inj hF
 exact Zu (.val true (pvL (Zd y116))) [.box (pvL (Zc y115.2))] kr kr kr kr (by decide) rfl rfl } }
 {
 have hF:=Zj hF hb114
 refine WA.skip ?_
 refine WA.seq ?_
 rcases Z2 hF with ⟨hz,hr⟩ | ⟨y117,hy117,hF⟩
 {
 subst hr
 refine WA.regP 1 [0] [] [] badV (f:=140) (args:=[.val false [.ptr 0 1 0 0]]) (os:=[.box (pvL (Zc y113.2))]) (env1:=[]) (os1:=[(0,.box (pvL (Zc y113.2))),(102,.box (pvL (Zd (⟨0,([]:List Zb),([]:List Ze),0,0⟩:Ze))))]) (O:=[]) kr (sound _ _) trivial (by decide) (Zcj k _ _ hz) (fun psl hpsl=>?_)
 obtain ⟨ps,rfl⟩:=ZQ hpsl
 exact ⟨rfl,[ps],kr,rfl⟩ }
 {
 refine WA.reg [2,4] [0,102] [(1,.call [0] (one (.int .i64 y117.1)) [.box (pvL (Zc y117.2))] [])] (env':=[(2,.val false [.ptr 102 1 0 0]),(4,one (.int .i64 y117.1))]) (os':=[(0,.box (pvL (Zc y117.2))),(102,.box (pvL (Zd (⟨0,([]:List Zb),([]:List Ze),0,0⟩:Ze))))]) (O:=[Sim Tryz.prog GL0 140 [.val false [.ptr 0 1 0 0]] [.box (pvL (Zc y113.2))] (one (.int .i64 y117.1)) [.box (pvL (Zc y117.2))],([0]:List Nat).Nodup]) kr (sound _ _) ⟨(Zcj k _ _ hy117),(by decide),trivial⟩ ?_
 refine WA.seq ?_
 refine WA.seq ?_
 obtain ⟨y118,hy118,hF⟩:=bind_some hF
 refine WA.reg [2,4,36] [0,102] [(2,.callR [] (one (.bool y118)))] (env':=[(2,.val false [.ptr 102 1 0 0]),(4,one (.int .i64 y117.1)),(36,one (.bool y118))]) (os':=[(0,.box (pvL (Zc y117.2))),(102,.box (pvL (Zd (⟨0,([]:List Zb),([]:List Ze),0,0⟩:Ze))))]) (O:=[Sim Tryz.prog GL0 141 [one (.str ([92,46,91,93,40,41,123,125,42,43,63,124,94,36]:List UInt8)),one (.int .i32 (IntKind.wrap .i32 y117.1))] [] (one (.bool y118)) [],([]:List Nat).Nodup]) kr (sound _ _) ⟨(Zjb k _ _ _ hy118),(by decide),trivial⟩ ?_
 refine WA.cond (b:=y118) rfl (fun hb119=>?_) (fun hb119=>?_)
 {
 have hF:=Zk hF hb119
 refine WA.bad [] (t:=70) (env1:=[]) (os1:=[(0,.box (pvL (Zc y117.2))),(102,.box (pvL (Zd (⟨0,([]:List Zb),([]:List Ze),0,0⟩:Ze))))]) (O:=[]) kr (sound _ _) trivial ?_
 obtain rfl:=Option.some.inj hF
 exact ⟨rfl,[(Zc y117.2)],kr,rfl⟩ }
 {
 have hF:=Zj hF hb119
 refine WA.skip ?_
 refine WA.seq ?_
 obtain ⟨y120,hy120,hF⟩:=bind_some hF
 refine WA.reg [2] [0,102] [(4,.callR [] (.val true (pvL (Zd y120))))] (env':=[(2,.val false [.ptr 102 1 0 0])]) (os':=[(0,.box (pvL (Zc y117.2))),(102,.box (pvL (Zd y120)))]) (O:=[Sim Tryz.prog GL0 58 [one (.sl (([(⟨y117.1,y117.1⟩:Zb)]:List Zb).map Za))] [] (.val true (pvL (Zd y120))) [],([]:List Nat).Nodup]) kr (sound _ _) ⟨(Zdw k _ _ hy120),(by decide),trivial⟩ ?_
 refine WA.ret ?_
 obtain rfl:=Option.some.inj hF
 exact Zu (.val true (pvL (Zd y120))) [.box (pvL (Zc y117.2))] kr kr kr kr (by decide) rfl rfl } } } } } }
def ZeF (y101:Ze×Zg) (v111:Zg) (v112:Int) (v113:Int):Option (Option (Ze×Zg)):=
  (some (some ((⟨4,([]:List Zb),([y101.1]:List Ze),v112,v113⟩:Ze),v111)))
def F98 (R48:Zg→Option (Option (Ze×Zg))) (k:Nat) (v0:Zg):Option (Option (Ze×Zg)):=
  (orP (F117 R48 k v0) fun y101=>((F71 k y101.2 ([42]:List UInt8)).bind fun y102=>(cond y102.1 ((ZeF y101 y102.2 0 (-1))) ((F71 k y102.2 ([43]:List UInt8)).bind fun y104=>(cond y104.1 ((ZeF y101 y104.2 1 (-1))) ((F71 k y104.2 ([63]:List UInt8)).bind fun y106=>(cond y106.1 ((ZeF y101 y106.2 0 1)) ((F71 k y106.2 ([123]:List UInt8)).bind fun y108=>(cond y108.1 (orP (F118 k y108.2) fun y110=>(ZeF y101 y110.2.2 y110.1 y110.2.1)) ((some (some (y101.1,y108.2)))))))))))))
theorem Zkd (R48:Zg→Option (Option (Ze×Zg))) (IH48:∀(v0:Zg) (r:Option (Ze×Zg)),R48 v0=some r→SimP Tryz.prog GL0 badV 48 [.val false [.ptr 0 1 0 0]] [.box (pvL (Zc v0))] (r.map fun r=>(.val true (pvL (Zd r.1)),[.box (pvL (Zc r.2))]))) (k:Nat) (v0:Zg) (r:Option (Ze×Zg)) (hF:F98 R48 k v0=some r):SimP Tryz.prog GL0 badV 98 [.val false [.ptr 0 1 0 0]] [.box (pvL (Zc v0))] (r.map fun r=>(.val true (pvL (Zd r.1)),[.box (pvL (Zc r.2))])):=by
 refine Za2 [0] Tryz.func98 rfl kr kr ?_
 show WA _ _ 31 _ _ _
 refine WA.seq ?_
 refine WA.reg [0,2] [0,102] [(0,.obj 102)] (env':=[(0,.val false [.ptr 0 1 0 0]),(2,.val false [.ptr 102 1 0 0])]) (os':=[(0,.box (pvL (Zc v0))),(102,.box (pvL (Zd (⟨0,([]:List Zb),([]:List Ze),0,0⟩:Ze))))]) (O:=[]) kr (sound _ _) trivial ?_
 refine WA.seq ?_
 rcases Z2 hF with ⟨hz,hr⟩ | ⟨y101,hy101,hF⟩
 {
 subst hr
 refine WA.regP 1 [0] [] [] badV (f:=117) (args:=[.val false [.ptr 0 1 0 0]]) (os:=[.box (pvL (Zc v0))]) (env1:=[]) (os1:=[(0,.box (pvL (Zc v0))),(102,.box (pvL (Zd (⟨0,([]:List Zb),([]:List Ze),0,0⟩:Ze))))]) (O:=[]) kr (sound _ _) trivial (by decide) (Zi7 R48 IH48 k _ _ hz) (fun psl hpsl=>?_)
 obtain ⟨ps,rfl⟩:=ZQ hpsl
 exact ⟨rfl,[ps],kr,rfl⟩ }
 {
 refine WA.reg [0,2,3] [0,102,103] [(1,.call [0] (.val true (pvL (Zd y101.1))) [.box (pvL (Zc y101.2))] []),(2,.obj 103)] (env':=[(0,.val false [.ptr 0 1 0 0]),(2,.val false [.ptr 102 1 0 0]),(3,.val false [.ptr 103 1 0 0])]) (os':=[(0,.box (pvL (Zc y101.2))),(102,.box (pvL (Zd (⟨0,([]:List Zb),([]:List Ze),0,0⟩:Ze)))),(103,.box (pvL (Zd y101.1)))]) (O:=[Sim Tryz.prog GL0 117 [.val false [.ptr 0 1 0 0]] [.box (pvL (Zc v0))] (.val true (pvL (Zd y101.1))) [.box (pvL (Zc y101.2))],([0]:List Nat).Nodup]) kr (sound _ _) ⟨(Zi7 R48 IH48 k _ _ hy101),(by decide),trivial⟩ ?_
 refine WA.seq ?_
 refine WA.reg [0,2,3,4,5] [0,102,103] [] (env':=[(0,.val false [.ptr 0 1 0 0]),(2,.val false [.ptr 102 1 0 0]),(3,.val false [.ptr 103 1 0 0]),(4,one (.int .i64 0)),(5,one (.int .i64 (-1)))]) (os':=[(0,.box (pvL (Zc y101.2))),(102,.box (pvL (Zd (⟨0,([]:List Zb),([]:List Ze),0,0⟩:Ze)))),(103,.box (pvL (Zd y101.1)))]) (O:=[]) kr (sound _ _) trivial ?_
 refine WA.join (fun s_=>∃(v111:Zg) (v112:Int) (v113:Int),Zi s_.env [2,3,4,5]=[(2,.val false [.ptr 102 1 0 0]),(3,.val false [.ptr 103 1 0 0]),(4,one (.int .i64 v112)),(5,one (.int .i64 v113))]∧Zi s_.os [0,102,103]=[(0,.box (pvL (Zc v111))),(102,.box (pvL (Zd (⟨0,([]:List Zb),([]:List Ze),0,0⟩:Ze)))),(103,.box (pvL (Zd y101.1)))]∧ZeF y101 v111 v112 v113=some r) ?_ ?_
 {
 rintro s_ ⟨v111,v112,v113,he,ho,hF⟩
 refine WA.keep _ _ he ho ?_
 clear he ho
 refine WA.seq ?_
 refine WA.rm (α:=(List (List PV))) (raw:=[(Zd y101.1)]) (can:=(Zn ([y101.1]:List Ze))) (fun m_=>([(2,.val false [.ptr 102 1 0 0])],[(0,.box (pvL (Zc v111))),(102,.box (pvL ([.int .i64 4] ++ [.sl (([]:List Zb).map Za)] ++ [.sl m_] ++ [.int .i64 v112] ++ [.int .i64 v113])))],[])) (zm) [2] [0,102] [] kr (sound _ _) trivial ?_
 refine WA.ret ?_
 obtain rfl:=Option.some.inj hF
 exact Zu (.val true (pvL (Zd (⟨4,([]:List Zb),([y101.1]:List Ze),v112,v113⟩:Ze)))) [.box (pvL (Zc v111))] kr kr kr kr (by decide) rfl rfl }
 {
 refine WA.block ?_
 refine WA.seq ?_
 obtain ⟨y102,hy102,hF⟩:=bind_some hF
 refine WA.reg [0,2,3,4,5,9] [0,102,103] [(1,.call [0] (one (.bool y102.1)) [.box (pvL (Zc y102.2))] [])] (env':=[(0,.val false [.ptr 0 1 0 0]),(2,.val false [.ptr 102 1 0 0]),(3,.val false [.ptr 103 1 0 0]),(4,one (.int .i64 0)),(5,one (.int .i64 (-1))),(9,one (.bool y102.1))]) (os':=[(0,.box (pvL (Zc y102.2))),(102,.box (pvL (Zd (⟨0,([]:List Zb),([]:List Ze),0,0⟩:Ze)))),(103,.box (pvL (Zd y101.1)))]) (O:=[Sim Tryz.prog GL0 71 [.val false [.ptr 0 1 0 0],one (.str ([42]:List UInt8))] [.box (pvL (Zc y101.2))] (one (.bool y102.1)) [.box (pvL (Zc y102.2))],([0]:List Nat).Nodup]) kr (sound _ _) ⟨(Zal k _ _ _ hy102),(by decide),trivial⟩ ?_
 refine WA.cond (b:=y102.1) rfl (fun hb103=>?_) (fun hb103=>?_)
 {
 have hF:=Zk hF hb103
 refine WA.skip ?_
 exact ⟨y102.2,0,(-1),kr,kr,hF⟩ }
 {
 have hF:=Zj hF hb103
 refine WA.seq ?_
 obtain ⟨y104,hy104,hF⟩:=bind_some hF
 refine WA.reg [0,2,3,4,5,12] [0,102,103] [(1,.call [0] (one (.bool y104.1)) [.box (pvL (Zc y104.2))] [])] (env':=[(0,.val false [.ptr 0 1 0 0]),(2,.val false [.ptr 102 1 0 0]),(3,.val false [.ptr 103 1 0 0]),(4,one (.int .i64 0)),(5,one (.int .i64 (-1))),(12,one (.bool y104.1))]) (os':=[(0,.box (pvL (Zc y104.2))),(102,.box (pvL (Zd (⟨0,([]:List Zb),([]:List Ze),0,0⟩:Ze)))),(103,.box (pvL (Zd y101.1)))]) (O:=[Sim Tryz.prog GL0 71 [.val false [.ptr 0 1 0 0],one (.str ([43]:List UInt8))] [.box (pvL (Zc y102.2))] (one (.bool y104.1)) [.box (pvL (Zc y104.2))],([0]:List Nat).Nodup]) kr (sound _ _) ⟨(Zal k _ _ _ hy104),(by decide),trivial⟩ ?_
 refine WA.cond (b:=y104.1) rfl (fun hb105=>?_) (fun hb105=>?_)
 {
 have hF:=Zk hF hb105
 refine WA.reg [2,3,4,5] [0,102,103] [] (env':=[(2,.val false [.ptr 102 1 0 0]),(3,.val false [.ptr 103 1 0 0]),(4,one (.int .i64 1)),(5,one (.int .i64 (-1)))]) (os':=[(0,.box (pvL (Zc y104.2))),(102,.box (pvL (Zd (⟨0,([]:List Zb),([]:List Ze),0,0⟩:Ze)))),(103,.box (pvL (Zd y101.1)))]) (O:=[]) kr (sound _ _) trivial ?_
 exact ⟨y104.2,1,(-1),kr,kr,hF⟩ }
 {
 have hF:=Zj hF hb105
 refine WA.seq ?_
 obtain ⟨y106,hy106,hF⟩:=bind_some hF
 refine WA.reg [0,2,3,4,15] [0,102,103] [(1,.call [0] (one (.bool y106.1)) [.box (pvL (Zc y106.2))] [])] (env':=[(0,.val false [.ptr 0 1 0 0]),(2,.val false [.ptr 102 1 0 0]),(3,.val false [.ptr 103 1 0 0]),(4,one (.int .i64 0)),(15,one (.bool y106.1))]) (os':=[(0,.box (pvL (Zc y106.2))),(102,.box (pvL (Zd (⟨0,([]:List Zb),([]:List Ze),0,0⟩:Ze)))),(103,.box (pvL (Zd y101.1)))]) (O:=[Sim Tryz.prog GL0 71 [.val false [.ptr 0 1 0 0],one (.str ([63]:List UInt8))] [.box (pvL (Zc y104.2))] (one (.bool y106.1)) [.box (pvL (Zc y106.2))],([0]:List Nat).Nodup]) kr (sound _ _) ⟨(Zal k _ _ _ hy106),(by decide),trivial⟩ ?_
 refine WA.cond (b:=y106.1) rfl (fun hb107=>?_) (fun hb107=>?_)
 {
 have hF:=Zk hF hb107
 refine WA.reg [2,3,4,5] [0,102,103] [] (env':=[(2,.val false [.ptr 102 1 0 0]),(3,.val false [.ptr 103 1 0 0]),(4,one (.int .i64 0)),(5,one (.int .i64 1))]) (os':=[(0,.box (pvL (Zc y106.2))),(102,.box (pvL (Zd (⟨0,([]:List Zb),([]:List Ze),0,0⟩:Ze)))),(103,.box (pvL (Zd y101.1)))]) (O:=[]) kr (sound _ _) trivial ?_
 exact ⟨y106.2,0,1,kr,kr,hF⟩ }
 {
 have hF:=Zj hF hb107
 refine WA.seq ?_
 obtain ⟨y108,hy108,hF⟩:=bind_some hF
 refine WA.reg [0,2,3,18] [0,102,103] [(1,.call [0] (one (.bool y108.1)) [.box (pvL (Zc y108.2))] [])] (env':=[(0,.val false [.ptr 0 1 0 0]),(2,.val false [.ptr 102 1 0 0]),(3,.val false [.ptr 103 1 0 0]),(18,one (.bool y108.1))]) (os':=[(0,.box (pvL (Zc y108.2))),(102,.box (pvL (Zd (⟨0,([]:List Zb),([]:List Ze),0,0⟩:Ze)))),(103,.box (pvL (Zd y101.1)))]) (O:=[Sim Tryz.prog GL0 71 [.val false [.ptr 0 1 0 0],one (.str ([123]:List UInt8))] [.box (pvL (Zc y106.2))] (one (.bool y108.1)) [.box (pvL (Zc y108.2))],([0]:List Nat).Nodup]) kr (sound _ _) ⟨(Zal k _ _ _ hy108),(by decide),trivial⟩ ?_
 refine WA.cond (b:=y108.1) rfl (fun hb109=>?_) (fun hb109=>?_)
 {
 have hF:=Zk hF hb109
 rcases Z2 hF with ⟨hz,hr⟩ | ⟨y110,hy110,hF⟩
 {
 subst hr
 refine WA.regP 1 [0] [] [] badV (f:=118) (args:=[.val false [.ptr 0 1 0 0]]) (os:=[.box (pvL (Zc y108.2))]) (env1:=[]) (os1:=[(0,.box (pvL (Zc y108.2))),(102,.box (pvL (Zd (⟨0,([]:List Zb),([]:List Ze),0,0⟩:Ze)))),(103,.box (pvL (Zd y101.1)))]) (O:=[]) kr (sound _ _) trivial (by decide) (Zi8 k _ _ hz) (fun psl hpsl=>?_)
 obtain ⟨ps,rfl⟩:=ZQ hpsl
 exact ⟨rfl,[ps],kr,rfl⟩ }
 {
 refine WA.reg [2,3,4,5] [0,102,103] [(1,.call [0] (.tup [(false,[.pv (.int .i64 y110.1)]),(false,[.pv (.int .i64 y110.2.1)])]) [.box (pvL (Zc y110.2.2))] [])] (env':=[(2,.val false [.ptr 102 1 0 0]),(3,.val false [.ptr 103 1 0 0]),(4,one (.int .i64 y110.1)),(5,one (.int .i64 y110.2.1))]) (os':=[(0,.box (pvL (Zc y110.2.2))),(102,.box (pvL (Zd (⟨0,([]:List Zb),([]:List Ze),0,0⟩:Ze)))),(103,.box (pvL (Zd y101.1)))]) (O:=[Sim Tryz.prog GL0 118 [.val false [.ptr 0 1 0 0]] [.box (pvL (Zc y108.2))] (.tup [(false,[.pv (.int .i64 y110.1)]),(false,[.pv (.int .i64 y110.2.1)])]) [.box (pvL (Zc y110.2.2))],([0]:List Nat).Nodup]) kr (sound _ _) ⟨(Zi8 k _ _ hy110),(by decide),trivial⟩ ?_
 exact ⟨y110.2.2,y110.1,y110.2.1,kr,kr,hF⟩ } }
 {
 have hF:=Zj hF hb109
 refine WA.seq ?_
 refine WA.reg [2] [0,102] [] (env':=[(2,.val false [.ptr 102 1 0 0])]) (os':=[(0,.box (pvL (Zc y108.2))),(102,.box (pvL (Zd y101.1)))]) (O:=[]) kr (sound _ _) trivial ?_
 refine WA.ret ?_
 obtain rfl:=Option.some.inj hF
 exact Zu (.val true (pvL (Zd y101.1))) [.box (pvL (Zc y108.2))] kr kr kr kr (by decide) rfl rfl } } } } } }
def Zdy (R48:Zg→Option (Option (Ze×Zg))) (k:Nat) (self2:Zg→(List Ze)→Option (Option (Ze×Zg))) (v120:Zg) (v121:List Ze) (v127:Bool):Option (Option (Ze×Zg)):=
  cond v127 ((orP (F98 R48 k v120) fun y129=>if v121.length+([y129.1]:List Ze).length≤1073741824 then self2 y129.2 (v121 ++ ([y129.1]:List Ze)) else none)) (((cond ((v121.length:Int) == 1) (if (0:Int)≤0∧0<(v121.length:Int) then (idxL v121 0).bind fun y133=>(some (some (y133,v120))) else none) (((some (some ((⟨2,([]:List Zb),v121,0,0⟩:Ze),v120))))))))
def Zdx (R48:Zg→Option (Option (Ze×Zg))) (k:Nat) (self2:Zg→(List Ze)→Option (Option (Ze×Zg))) (v120:Zg) (v121:List Ze):Option (Option (Ze×Zg)):=
  cond (decide (v120.f_at<(v120.f_s.length:Int))) ((F97 k v120 ([124]:List UInt8)).bind fun y124=>cond (!y124) ((F97 k v120 ([41]:List UInt8)).bind fun y126=>(Zdy R48 k self2 v120 v121 (!y126))) ((Zdy R48 k self2 v120 v121 false))) ((Zdy R48 k self2 v120 v121 false))
def ZcD (R48:Zg→Option (Option (Ze×Zg))) (k:Nat):Nat→Zg→(List Ze)→Option (Option (Ze×Zg))
  | 0,_,_=>none
  | m_+1,v120,v121=>Zdx R48 k (ZcD R48 k m_) v120 v121
def F70 (R48:Zg→Option (Option (Ze×Zg))) (k:Nat) (v0:Zg):Option (Option (Ze×Zg)):=
  ((ZcD R48 k k v0 ([]:List Ze)))
theorem Zga (R48:Zg→Option (Option (Ze×Zg))) (IH48:∀(v0:Zg) (r:Option (Ze×Zg)),R48 v0=some r→SimP Tryz.prog GL0 badV 48 [.val false [.ptr 0 1 0 0]] [.box (pvL (Zc v0))] (r.map fun r=>(.val true (pvL (Zd r.1)),[.box (pvL (Zc r.2))]))) (k:Nat) (v0:Zg) (r:Option (Ze×Zg)) (hF:F70 R48 k v0=some r):SimP Tryz.prog GL0 badV 70 [.val false [.ptr 0 1 0 0]] [.box (pvL (Zc v0))] (r.map fun r=>(.val true (pvL (Zd r.1)),[.box (pvL (Zc r.2))])):=by
 refine Za2 [0] Tryz.func70 rfl kr kr ?_
 show WA _ _ 37 _ _ _
 refine WA.seq ?_
 refine WA.reg [0,2] [0,102] [(0,.obj 102)] (env':=[(0,.val false [.ptr 0 1 0 0]),(2,.val false [.ptr 102 1 0 0])]) (os':=[(0,.box (pvL (Zc v0))),(102,.box (pvL (Zd (⟨0,([]:List Zb),([]:List Ze),0,0⟩:Ze))))]) (O:=[]) kr (sound _ _) trivial ?_
 refine WA.seq ?_
 refine WA.reg [0,2,3] [0,102,103] [(0,.obj 103)] (env':=[(0,.val false [.ptr 0 1 0 0]),(2,.val false [.ptr 102 1 0 0]),(3,.val false [.arr 103 0])]) (os':=[(0,.box (pvL (Zc v0))),(102,.box (pvL (Zd (⟨0,([]:List Zb),([]:List Ze),0,0⟩:Ze)))),(103,.arr 5 (Zn ([]:List Ze)))]) (O:=[]) kr (sound _ _) trivial ?_
 refine WA.seq ?_
 refine WA.block ?_
 refine WA.loop (fun m s_=>∃(v120:Zg) (v121:List Ze) (v122:Nat),Zi s_.env [0,2,3]=[(0,.val false [.ptr 0 1 0 0]),(2,.val false [.ptr 102 1 0 0]),(3,.val false [.arr 103 v122])]∧Zi s_.os [0,102,103]=[(0,.box (pvL (Zc v120))),(102,.box (pvL (Zd (⟨0,([]:List Zb),([]:List Ze),0,0⟩:Ze)))),(103,.arr 5 (Zn v121))]∧v122=(v121:List _).length∧ZcD R48 k m v120 v121=some r) k ⟨v0,([]:List Ze),0,kr,kr,zt,hF⟩ ?_
 clear hF
 rintro m2 s_ ⟨v120,v121,v122,he,ho,hn_v122,hF⟩
 refine WA.keep _ _ he ho ?_
 clear he ho
 cases m2 with
 | zero=>cases hF
 | succ m2=>
  obtain ⟨self2,hself2⟩:∃g,g=ZcD R48 k m2:=⟨_,rfl⟩
  have hF:Zdx R48 k self2 v120 v121=some r:=by first | (rw [hself2];exact hF) | exact hF
  refine WA.seq ?_
  refine WA.join (fun s_=>∃(v127:Bool),Zi s_.env [0,2,3,23]=[(0,.val false [.ptr 0 1 0 0]),(2,.val false [.ptr 102 1 0 0]),(3,.val false [.arr 103 v122]),(23,one (.bool v127))]∧Zi s_.os [0,102,103]=[(0,.box (pvL (Zc v120))),(102,.box (pvL (Zd (⟨0,([]:List Zb),([]:List Ze),0,0⟩:Ze)))),(103,.arr 5 (Zn v121))]∧Zdy R48 k self2 v120 v121 v127=some r) ?_ ?_
  {
 rintro s_ ⟨v127,he,ho,hF⟩
 refine WA.keep _ _ he ho ?_
 clear he ho
 refine WA.cond (b:=v127) rfl (fun hb128=>?_) (fun hb128=>?_)
 {
 have hF:=Zk hF hb128
 refine WA.skip ?_
 refine WA.block ?_
 rcases Z2 hF with ⟨hz,hr⟩ | ⟨y129,hy129,hF⟩
 {
 subst hr
 refine WA.regP 2 [0] [] [] badV (f:=98) (args:=[.val false [.ptr 0 1 0 0]]) (os:=[.box (pvL (Zc v120))]) (env1:=[]) (os1:=[(0,.box (pvL (Zc v120))),(102,.box (pvL (Zd (⟨0,([]:List Zb),([]:List Ze),0,0⟩:Ze)))),(103,.arr 5 (Zn v121))]) (O:=[]) kr (sound _ _) trivial (by decide) (Zkd R48 IH48 k _ _ hz) (fun psl hpsl=>?_)
 obtain ⟨ps,rfl⟩:=ZQ hpsl
 exact ⟨rfl,[ps],kr,rfl⟩ }
 {
 obtain ⟨hc130,hF⟩:=Zl hF
 refine WA.rm (α:=(List (List PV))×(List (List PV))) (raw:=(((Zn v121) ++ ([(Zd y129.1)])),[(Zd y129.1)])) (can:=((Zn (v121 ++ ([y129.1]:List Ze))),(Zn ([y129.1]:List Ze)))) (fun m_=>([(0,.val false [.ptr 0 1 0 0]),(2,.val false [.ptr 102 1 0 0]),(3,.val false [.arr 103 (v122+1)])],[(0,.box (pvL (Zc y129.2))),(102,.box (pvL (Zd (⟨0,([]:List Zb),([]:List Ze),0,0⟩:Ze)))),(103,.arr 5 m_.1)],[Sim Tryz.prog GL0 98 [.val false [.ptr 0 1 0 0]] [.box (pvL (Zc v120))] (.val true (pvL (Zd y129.1))) [.box (pvL (Zc y129.2))],([0]:List Nat).Nodup,v122=(Zn v121).length,(Zn v121).length+m_.2.length≤1073741824,∀es,es∈m_.2→es.length=5])) (ZH zm zm) [0,2,3] [0,102,103] [(2,.call [0] (.val true (pvL (Zd y129.1))) [.box (pvL (Zc y129.2))] [])] kr (sound _ _) ⟨(Zkd R48 IH48 k _ _ hy129),(by decide),zt,(by first | exact hc130 | (simp only [List.length_map,Zf];exact hc130)),(Zeb ([y129.1]:List Ze)),trivial⟩ ?_
 exact ⟨m2,Nat.lt_succ_self _,y129.2,(v121 ++ ([y129.1]:List Ze)),(v122+1),kr,kr,zt,by rw [hself2] at hF;exact hF⟩ } }
 {
 have hF:=Zj hF hb128
 refine WA.exit ?_
 refine WA.seq ?_
 refine WA.seq ?_
 refine WA.rm (α:=Int) (raw:=((v122:Nat):Int)) (can:=(v121.length:Int)) (fun m_=>([(2,.val false [.ptr 102 1 0 0]),(3,.val false [.arr 103 v122]),(31,one (.bool (m_ == 1)))],[(0,.box (pvL (Zc v120))),(102,.box (pvL (Zd (⟨0,([]:List Zb),([]:List Ze),0,0⟩:Ze)))),(103,.arr 5 (Zn v121))],[])) ((by first | (simp only [zl,Zf];done) | (simp only [zl,Zf];omega) | omega)) [2,3,31] [0,102,103] [] kr (sound _ _) trivial ?_
 refine WA.cond (b:=((v121.length:Int) == 1)) rfl (fun hb131=>?_) (fun hb131=>?_)
 {
 have hF:=Zk hF hb131
 refine WA.seq ?_
 obtain ⟨hc132,hF⟩:=Zl hF
 obtain ⟨y133,hy133,hF⟩:=bind_some hF
 refine WA.reg [2] [0,102] [(2,.cells (Zd y133))] (env':=[(2,.val false [.ptr 102 1 0 0])]) (os':=[(0,.box (pvL (Zc v120))),(102,.box (pvL (Zd y133)))]) (O:=[v122=(Zn v121).length,(0:Int)≤0,0<((v122:Nat):Int),v122=(Zn v121).length,(Zn v121)[Int.toNat 0]?=some (Zd y133)]) kr (sound _ _) ⟨zt,hc132.1,(by have h_:=hc132.2;(try simp only [zl,Zf] at h_ ⊢);omega),zt,(Zo (Z6 hy133)),trivial⟩ ?_
 refine WA.ret ?_
 obtain rfl:=Option.some.inj hF
 exact Zu (.val true (pvL (Zd y133))) [.box (pvL (Zc v120))] kr kr kr kr (by decide) rfl rfl }
 {
 have hF:=Zj hF hb131
 refine WA.skip ?_
 refine WA.seq ?_
 refine WA.freeze 103 3 (s:=5) (n:=v122) (els:=(Zn v121)) rfl rfl zt ?_
 refine WA.keep [2,3] [0,102] (env':=[(2,.val false [.ptr 102 1 0 0]),(3,one (.sl (Zn v121)))]) (os':=[(0,.box (pvL (Zc v120))),(102,.box (pvL (Zd (⟨0,([]:List Zb),([]:List Ze),0,0⟩:Ze))))]) kr kr ?_
 refine WA.reg [2] [0,102] [] (env':=[(2,.val false [.ptr 102 1 0 0])]) (os':=[(0,.box (pvL (Zc v120))),(102,.box (pvL (Zd (⟨2,([]:List Zb),v121,0,0⟩:Ze))))]) (O:=[]) kr (sound _ _) trivial ?_
 refine WA.ret ?_
 obtain rfl:=Option.some.inj hF
 exact Zu (.val true (pvL (Zd (⟨2,([]:List Zb),v121,0,0⟩:Ze)))) [.box (pvL (Zc v120))] kr kr kr kr (by decide) rfl rfl } } }
  {
 rcases Bool.eq_false_or_eq_true (decide (v120.f_at<(v120.f_s.length:Int))) with hb123 | hb123
 {
 have hF:=Zk hF hb123
 obtain ⟨y124,hy124,hF⟩:=bind_some hF
 rcases Bool.eq_false_or_eq_true (!y124) with hb125 | hb125
 {
 have hF:=Zk hF hb125
 obtain ⟨y126,hy126,hF⟩:=bind_some hF
 refine WA.regD kr [0,2,3,23] [0,102,103] [(10,.bool true),(12,.callR [0] (one (.bool y124))),(15,.bool true),(17,.callR [0] (one (.bool y126)))] (env':=[(0,.val false [.ptr 0 1 0 0]),(2,.val false [.ptr 102 1 0 0]),(3,.val false [.arr 103 v122]),(23,one (.bool (!y126)))]) (os':=[(0,.box (pvL (Zc v120))),(102,.box (pvL (Zd (⟨0,([]:List Zb),([]:List Ze),0,0⟩:Ze)))),(103,.arr 5 (Zn v121))]) (O:=[(decide (v120.f_at<(v120.f_s.length:Int)))=true,Sim Tryz.prog GL0 97 [.val false [.ptr 0 1 0 0],one (.str ([124]:List UInt8))] [.box (pvL (Zc v120))] (one (.bool y124)) [.box (pvL (Zc v120))],([0]:List Nat).Nodup,(!y124)=true,Sim Tryz.prog GL0 97 [.val false [.ptr 0 1 0 0],one (.str ([41]:List UInt8))] [.box (pvL (Zc v120))] (one (.bool y126)) [.box (pvL (Zc v120))],([0]:List Nat).Nodup]) kr kr (sound _ _) ⟨hb123,(ZcF k _ _ _ hy124),(by decide),hb125,(ZcF k _ _ _ hy126),(by decide),trivial⟩ ?_
 exact ⟨(!y126),kr,kr,hF⟩ }
 {
 have hF:=Zj hF hb125
 refine WA.regD kr [0,2,3,23] [0,102,103] [(10,.bool true),(12,.callR [0] (one (.bool y124))),(15,.bool false),(17,.callR [] (.tup []))] (env':=[(0,.val false [.ptr 0 1 0 0]),(2,.val false [.ptr 102 1 0 0]),(3,.val false [.arr 103 v122]),(23,one (.bool false))]) (os':=[(0,.box (pvL (Zc v120))),(102,.box (pvL (Zd (⟨0,([]:List Zb),([]:List Ze),0,0⟩:Ze)))),(103,.arr 5 (Zn v121))]) (O:=[(decide (v120.f_at<(v120.f_s.length:Int)))=true,Sim Tryz.prog GL0 97 [.val false [.ptr 0 1 0 0],one (.str ([124]:List UInt8))] [.box (pvL (Zc v120))] (one (.bool y124)) [.box (pvL (Zc v120))],([0]:List Nat).Nodup,(!y124)=false]) kr kr (sound _ _) ⟨hb123,(ZcF k _ _ _ hy124),(by decide),hb125,trivial⟩ ?_
 exact ⟨false,kr,kr,hF⟩ } }
 {
 have hF:=Zj hF hb123
 refine WA.regD kr [0,2,3,23] [0,102,103] [(10,.bool false),(12,.callR [] (.tup [])),(17,.callR [] (.tup []))] (env':=[(0,.val false [.ptr 0 1 0 0]),(2,.val false [.ptr 102 1 0 0]),(3,.val false [.arr 103 v122]),(23,one (.bool false))]) (os':=[(0,.box (pvL (Zc v120))),(102,.box (pvL (Zd (⟨0,([]:List Zb),([]:List Ze),0,0⟩:Ze)))),(103,.arr 5 (Zn v121))]) (O:=[(decide (v120.f_at<(v120.f_s.length:Int)))=false]) kr kr (sound _ _) ⟨hb123,trivial⟩ ?_
 exact ⟨false,kr,kr,hF⟩ } }
def Zf6 (R48:Zg→Option (Option (Ze×Zg))) (k:Nat) (self0:Zg→(List Ze)→Option (Option (Ze×Zg))) (v113:Zg) (v114:List Ze):Option (Option (Ze×Zg)):=
  (F71 k v113 ([124]:List UInt8)).bind fun y116=>(cond y116.1 ((orP (F70 R48 k y116.2) fun y118=>if v114.length+([y118.1]:List Ze).length≤1073741824 then self0 y118.2 (v114 ++ ([y118.1]:List Ze)) else none)) (((cond ((v114.length:Int) == 1) (if (0:Int)≤0∧0<(v114.length:Int) then (idxL v114 0).bind fun y122=>(some (some (y122,y116.2))) else none) (((some (some ((⟨3,([]:List Zb),v114,0,0⟩:Ze),y116.2)))))))))
def Zdp (R48:Zg→Option (Option (Ze×Zg))) (k:Nat):Nat→Zg→(List Ze)→Option (Option (Ze×Zg))
  | 0,_,_=>none
  | m_+1,v113,v114=>Zf6 R48 k (Zdp R48 k m_) v113 v114
def ZhV (R48:Zg→Option (Option (Ze×Zg))) (k:Nat) (v0:Zg):Option (Option (Ze×Zg)):=
  (orP (F70 R48 k v0) fun y101=>(Zdp R48 k k y101.2 ([y101.1]:List Ze)))
theorem ZkW (R48:Zg→Option (Option (Ze×Zg))) (IH48:∀(v0:Zg) (r:Option (Ze×Zg)),R48 v0=some r→SimP Tryz.prog GL0 badV 48 [.val false [.ptr 0 1 0 0]] [.box (pvL (Zc v0))] (r.map fun r=>(.val true (pvL (Zd r.1)),[.box (pvL (Zc r.2))]))) (k:Nat) (v0:Zg) (r:Option (Ze×Zg)) (hF:ZhV R48 k v0=some r):SimP Tryz.prog GL0 badV 48 [.val false [.ptr 0 1 0 0]] [.box (pvL (Zc v0))] (r.map fun r=>(.val true (pvL (Zd r.1)),[.box (pvL (Zc r.2))])):=by
 refine Za2 [0] Tryz.func48 rfl kr kr ?_
 show WA _ _ 22 _ _ _
 refine WA.seq ?_
 refine WA.reg [0,2] [0,102] [(0,.obj 102)] (env':=[(0,.val false [.ptr 0 1 0 0]),(2,.val false [.ptr 102 1 0 0])]) (os':=[(0,.box (pvL (Zc v0))),(102,.box (pvL (Zd (⟨0,([]:List Zb),([]:List Ze),0,0⟩:Ze))))]) (O:=[]) kr (sound _ _) trivial ?_
 refine WA.seq ?_
 rcases Z2 hF with ⟨hz,hr⟩ | ⟨y101,hy101,hF⟩
 {
 subst hr
 refine WA.regP 1 [0] [] [] badV (f:=70) (args:=[.val false [.ptr 0 1 0 0]]) (os:=[.box (pvL (Zc v0))]) (env1:=[]) (os1:=[(0,.box (pvL (Zc v0))),(102,.box (pvL (Zd (⟨0,([]:List Zb),([]:List Ze),0,0⟩:Ze))))]) (O:=[]) kr (sound _ _) trivial (by decide) (Zga R48 IH48 k _ _ hz) (fun psl hpsl=>?_)
 obtain ⟨ps,rfl⟩:=ZQ hpsl
 exact ⟨rfl,[ps],kr,rfl⟩ }
 {
 refine WA.rm (α:=(List (List PV))) (raw:=[(Zd y101.1)]) (can:=(Zn ([y101.1]:List Ze))) (fun m_=>([(0,.val false [.ptr 0 1 0 0]),(2,.val false [.ptr 102 1 0 0]),(3,.val false [.arr 106 1])],[(0,.box (pvL (Zc y101.2))),(102,.box (pvL (Zd (⟨0,([]:List Zb),([]:List Ze),0,0⟩:Ze)))),(106,.arr 5 m_)],[Sim Tryz.prog GL0 70 [.val false [.ptr 0 1 0 0]] [.box (pvL (Zc v0))] (.val true (pvL (Zd y101.1))) [.box (pvL (Zc y101.2))],([0]:List Nat).Nodup])) (zm) [0,2,3] [0,102,106] [(1,.call [0] (.val true (pvL (Zd y101.1))) [.box (pvL (Zc y101.2))] []),(2,.obj 106)] kr (sound _ _) ⟨(Zga R48 IH48 k _ _ hy101),(by decide),trivial⟩ ?_
 refine WA.seq ?_
 refine WA.block ?_
 refine WA.loop (fun m s_=>∃(v113:Zg) (v114:List Ze) (v115:Nat),Zi s_.env [0,2,3]=[(0,.val false [.ptr 0 1 0 0]),(2,.val false [.ptr 102 1 0 0]),(3,.val false [.arr 106 v115])]∧Zi s_.os [0,102,106]=[(0,.box (pvL (Zc v113))),(102,.box (pvL (Zd (⟨0,([]:List Zb),([]:List Ze),0,0⟩:Ze)))),(106,.arr 5 (Zn v114))]∧v115=(v114:List _).length∧Zdp R48 k m v113 v114=some r) k ⟨y101.2,([y101.1]:List Ze),1,kr,kr,zt,hF⟩ ?_
 clear hF
 rintro m0 s_ ⟨v113,v114,v115,he,ho,hn_v115,hF⟩
 refine WA.keep _ _ he ho ?_
 clear he ho
 cases m0 with
 | zero=>cases hF
 | succ m0=>
  obtain ⟨self0,hself0⟩:∃g,g=Zdp R48 k m0:=⟨_,rfl⟩
  have hF:Zf6 R48 k self0 v113 v114=some r:=by first | (rw [hself0];exact hF) | exact hF
  refine WA.seq ?_
  refine WA.seq ?_
  obtain ⟨y116,hy116,hF⟩:=bind_some hF
  refine WA.reg [0,2,3,8] [0,102,106] [(1,.call [0] (one (.bool y116.1)) [.box (pvL (Zc y116.2))] [])] (env':=[(0,.val false [.ptr 0 1 0 0]),(2,.val false [.ptr 102 1 0 0]),(3,.val false [.arr 106 v115]),(8,one (.bool y116.1))]) (os':=[(0,.box (pvL (Zc y116.2))),(102,.box (pvL (Zd (⟨0,([]:List Zb),([]:List Ze),0,0⟩:Ze)))),(106,.arr 5 (Zn v114))]) (O:=[Sim Tryz.prog GL0 71 [.val false [.ptr 0 1 0 0],one (.str ([124]:List UInt8))] [.box (pvL (Zc v113))] (one (.bool y116.1)) [.box (pvL (Zc y116.2))],([0]:List Nat).Nodup]) kr (sound _ _) ⟨(Zal k _ _ _ hy116),(by decide),trivial⟩ ?_
  refine WA.cond (b:=y116.1) rfl (fun hb117=>?_) (fun hb117=>?_)
  {
 have hF:=Zk hF hb117
 refine WA.skip ?_
 refine WA.block ?_
 rcases Z2 hF with ⟨hz,hr⟩ | ⟨y118,hy118,hF⟩
 {
 subst hr
 refine WA.regP 2 [0] [] [] badV (f:=70) (args:=[.val false [.ptr 0 1 0 0]]) (os:=[.box (pvL (Zc y116.2))]) (env1:=[]) (os1:=[(0,.box (pvL (Zc y116.2))),(102,.box (pvL (Zd (⟨0,([]:List Zb),([]:List Ze),0,0⟩:Ze)))),(106,.arr 5 (Zn v114))]) (O:=[]) kr (sound _ _) trivial (by decide) (Zga R48 IH48 k _ _ hz) (fun psl hpsl=>?_)
 obtain ⟨ps,rfl⟩:=ZQ hpsl
 exact ⟨rfl,[ps],kr,rfl⟩ }
 {
 obtain ⟨hc119,hF⟩:=Zl hF
 refine WA.rm (α:=(List (List PV))×(List (List PV))) (raw:=(((Zn v114) ++ ([(Zd y118.1)])),[(Zd y118.1)])) (can:=((Zn (v114 ++ ([y118.1]:List Ze))),(Zn ([y118.1]:List Ze)))) (fun m_=>([(0,.val false [.ptr 0 1 0 0]),(2,.val false [.ptr 102 1 0 0]),(3,.val false [.arr 106 (v115+1)])],[(0,.box (pvL (Zc y118.2))),(102,.box (pvL (Zd (⟨0,([]:List Zb),([]:List Ze),0,0⟩:Ze)))),(106,.arr 5 m_.1)],[Sim Tryz.prog GL0 70 [.val false [.ptr 0 1 0 0]] [.box (pvL (Zc y116.2))] (.val true (pvL (Zd y118.1))) [.box (pvL (Zc y118.2))],([0]:List Nat).Nodup,v115=(Zn v114).length,(Zn v114).length+m_.2.length≤1073741824,∀es,es∈m_.2→es.length=5])) (ZH zm zm) [0,2,3] [0,102,106] [(2,.call [0] (.val true (pvL (Zd y118.1))) [.box (pvL (Zc y118.2))] [])] kr (sound _ _) ⟨(Zga R48 IH48 k _ _ hy118),(by decide),zt,(by first | exact hc119 | (simp only [List.length_map,Zf];exact hc119)),(Zeb ([y118.1]:List Ze)),trivial⟩ ?_
 exact ⟨m0,Nat.lt_succ_self _,y118.2,(v114 ++ ([y118.1]:List Ze)),(v115+1),kr,kr,zt,by rw [hself0] at hF;exact hF⟩ } }
  {
 have hF:=Zj hF hb117
 refine WA.exit ?_
 refine WA.seq ?_
 refine WA.seq ?_
 refine WA.rm (α:=Int) (raw:=((v115:Nat):Int)) (can:=(v114.length:Int)) (fun m_=>([(2,.val false [.ptr 102 1 0 0]),(3,.val false [.arr 106 v115]),(16,one (.bool (m_ == 1)))],[(0,.box (pvL (Zc y116.2))),(102,.box (pvL (Zd (⟨0,([]:List Zb),([]:List Ze),0,0⟩:Ze)))),(106,.arr 5 (Zn v114))],[])) ((by first | (simp only [zl,Zf];done) | (simp only [zl,Zf];omega) | omega)) [2,3,16] [0,102,106] [] kr (sound _ _) trivial ?_
 refine WA.cond (b:=((v114.length:Int) == 1)) rfl (fun hb120=>?_) (fun hb120=>?_)
 {
 have hF:=Zk hF hb120
 refine WA.seq ?_
 obtain ⟨hc121,hF⟩:=Zl hF
 obtain ⟨y122,hy122,hF⟩:=bind_some hF
 refine WA.reg [2] [0,102] [(2,.cells (Zd y122))] (env':=[(2,.val false [.ptr 102 1 0 0])]) (os':=[(0,.box (pvL (Zc y116.2))),(102,.box (pvL (Zd y122)))]) (O:=[v115=(Zn v114).length,(0:Int)≤0,0<((v115:Nat):Int),v115=(Zn v114).length,(Zn v114)[Int.toNat 0]?=some (Zd y122)]) kr (sound _ _) ⟨zt,hc121.1,(by have h_:=hc121.2;(try simp only [zl,Zf] at h_ ⊢);omega),zt,(Zo (Z6 hy122)),trivial⟩ ?_
 refine WA.ret ?_
 obtain rfl:=Option.some.inj hF
 exact Zu (.val true (pvL (Zd y122))) [.box (pvL (Zc y116.2))] kr kr kr kr (by decide) rfl rfl }
 {
 have hF:=Zj hF hb120
 refine WA.skip ?_
 refine WA.seq ?_
 refine WA.freeze 106 3 (s:=5) (n:=v115) (els:=(Zn v114)) rfl rfl zt ?_
 refine WA.keep [2,3] [0,102] (env':=[(2,.val false [.ptr 102 1 0 0]),(3,one (.sl (Zn v114)))]) (os':=[(0,.box (pvL (Zc y116.2))),(102,.box (pvL (Zd (⟨0,([]:List Zb),([]:List Ze),0,0⟩:Ze))))]) kr kr ?_
 refine WA.reg [2] [0,102] [] (env':=[(2,.val false [.ptr 102 1 0 0])]) (os':=[(0,.box (pvL (Zc y116.2))),(102,.box (pvL (Zd (⟨3,([]:List Zb),v114,0,0⟩:Ze))))]) (O:=[]) kr (sound _ _) trivial ?_
 refine WA.ret ?_
 obtain rfl:=Option.some.inj hF
 exact Zu (.val true (pvL (Zd (⟨3,([]:List Zb),v114,0,0⟩:Ze)))) [.box (pvL (Zc y116.2))] kr kr kr kr (by decide) rfl rfl } } }
def F48:Nat→Zg→Option (Option (Ze×Zg))
  | 0,_=>none
  | k+1,v0=>ZhV (F48 k) k v0
theorem Zh9:∀(k:Nat),∀(v0:Zg) (r:Option (Ze×Zg)),F48 k v0=some r→SimP Tryz.prog GL0 badV 48 [.val false [.ptr 0 1 0 0]] [.box (pvL (Zc v0))] (r.map fun r=>(.val true (pvL (Zd r.1)),[.box (pvL (Zc r.2))]))
  | 0=>fun _ _ hF=>by cases hF
  | k+1=>fun v0 r hF=>ZkW (F48 k) (Zh9 k) k v0 r hF
end Go.Proofs.YthilboheomikjaaGreatDoor
end
section
namespace Go.Proofs.YthilboheomikjaaGreatDoor
open Go.AL Go.RowKit
set_option maxRecDepth 100000
theorem ZjH (w:World):(Instr.typeAssert .nilIface 20 70 true).run Tryz.prog w = .ok (.tuple #[.agg #[],.bool false]) w:=by kernel_rfl
theorem ZjG (w:World):(Instr.typeAssert badV 20 70 true).run Tryz.prog w = .ok (.tuple #[.agg #[],.bool true]) w:=by kernel_rfl
theorem ZjL (p q:Addr) (w:World) :
    CallsD Tryz.prog 47 #[.pointer (some p),.pointer (some q)] .returning w fun e u' w'=>e = .returned (.tuple #[])∧u' = .returning∧w'=w.alloc (.cells #[] 70):=by
  refine callsD_of_wpS Tryz.func47 rfl fun c₀ cs hu=>?_
  apply wpS_seq
  apply wpS_region
  simp [wpOpsS,go_sem,recoverD,hu,Tryz.ntmps47,Exit.thenS,ZjH,Oper.upon,Act.put]
  apply wpS_seq
  apply wpS_region
  simp [wpOpsS,go_sem,Exit.thenS,Oper.upon,Act.put]
  refine wpS_cond (t:=false) (by simp [Act.eval,Array.replicate]) ?_
  simp only [Bool.false_eq_true,if_false]
  refine wpS_of_wp (wp_skip ?_)
  cases c₀
  simp_all [bodyPostS,results,Tryz.results47,Exit.thenS]
theorem Zkm (p q:Addr) (w:World) (w1 w2:World) (h1:(Instr.storeAt 35 (.pointer (some p)) (.agg #[.int .i64 0,.slice none 0 0,.slice none 0 0,.int .i64 0,.int .i64 0])).run Tryz.prog (w.alloc (.cells #[] 70)) = .ok () w1)
    (h2:(Instr.storeAt 3 (.pointer (some q)) (.int .i64 3)).run Tryz.prog w1 = .ok () w2) :
    CallsD Tryz.prog 47 #[.pointer (some p),.pointer (some q)] (.panicking (ZcR badV)) w fun e u' w'=>e = .returned (.tuple #[])∧u' = .panicking [{ v:=badV,recovered:=true }]∧w'=w2:=by
  refine callsD_of_wpS Tryz.func47 rfl fun c₀ cs hu=>?_
  apply wpS_seq
  apply wpS_region
  have hb:badV = .iface 70 (.agg #[]):=rfl
  simp [wpOpsS,go_sem,recoverD,hu,Tryz.ntmps47,Exit.thenS,ZjG,Oper.upon,Act.put,ZcR]
  apply wpS_seq
  apply wpS_region
  simp [wpOpsS,go_sem,Exit.thenS,Oper.upon,Act.put]
  refine wpS_cond (t:=true) (by simp [Act.eval,Array.replicate]) ?_
  simp only [if_true]
  have hbld:∀W:World,(Instr.build 35 #[]).run Tryz.prog W = .ok (.agg #[.int .i64 0,.slice none 0 0,.slice none 0 0,.int .i64 0,.int .i64 0]) W:=fun W=>by kernel_rfl
  apply wpS_region
  simp [wpOpsS,execOp,Exit.thenS,Oper.upon,Act.put,hbld,Act.eval,h1,h2,Region.wanted,Array.replicate,show List.range 3=[0,1,2] from rfl]
  exact ⟨rfl,_,rfl,.tuple #[],by simp [results,Tryz.results47],rfl,rfl,rfl⟩
end Go.Proofs.YthilboheomikjaaGreatDoor
end
section
namespace Go.Proofs.YthilboheomikjaaGreatDoor
open Go.AL Go.RowKit
set_option maxRecDepth 100000
def zRe:Ze:=⟨0,[],[],0,0⟩
def ZhS (k:Nat) (s:List UInt8) (p:Ze) (r:Zg):Option (Ze×Int):=
  cond r.f_over (some (zRe,8)) ((F32 k p).bind fun n=>cond (decide (n > 200)) (some (zRe,8)) ((F50 k p).bind fun d=>cond (decide (d > 14)) (some (zRe,8)) (some (p,0))))
def ZhU (k:Nat) (s:List UInt8) (p:Ze) (r:Zg):Option (Ze×Int):=
  cond (decide (r.f_at<(s.length:Int))) (some (zRe,3)) ((F49 k s).bind fun b=>cond b (ZhS k s p r) (some (zRe,3)))
def ZhT (k:Nat) (s:List UInt8):Option (Ze×Int):=(F48 k ⟨s,0,false⟩).bind fun y=>match y with
  | none=>some (zRe,3)
  | some (p,r)=>ZhU k s p r
def F27 (k:Nat) (s:List UInt8):Option (Ze×Int):=cond (decide ((s.length:Int) > 400)) (some (zRe,8)) (ZhT k s)
def ptrs:List (Nat×AT):=[(2,.val false [.ptr 0 1 0 0]),(3,.val false [.ptr 1 1 0 0])]
def FR (res:Ze×Int):Exit→S→Prop
  | .ret,s=>Zi s.env [2,3]=ptrs∧Zi s.os [0,1]=[(0,.box (pvL (Zd res.1))),(1,.box (pvL [.int .i64 res.2]))]
  | .panic ch,s=>ch=ZcR badV∧res=(zRe,3)∧Zi s.env [2,3]=ptrs∧∃(p:Ze) (n:Int),Zi s.os [0,1]=[(0,.box (pvL (Zd p))),(1,.box (pvL [.int .i64 n]))]
  | _,_=>False
def ZcQ:Option Code→Option Code
  | some (.seq _ (.seq _ (.seq _ c)))=>some c
  | _=>none
def Zm5:Option Code→Code
  | some (.seq _ (.seq _ (.seq (.seq _ (.cond _ c _)) _)))=>c
  | _=>.skip
def Zm6:Option Code→Code
  | some (.seq _ (.seq _ (.seq _ c)))=>c
  | _=>.skip
def Zm9:Option Code→Code
  | some (.seq _ (.seq _ (.seq _ (.seq (.seq _ (.cond _ c _)) _))))=>c
  | _=>.skip
def ZmN:Option Code→Code
  | some (.seq _ (.seq _ (.seq _ (.seq (.seq _ c) _))))=>c
  | _=>.skip
def ZlF:Option Code→Code
  | some (.seq _ (.seq _ (.seq _ (.seq _ c))))=>c
  | _=>.skip
theorem Zmq (k:Nat) (s:List UInt8) (res:Ze×Int) (hF:ZhT k s=some res) (c:Code) (hc:ZcQ Tryz.f27.body=some c) :
    WA Tryz.prog GL0 45 c ⟨(0,one (.str s)) :: ptrs,[(0,.box (pvL (Zd zRe))),(1,.box (pvL [.int .i64 0]))]⟩ (FR res):=by
  cases hc
  refine WA.seq ?_
  refine WA.reg [0,2,3,4] [0,1,112] [(2,.obj 112)] (env':=(0,one (.str s)) :: ptrs ++ [(4,.val false [.ptr 112 1 0 0])]) (os':=[(0,.box (pvL (Zd zRe))),(1,.box (pvL [.int .i64 0])),(112,.box (pvL (Zc ⟨s,0,false⟩)))]) (O:=[]) (by kernel_rfl) (sound _ _) trivial ?_
  refine WA.seq ?_
  obtain ⟨y,hy,hF⟩:=bind_some hF
  cases y with
  | none=>
    obtain rfl:=Option.some.inj hF
    refine WA.regP 1 [112] [2,3] [] badV (f:=48) (args:=[.val false [.ptr 0 1 0 0]]) (os:=[.box (pvL (Zc ⟨s,0,false⟩))]) (env1:=ptrs) (os1:=[(0,.box (pvL (Zd zRe))),(1,.box (pvL [.int .i64 0])),(112,.box (pvL (Zc ⟨s,0,false⟩)))]) (O:=[]) (by kernel_rfl) (sound _ _) trivial (by decide) (Zh9 k _ _ hy) (fun psl hpsl=>?_)
    obtain ⟨ps,rfl⟩:=ZQ hpsl
    exact ⟨rfl,rfl,by kernel_rfl,zRe,0,by kernel_rfl⟩
  | some y=>
    obtain ⟨p,r⟩:=y
    have hF:ZhU k s p r=some res:=hF
    refine WA.reg [0,2,3,4] [0,1,112] [(1,.call [112] (.val true (pvL (Zd p))) [.box (pvL (Zc r))] [])] (env':=(0,one (.str s)) :: ptrs ++ [(4,.val false [.ptr 112 1 0 0])]) (os':=[(0,.box (pvL (Zd p))),(1,.box (pvL [.int .i64 0])),(112,.box (pvL (Zc r)))]) (O:=[Sim Tryz.prog GL0 48 [.val false [.ptr 0 1 0 0]] [.box (pvL (Zc ⟨s,0,false⟩))] (.val true (pvL (Zd p))) [.box (pvL (Zc r))],([112]:List Nat).Nodup]) (by kernel_rfl) (sound _ _) ⟨Zh9 k _ _ hy,by decide,trivial⟩ ?_
    refine WA.seq ?_
    refine WA.seq ?_
    have hbad:some (zRe,3)=some res→WA Tryz.prog GL0 45 (Zm5 (ZcQ Tryz.f27.body)) ⟨ptrs ++ [(4,.val false [.ptr 112 1 0 0])],[(0,.box (pvL (Zd p))),(1,.box (pvL [.int .i64 0])),(112,.box (pvL (Zc r)))]⟩ (FR res):=fun hF=>by
      obtain rfl:=Option.some.inj hF
      show WA Tryz.prog GL0 45 (.region 7 _ _) _ _
      refine WA.bad [2,3] (t:=70) (env1:=ptrs) (os1:=[(0,.box (pvL (Zd p))),(1,.box (pvL [.int .i64 0])),(112,.box (pvL (Zc r)))]) (O:=[]) (by kernel_rfl) (sound _ _) trivial ?_
      exact ⟨rfl,rfl,by kernel_rfl,p,0,by kernel_rfl⟩
    have hrest:ZhS k s p r=some res→WA Tryz.prog GL0 45 (Zm6 (ZcQ Tryz.f27.body)) ⟨ptrs ++ [(4,.val false [.ptr 112 1 0 0])],[(0,.box (pvL (Zd p))),(1,.box (pvL [.int .i64 0])),(112,.box (pvL (Zc r)))]⟩ (FR res):=fun hF=>by
      have hlim:some (zRe,8)=some res→WA Tryz.prog GL0 45 (Zm9 (ZcQ Tryz.f27.body)) ⟨ptrs,[(0,.box (pvL (Zd p))),(1,.box (pvL [.int .i64 0]))]⟩ (FR res):=fun hF=>by
        obtain rfl:=Option.some.inj hF
        show WA Tryz.prog GL0 45 (.seq (.region 9 _ _) .ret) _ _
        refine WA.seq ?_
        refine WA.reg [2,3] [0,1] [] (env':=ptrs) (os':=[(0,.box (pvL (Zd zRe))),(1,.box (pvL [.int .i64 8]))]) (O:=[]) (by kernel_rfl) (sound _ _) trivial ?_
        refine WA.ret ?_
        exact ⟨by kernel_rfl,by kernel_rfl⟩
      have hend:some (p,0)=some res→WA Tryz.prog GL0 45 (ZlF (ZcQ Tryz.f27.body)) ⟨ptrs,[(0,.box (pvL (Zd p))),(1,.box (pvL [.int .i64 0]))]⟩ (FR res):=fun hF=>by
        obtain rfl:=Option.some.inj hF
        show WA Tryz.prog GL0 45 (.seq (.region 10 _ _) .ret) _ _
        refine WA.seq ?_
        refine WA.reg [2,3] [0,1] [] (env':=ptrs) (os':=[(0,.box (pvL (Zd p))),(1,.box (pvL [.int .i64 0]))]) (O:=[]) (by kernel_rfl) (sound _ _) trivial ?_
        refine WA.ret ?_
        exact ⟨by kernel_rfl,by kernel_rfl⟩
      have hB:∀b:Bool,(b=true→some (zRe,8)=some res)→(b=false→some (p,0)=some res)→WA Tryz.prog GL0 45 (ZmN (ZcQ Tryz.f27.body)) ⟨ptrs ++ [(42,one (.bool b))],[(0,.box (pvL (Zd p))),(1,.box (pvL [.int .i64 0]))]⟩ (Then Tryz.prog GL0 45 (ZlF (ZcQ Tryz.f27.body)) (FR res)):=fun b h1 h2=>by
        show WA Tryz.prog GL0 45 (.cond (.tmp 42) _ _) _ _
        refine WA.cond (b:=b) rfl (fun hb=>?_) (fun hb=>?_)
        · refine WA.keep [2,3] [0,1] (env':=ptrs) (os':=[(0,.box (pvL (Zd p))),(1,.box (pvL [.int .i64 0]))]) (by kernel_rfl) (by kernel_rfl) ?_
          exact (hlim (h1 hb)).mono fun e s h=>by cases e <;> first | exact h | exact h.elim
        · refine WA.skip ?_
          refine WA.keep [2,3] [0,1] (env':=ptrs) (os':=[(0,.box (pvL (Zd p))),(1,.box (pvL [.int .i64 0]))]) (by kernel_rfl) (by kernel_rfl) ?_
          exact hend (h2 hb)
      show WA Tryz.prog GL0 45 (.seq (.seq (.region 8 _ _) _) _) _ _
      refine WA.seq (WA.seq ?_)
      unfold ZhS at hF
      rcases Bool.eq_false_or_eq_true r.f_over with hb | hb
      · have hF:=Zk hF hb
        refine WA.reg [2,3,42] [0,1] [(4,.bool true)] (env':=ptrs ++ [(42,one (.bool true))]) (os':=[(0,.box (pvL (Zd p))),(1,.box (pvL [.int .i64 0]))]) (O:=[r.f_over=true]) (by kernel_rfl) (sound _ _) ⟨hb,trivial⟩ ?_
        exact hB true (fun _=>hF) (fun h=>by cases h)
      · have hF:=Zj hF hb
        obtain ⟨n,hn,hF⟩:=bind_some hF
        rcases Bool.eq_false_or_eq_true (decide (n > 200)) with hb2 | hb2
        · have hF:=Zk hF hb2
          refine WA.reg [2,3,42] [0,1] [(4,.bool false),(6,.callR [] (one (.int .i64 n))),(9,.bool true)] (env':=ptrs ++ [(42,one (.bool true))]) (os':=[(0,.box (pvL (Zd p))),(1,.box (pvL [.int .i64 0]))]) (O:=[r.f_over=false,Sim Tryz.prog GL0 32 [.val true (pvL (Zd p))] [] (one (.int .i64 n)) [],([]:List Nat).Nodup,decide (n > 200)=true]) (by kernel_rfl) (sound _ _) ⟨hb,Zf4 k _ _ hn,by decide,hb2,trivial⟩ ?_
          exact hB true (fun _=>hF) (fun h=>by cases h)
        · have hF:=Zj hF hb2
          obtain ⟨d,hd,hF⟩:=bind_some hF
          refine WA.reg [2,3,42] [0,1] [(4,.bool false),(6,.callR [] (one (.int .i64 n))),(9,.bool false),(11,.callR [] (one (.int .i64 d)))] (env':=ptrs ++ [(42,one (.bool (decide (d > 14))))]) (os':=[(0,.box (pvL (Zd p))),(1,.box (pvL [.int .i64 0]))]) (O:=[r.f_over=false,Sim Tryz.prog GL0 32 [.val true (pvL (Zd p))] [] (one (.int .i64 n)) [],([]:List Nat).Nodup,decide (n > 200)=false,Sim Tryz.prog GL0 50 [.val true (pvL (Zd p))] [] (one (.int .i64 d)) [],([]:List Nat).Nodup]) (by kernel_rfl) (sound _ _) ⟨hb,Zf4 k _ _ hn,by decide,hb2,Zka k _ _ hd,by decide,trivial⟩ ?_
          exact hB (decide (d > 14)) (fun h=>Zk hF h) (fun h=>Zj hF h)
    unfold ZhU at hF
    rcases Bool.eq_false_or_eq_true (decide (r.f_at<(s.length:Int))) with hb | hb
    · have hF:=Zk hF hb
      refine WA.reg [2,3,4,26] [0,1,112] [(7,.bool true)] (env':=ptrs ++ [(4,.val false [.ptr 112 1 0 0]),(26,one (.bool true))]) (os':=[(0,.box (pvL (Zd p))),(1,.box (pvL [.int .i64 0])),(112,.box (pvL (Zc r)))]) (O:=[decide (r.f_at<(s.length:Int))=true]) (by kernel_rfl) (sound _ _) ⟨hb,trivial⟩ ?_
      refine WA.cond (b:=true) rfl (fun _=>?_) (fun h=>by cases h)
      refine WA.keep [2,3,4] [0,1,112] (env':=ptrs ++ [(4,.val false [.ptr 112 1 0 0])]) (os':=[(0,.box (pvL (Zd p))),(1,.box (pvL [.int .i64 0])),(112,.box (pvL (Zc r)))]) (by kernel_rfl) (by kernel_rfl) ?_
      exact (hbad hF).mono fun e s h=>by cases e <;> first | exact h | exact h.elim
    · have hF:=Zj hF hb
      obtain ⟨y,hy,hF⟩:=bind_some hF
      refine WA.reg [2,3,4,26] [0,1,112] [(7,.bool false),(9,.callR [] (one (.bool y)))] (env':=ptrs ++ [(4,.val false [.ptr 112 1 0 0]),(26,one (.bool (!y)))]) (os':=[(0,.box (pvL (Zd p))),(1,.box (pvL [.int .i64 0])),(112,.box (pvL (Zc r)))]) (O:=[decide (r.f_at<(s.length:Int))=false,Sim Tryz.prog GL0 49 [one (.str s)] [] (one (.bool y)) [],([]:List Nat).Nodup]) (by kernel_rfl) (sound _ _) ⟨hb,Zf7 k _ _ hy,by decide,trivial⟩ ?_
      refine WA.cond (b:=!y) rfl (fun hy'=>?_) (fun hy'=>?_)
      · have hF:=Zj hF (by simpa using hy')
        refine WA.keep [2,3,4] [0,1,112] (env':=ptrs ++ [(4,.val false [.ptr 112 1 0 0])]) (os':=[(0,.box (pvL (Zd p))),(1,.box (pvL [.int .i64 0])),(112,.box (pvL (Zc r)))]) (by kernel_rfl) (by kernel_rfl) ?_
        exact (hbad hF).mono fun e s h=>by cases e <;> first | exact h | exact h.elim
      · have hF:=Zk hF (by simpa using hy')
        refine WA.skip ?_
        refine WA.keep [2,3,4] [0,1,112] (env':=ptrs ++ [(4,.val false [.ptr 112 1 0 0])]) (os':=[(0,.box (pvL (Zd p))),(1,.box (pvL [.int .i64 0])),(112,.box (pvL (Zc r)))]) (by kernel_rfl) (by kernel_rfl) ?_
        exact hrest hF
end Go.Proofs.YthilboheomikjaaGreatDoor
end
section
namespace Go.Proofs.YthilboheomikjaaGreatDoor
open Go.AL
set_option maxRecDepth 100000
abbrev os27 (p:Ze) (n:Int):Objs:=[(0,.box (pvL (Zd p))),(1,.box (pvL [.int .i64 n]))]
abbrev ZaI (p:Ze) (n:Int):Objs:=[(102,.box (pvL (Zd p))),(103,.box (pvL [.int .i64 n]))]
def ZbO:List (Nat×AT):=[(2,.val false [.ptr 102 1 0 0]),(3,.val false [.ptr 103 1 0 0])]
def G01 (G:Nat→Option Nat):Nat→Option Nat:=fun k=>([102,103][k]?).bind G
theorem ZgZ {w0 w:World} {I0 I:Nat→Prop} {G0 G:Nat→Option Nat} {os0:Objs} {D:List Deferred} {a:Act} {p:Ze} {n:Int} (h1:Ext w0 w I0 I (Mine G0 os0) (Mine G (os27 p n))) (hh:∀k,I0 k→w.heap[k]?=w0.heap[k]?)
    (h3:Sr GL0 w I G (os27 p n)) (h4:Fr D w I G (Go.AL.shape (os27 p n)) 45 a ptrs) :
    ∃v,(results Tryz.f27 a.tmps).run Tryz.prog w = .ok v w∧∃v' I' G',Ending.returned v = .returned v'∧Ext w0 w I0 I' (Mine G0 os0) (Mine G' (Zy []))∧Sr GL0 w I' G' (Zy [])∧
      ATr w I' G' (Go.AL.shape (Zy [])) (.tup [(true,pvL (Zd p)),(false,[.pv (.int .i64 n)])]) v'∧ZF (· < 0) w0 w I0 I' G0 G' (Go.AL.shape os0) (Go.AL.shape (Zy [])):=by
  obtain ⟨v,hv,hr⟩:=ZiM (fn:=Tryz.f27) (st:=⟨ptrs,os27 p n⟩) (x:=.tup [(true,pvL (Zd p)),(false,[.pv (.int .i64 n)])]) h3 h4 (by kernel_rfl)
  obtain ⟨s1,k1⟩:=h3.sub (os':=Zy []) fun k o h=>by rw [ZD] at h;simp at h
  refine ⟨v,hv,v,I,G,rfl,⟨h1.size,h1.os,h1.tape,h1.output,h1.keep,h1.imm,h1.inew,fun k ⟨id,o,q1,q2⟩=>by rw [ZD] at q1;simp at q1⟩,s1,?_,⟨hh,h1.imm,fun id s m h=>absurd h (Nat.not_lt_zero _)⟩⟩
  exact hr.mono (R:=Zgd) (Zb1 (fun _ _=>rfl) fun _ h=>h) ⟨⟨trivial,trivial,trivial,trivial,trivial,trivial⟩,⟨trivial,trivial⟩,trivial⟩
theorem to01 {D:List Deferred} {w:World} {I:Nat→Prop} {G:Nat→Option Nat} {a:Act} {p:Ze} {n:Int} (h3:Sr GL0 w I G (ZaI p n)) (h4:Fr D w I G (Go.AL.shape (ZaI p n)) 45 a ZbO) :
    Sr GL0 w I (G01 G) (os27 p n)∧Fr D w I (G01 G) (Go.AL.shape (os27 p n)) 45 a ptrs∧∀k,Mine (G01 G) (os27 p n) k↔Mine G (ZaI p n) k:=by
  have hr:=h3.ren (st:=⟨[],ZaI p n⟩) (ids:=[102,103]) (os:=[.box (pvL (Zd p)),.box (pvL [.int .i64 n])]) ⟨_,rfl,rfl⟩ (by decide) rfl
  refine ⟨hr,⟨h4.size,h4.defers,fun t x hx=>?_⟩,fun k=>⟨fun ⟨id,o,q1,q2⟩=>?_,fun ⟨id,o,q1,q2⟩=>?_⟩⟩
  · simp only [ptrs,Zw] at hx
    split at hx
    · rename_i e;subst e;cases hx
      obtain ⟨q1,q2⟩:=h4.slot 2 _ rfl
      obtain ⟨r1,r2⟩:=ZA q2
      exact ⟨q1,_,rfl,r1,fun s m h=>r2 s m h⟩
    · split at hx
      · rename_i e;subst e;cases hx
        obtain ⟨q1,q2⟩:=h4.slot 3 _ rfl
        obtain ⟨r1,r2⟩:=ZA q2
        exact ⟨q1,_,rfl,r1,fun s m h=>r2 s m h⟩
      · cases hx
  · simp only [os27,Zw] at q1
    split at q1
    · rename_i e;subst e;exact ⟨102,_,rfl,q2⟩
    · split at q1
      · rename_i e;subst e;exact ⟨103,_,rfl,q2⟩
      · cases q1
  · simp only [ZaI,Zw] at q1
    split at q1
    · rename_i e;subst e;exact ⟨0,_,rfl,q2⟩
    · split at q1
      · rename_i e;subst e;exact ⟨1,_,rfl,q2⟩
      · cases q1
theorem Zhs {l:List (Nat×AT)} (hl:l=ptrs∨l=ZbO) {s:List UInt8} {t:Nat} {x:AT} (h:Go.AL.look l t=some x):Go.AL.look ((0,one (.str s)) :: l) t=some x:=by
  rw [Zw]
  split
  · rename_i e;subst e;rcases hl with rfl | rfl <;> cases h
  · exact h
theorem Znc {D:List Deferred} {w:World} {I:Nat→Prop} {G:Nat→Option Nat} {a:Act} {p:Ze} {n:Int} {s:List UInt8} (h3:Sr GL0 w I G (ZaI p n)) (h4:Fr D w I G (Go.AL.shape (ZaI p n)) 45 a ((0,one (.str s)) :: ZbO)) :
    Sr GL0 w I (G01 G) (os27 p n)∧Fr D w I (G01 G) (Go.AL.shape (os27 p n)) 45 a ((0,one (.str s)) :: ptrs)∧∀k,Mine (G01 G) (os27 p n) k↔Mine G (ZaI p n) k:=by
  obtain ⟨q1,q2,q3⟩:=to01 h3 ⟨h4.size,h4.defers,fun t x hx=>h4.slot t x (Zhs (.inr rfl) hx)⟩
  refine ⟨q1,⟨q2.size,q2.defers,fun t x hx=>?_⟩,q3⟩
  rw [Zw] at hx
  split at hx
  · rename_i e;subst e;cases hx
    obtain ⟨r1,r2⟩:=h4.slot 0 _ rfl
    exact ⟨r1,r2.mono (Zb1 (fun _ _=>rfl) fun _ h=>h) ⟨trivial,trivial⟩⟩
  · exact q2.slot t x hx
theorem ZlJ {D:List Deferred} {w:World} {I:Nat→Prop} {G:Nat→Option Nat} {a:Act} {p:Ze} {n:Int} (h3:Sr GL0 w I G (os27 p n)) (h4:Fr D w I G (Go.AL.shape (os27 p n)) 45 a ptrs) :
    ∃b c,G 0=some b∧G 1=some c∧a.tmps.getD 2 undef = .pointer (some ⟨b,0,none⟩)∧a.tmps.getD 3 undef = .pointer (some ⟨c,0,none⟩):=by
  obtain ⟨_,q2⟩:=h4.slot 2 _ rfl
  obtain ⟨_,q3⟩:=h4.slot 3 _ rfl
  have r2:=((ZA q2).2 _ _ rfl).2 rfl
  have r3:=((ZA q3).2 _ _ rfl).2 rfl
  cases hb:G 0 with
  | none=>have:=h3.none_ 0 _ rfl hb;simp [Obj.els] at this
  | some b=>
    cases hc:G 1 with
    | none=>have:=h3.none_ 1 _ rfl hc;simp [Obj.els] at this
    | some c=>exact ⟨b,c,rfl,rfl,r2 b hb,r3 c hc⟩
def ZmY:Option Code→Code
  | some (.seq a _)=>a
  | _=>.skip
def ZmR:Option Code→Code
  | some (.seq _ (.seq b _))=>b
  | _=>.skip
def Zl7:Option Code→Code
  | some (.seq _ (.seq _ (.seq c _)))=>c
  | _=>.skip
def FA (s:List UInt8):Exit→S→Prop
  | .normal,st=>st=⟨(0,one (.str s)) :: ZbO,ZaI zRe 0⟩
  | _,_=>False
def FB (k:Nat) (s:List UInt8) (res:Ze×Int):Exit→S→Prop
  | .normal,st=>st=⟨(0,one (.str s)) :: ZbO,ZaI zRe 0⟩∧ZhT k s=some res
  | .ret,st=>st=⟨ZbO,ZaI res.1 res.2⟩
  | _,_=>False
theorem Zmp (s:List UInt8):WA Tryz.prog GL0 45 (ZmY Tryz.f27.body) ⟨[(0,one (.str s))],[]⟩ (FA s):=by
  show WA Tryz.prog GL0 45 (.region 0 _ _) _ _
  exact WA.reg [0,2,3] [102,103] [(0,.obj 102),(1,.obj 103)] (env':=(0,one (.str s)) :: ZbO) (os':=ZaI zRe 0) (O:=[]) (by kernel_rfl) (sound _ _) trivial rfl
theorem Zmh (k:Nat) (s:List UInt8) (res:Ze×Int) (hF:F27 k s=some res) :
    WA Tryz.prog GL0 45 (ZmR Tryz.f27.body) ⟨(0,one (.str s)) :: ZbO,ZaI zRe 0⟩ (FB k s res):=by
  show WA Tryz.prog GL0 45 (.seq _ (.cond (.tmp 7) _ _)) _ _
  refine WA.seq ?_
  refine WA.reg [0,2,3,7] [102,103] [] (env':=(0,one (.str s)) :: ZbO ++ [(7,one (.bool (decide ((s.length:Int) > 400))))]) (os':=ZaI zRe 0) (O:=[]) (by kernel_rfl) (sound _ _) trivial ?_
  refine WA.cond (b:=decide ((s.length:Int) > 400)) rfl (fun hb=>?_) (fun hb=>?_)
  · have hF:=Zk hF hb
    obtain rfl:=Option.some.inj hF
    refine WA.seq ?_
    refine WA.reg [2,3] [102,103] [] (env':=ZbO) (os':=ZaI zRe 8) (O:=[]) (by kernel_rfl) (sound _ _) trivial ?_
    refine WA.ret ?_
    rfl
  · have hF:=Zj hF hb
    refine WA.keep [0,2,3] [102,103] (env':=(0,one (.str s)) :: ZbO) (os':=ZaI zRe 0) (by kernel_rfl) (by kernel_rfl) ?_
    refine WA.skip ?_
    exact ⟨rfl,hF⟩
def defd (x y:Value):Deferred:=⟨.fn (.func 47) #[x,y],#[]⟩
theorem Zla {a:Act} {w:World} {Q:Exit→Act→World→Prop} (ha:a.defers=[]) (h:Q .normal { tmps:=(a.tmps.setIfInBounds 9 (.func (.func 47) #[] #[a.tmps.getD 2 undef,a.tmps.getD 3 undef])),defers:=[defd (a.tmps.getD 2 undef) (a.tmps.getD 3 undef)] } w) (hs:a.tmps.size=45) :
    (Zl7 Tryz.f27.body).wp Tryz.prog Q a w:=by
  show (Code.region 3 _ _).wp _ _ _ _
  refine wp_region_list ?_
  obtain ⟨tm,df⟩:=a
  simp only at ha hs h;subst ha
  simp only [wpList,Region.wanted]
  refine .inl ?_
  simp only [Oper.wp,execOp]
  have e1:Sem.run Tryz.prog (do
        let x ←Instr.makeFunc (Fn.func 47) (Array.map (Act.eval { tmps:=tm,defers:=[] }) #[]) (Array.map (Act.eval { tmps:=tm,defers:=[] }) #[Operand.tmp 2,Operand.tmp 3])
        pure (Next.value x)) w = .ok (.value (.func (.func 47) #[] #[tm.getD 2 undef,tm.getD 3 undef])) w:=by simp [Instr.makeFunc,Act.eval]
  rw [e1,Oper.upon_value,if_pos trivial]
  refine .inl ?_
  have h9:(tm.setIfInBounds 9 (Value.func (Fn.func 47) #[] #[tm.getD 2 undef,tm.getD 3 undef])).getD 9 undef=Value.func (Fn.func 47) #[] #[tm.getD 2 undef,tm.getD 3 undef]:=by
    rw [Array.getD_eq_getD_getElem?,Array.getElem?_setIfInBounds];simp [hs]
  have e2:Sem.run Tryz.prog (do
        let x ←resolve (Act.eval { tmps:=tm.setIfInBounds 9 (Value.func (Fn.func 47) #[] #[tm.getD 2 undef,tm.getD 3 undef]),defers:=[] }) { callee:=Callee.value (Operand.tmp 9),args:=#[],argTypes:=#[] } 0
        pure (Next.defer x)) w = .ok (.defer (defd (tm.getD 2 undef) (tm.getD 3 undef))) w:=by
    simp only [resolve,Act.eval,h9,Deferred.ofValue]
    simp [defd]
  simp only [Act.put]
  rw [e2,Oper.upon_defer]
  exact h
theorem Zes (k:Nat) (s:List UInt8) (res:Ze×Int) (hF:F27 k s=some res) :
    Sim Tryz.prog GL0 27 [one (.str s)] [] (.tup [(true,pvL (Zd res.1)),(false,[.pv (.int .i64 res.2)])]) []:=by
  intro w I G vs hs ha
  obtain ⟨v,_,rfl,hv,rfl⟩:=ha
  refine calls_of_wp_defers Tryz.func27 rfl ?_
  refine wp_seq (wp_mono (Zmp s [] w I G (Zy []) w I G _ (.refl _ _ _) (.refl _ _ _ _ _) hs ?_) ?_)
  · refine ⟨by simp [Tryz.ntmps27],rfl,fun t x hx=>?_⟩
    simp only [Zw] at hx
    split at hx
    · rename_i e;subst e;cases hx
      refine ⟨by omega,?_⟩
      rw [Array.getD_eq_getD_getElem?,Array.getElem?_append_left (by simp)]
      exact hv
    · cases hx
  rintro e a1 w1 ⟨I1,G1,s1,e1,k1,r1,f1,q1⟩
  cases e with
  | normal=>
    cases q1
    refine wp_seq (wp_mono (Zmh k s res hF [] w I G (Zy []) w1 I1 G1 a1 e1 k1 r1 f1) ?_)
    rintro e a2 w2 ⟨I2,G2,s2,e2,k2,r2,f2,q2⟩
    cases e with
    | normal=>
      obtain ⟨rfl,hF2⟩:=q2
      obtain ⟨r3,f3,m3⟩:=Znc r2 f2
      obtain ⟨b,c,gb,gc,vb,vc⟩:=ZlJ r3 ⟨f3.size,f3.defers,fun t x hx=>f3.slot t x (Zhs (.inl rfl) hx)⟩
      refine wp_seq (Zla f2.defers ?_ f2.size)
      rw [vb,vc]
      refine wp_mono (Zmq k s res hF2 _ rfl [defd (.pointer (some ⟨b,0,none⟩)) (.pointer (some ⟨c,0,none⟩))] w2 I2 (G01 G2) (os27 zRe 0) w2 I2 (G01 G2) _ (.refl _ _ _) (.refl _ _ _ _ _) r3 ⟨by simp [f3.size],rfl,fun t x hx=>?_⟩) ?_
      · obtain ⟨x1,x2⟩:=f3.slot t x hx
        have ht:t≠9:=fun e=>by subst e;cases hx
        refine ⟨x1,?_⟩
        rw [Array.getD_eq_getD_getElem?] at x2 ⊢
        rw [Array.getElem?_setIfInBounds,if_neg (fun e=>ht e.symm)];exact x2
      have gl:∀{w4 I4 G4} {p:Ze} {n:Int},Ext w2 w4 I2 I4 (Mine (G01 G2) (os27 zRe 0)) (Mine G4 (os27 p n))→
          Ext w w4 I I4 (Mine G (Zy [])) (Mine G4 (os27 p n)):=fun e4=>
        ⟨Nat.le_trans e2.size e4.size,e4.os.trans e2.os,e4.tape.trans e2.tape,e4.output.trans e2.output,fun k h h'=>by
            rw [e4.keep k (Nat.lt_of_lt_of_le h e2.size) (fun h2=>((e2.mnew k ((m3 k).1 h2)).elim h' (fun h3=>by omega))),e2.keep k h h'],
          fun k h=>e4.imm k (e2.imm k h),fun k h=>by
            rcases e4.inew k h with h | h | h
            · exact e2.inew k h
            · exact (e2.mnew k ((m3 k).1 h)).elim (fun h=>.inr (.inl h)) (fun h=>.inr (.inr h))
            · exact .inr (.inr (Nat.le_trans e2.size h)),
          fun k h=>(e4.mnew k h).elim (fun h=>(e2.mnew k ((m3 k).1 h)).elim .inl .inr) (fun h=>.inr (Nat.le_trans e2.size h))⟩
      rintro e a4 w4 ⟨I4,G4,⟨env4,os4⟩,e4,k4,r4,f4,q4⟩
      have sub:∀{p:Ze} {n:Int},Zi env4 [2,3]=ptrs→Zi os4 [0,1]=os27 p n→Sr GL0 w4 I4 G4 (os27 p n)∧Fr [defd (.pointer (some ⟨b,0,none⟩)) (.pointer (some ⟨c,0,none⟩))] w4 I4 G4 (Go.AL.shape (os27 p n)) 45 a4 ptrs∧
          Ext w2 w4 I2 I4 (Mine (G01 G2) (os27 zRe 0)) (Mine G4 (os27 p n))∧G4 0=some b∧G4 1=some c:=fun {p n} he ho=>by
        have hl:∀k o,Go.AL.look (os27 p n) k=some o→Go.AL.look os4 k=some o:=fun k o h=>by rw [←ho] at h;exact ZP h
        obtain ⟨r5,k5⟩:=r4.sub (os':=os27 p n) hl
        refine ⟨r5,⟨f4.size,f4.defers,fun t x hx=>?_⟩,⟨e4.size,e4.os,e4.tape,e4.output,e4.keep,e4.imm,e4.inew,fun k ⟨id,o,q1,q2⟩=>e4.mnew k ⟨id,o,hl id o q1,q2⟩⟩,?_,?_⟩
        · rw [←he] at hx
          obtain ⟨x1,x2⟩:=f4.slot t x (ZP hx)
          exact ⟨x1,x2.mono k5 (AT.refs_any x)⟩
        · obtain ⟨m0,j1,j2,j3⟩:=(k4.trans (k5.weaken fun _ _=>trivial)).objs 0 _ _ (by omega) rfl
          cases j1
          rw [(j3 rfl).1];exact gb
        · obtain ⟨m0,j1,j2,j3⟩:=(k4.trans (k5.weaken fun _ _=>trivial)).objs 1 _ _ (by omega) rfl
          cases j1
          rw [(j3 rfl).1];exact gc
      have inv:∀w,(Go.invoke (defd (.pointer (some ⟨b,0,none⟩)) (.pointer (some ⟨c,0,none⟩))).target #[]).run Tryz.prog w = .ok (.enter 47 #[.pointer (some ⟨b,0,none⟩),.pointer (some ⟨c,0,none⟩)]) w:=fun w=>by kernel_rfl
      have hh:∀k,I k→w4.heap[k]?=w.heap[k]?:=fun k hk=>by rw [k4.heap k (k2.imm k hk),k2.heap k hk]
      cases e with
      | ret=>
        obtain ⟨he,ho⟩:=q4
        obtain ⟨r5,f5,e5,g0,g1⟩:=sub he ho
        show Leaves _ _ _ _ a4.defers _ _
        rw [f5.defers]
        refine ⟨by simp,_,_,47,_,rfl,inv w4,fun c0 cs hm=>?_⟩
        obtain ⟨e',u',w',fr,⟨rfl,rfl,rfl⟩,hc⟩:=ZjL ⟨b,0,none⟩ ⟨c,0,none⟩ w4 c0 cs hm
        refine ⟨_,_,_,_,?_,hc⟩
        obtain ⟨p1,p2,p3⟩:=r5.imm (.cells #[] 70)
        exact ZgZ (gl (e5.trans p3)) (fun k hk=>by rw [p2.heap k (e4.imm k (e2.imm k hk)),hh k hk]) p1 ⟨f5.size,f5.defers,fun t x hx=>⟨(f5.slot t x hx).1,(f5.slot t x hx).2.mono p2 (AT.refs_any x)⟩⟩
      | panic ch=>
        obtain ⟨rfl,rfl,he,p,n,ho⟩:=q4
        obtain ⟨r5,f5,e5,g0,g1⟩:=sub he ho
        show Leaves _ _ _ _ a4.defers _ _
        rw [f5.defers]
        refine ⟨by simp,_,_,47,_,rfl,inv w4,fun c0 cs hm=>?_⟩
        obtain ⟨p1,p2,p3⟩:=r5.imm (.cells #[] 70)
        have f6:Fr _ _ _ G4 (Go.AL.shape (os27 p n)) 45 a4 ptrs:=⟨f5.size,f5.defers,fun t x hx=>⟨(f5.slot t x hx).1,(f5.slot t x hx).2.mono p2 (AT.refs_any x)⟩⟩
        obtain ⟨b',c',gb',gc',vb',vc'⟩:=ZlJ p1 f6
        rw [g0] at gb';cases gb'
        rw [g1] at gc';cases gc'
        have hx0:=(f6.slot 2 _ rfl).2
        have hx1:=(f6.slot 3 _ rfl).2
        rw [vb'] at hx0;rw [vc'] at hx1
        obtain ⟨_,w6,G6,st6,x6,s6,mv6⟩:=ZfV (P:=Tryz.prog) (st:=⟨[],os27 p n⟩) (t:=35) (x:=.val false [.ptr 0 1 0 0]) (y:=.val true (pvL (Zd zRe))) (h:=none) (z:=.tup []) (os':=os27 zRe n) (O:=[]) (by kernel_rfl) trivial p1 hx0
          (v:=.agg #[.int .i64 0,.slice none 0 0,.slice none 0 0,.int .i64 0,.int .i64 0]) ⟨_,rfl,_,_,rfl,PVr.int _ _,_,_,rfl,PVr.sl0 _ _,_,_,rfl,PVr.sl0 _ _,_,_,rfl,PVr.int _ _,_,_,rfl,PVr.int _ _,rfl⟩
        have hx1':=hx1.mono mv6.keeps ⟨show (1:Nat)<100 by omega,trivial⟩
        obtain ⟨_,w7,G7,st7,x7,s7,mv7⟩:=ZfV (P:=Tryz.prog) (st:=⟨[],os27 zRe n⟩) (t:=3) (x:=.val false [.ptr 1 1 0 0]) (y:=one (.int .i64 3)) (h:=none) (z:=.tup []) (os':=os27 zRe 3) (O:=[]) (by kernel_rfl) trivial s6 hx1'
          (v:=.int .i64 3) ⟨_,rfl,PVr.int _ _⟩
        obtain ⟨e',u',w',fr,⟨rfl,rfl,rfl⟩,hc⟩:=Zkm ⟨b,0,none⟩ ⟨c,0,none⟩ w4 w6 w7 st6 st7 c0 cs hm
        refine ⟨_,_,_,_,?_,hc⟩
        have k7:=mv6.keeps.trans mv7.keeps
        refine ZgZ (p:=zRe) (n:=3) (gl (e5.trans (p3.trans (x6.trans x7)))) (fun k hk=>?_) s7 ⟨f6.size,f6.defers,fun t x hx=>⟨(f6.slot t x hx).1,?_⟩⟩
        · have h4:=e4.imm k (e2.imm k hk)
          rw [k7.heap k (p2.imm k h4),p2.heap k h4,hh k hk]
        · refine (f6.slot t x hx).2.mono k7 ?_
          simp only [ptrs,Zw] at hx
          split at hx
          · cases hx;exact ⟨show (0:Nat)<100 by omega,trivial⟩
          · split at hx
            · cases hx;exact ⟨show (1:Nat)<100 by omega,trivial⟩
            · cases hx
      | _=>exact q4.elim
    | ret=>
      cases q2
      obtain ⟨r3,f3,m3⟩:=to01 r2 f2
      show Leaves _ _ _ _ a2.defers _ _
      rw [f2.defers]
      refine ZgZ ⟨e2.size,e2.os,e2.tape,e2.output,e2.keep,e2.imm,e2.inew,fun k h=>e2.mnew k ((m3 k).1 h)⟩ k2.heap r3 f3
    | _=>exact q2.elim
  | _=>exact q1.elim
end Go.Proofs.YthilboheomikjaaGreatDoor
end
section
namespace Go.Proofs.YthilboheomikjaaGreatDoor
open Go.AL
set_option maxRecDepth 100000
def ZaU (v122:Bool):Option Bool:=
  some v122
def F26 (k:Nat):Option Bool:=
  (F27 k ([97,123,50,125]:List UInt8)).bind fun y101=>(F27 k ([97,42,42]:List UInt8)).bind fun y102=>(F27 k ([97,123,50,49,125]:List UInt8)).bind fun y103=>(cond (y101.2 == 0) (cond (y101.1.f_Kind == 4) (cond (y101.1.f_Min == 2) (cond (y101.1.f_Max == 2) (cond (y102.2 == 3) (cond (y103.2 == 8) ((F31 k y101.1 ([97,97]:List UInt8)).bind fun y110=>cond y110 ((F31 k y101.1 ([97]:List UInt8)).bind fun y112=>cond (!y112) ((F34 k).bind fun y114=>(F31 k y114 ([120,195,169]:List UInt8)).bind fun y115=>cond y115 ((F33 k ([97,46,98]:List UInt8)).bind fun y117=>(F31 k y117 ([97,46,98]:List UInt8)).bind fun y118=>cond y118 ((F33 k ([97,46,98]:List UInt8)).bind fun y120=>(F31 k y120 ([97,120,98]:List UInt8)).bind fun y121=>(ZaU (!y121))) ((ZaU false))) ((ZaU false))) ((ZaU false))) ((ZaU false))) ((ZaU false))) ((ZaU false))) ((ZaU false))) ((ZaU false))) ((ZaU false))) ((ZaU false)))
theorem Zbp (k:Nat) (r:Bool) (hF:F26 k=some r):Sim Tryz.prog GL0 26 [] [] (one (.bool r)) []:=by
 refine ZC [] Tryz.func26 rfl kr kr ?_
 show WA _ _ 66 _ _ _
 refine WA.seq ?_
 refine WA.reg [] [] [] (env':=[]) (os':=[]) (O:=[]) kr (sound _ _) trivial ?_
 refine WA.seq ?_
 obtain ⟨y101,hy101,hF⟩:=bind_some hF
 refine WA.reg [1,2] [101] [(0,.callR [] (.tup [(true,pvL (Zd y101.1)),(false,[.pv (.int .i64 y101.2)])])),(4,.obj 101)] (env':=[(1,.val false [.ptr 101 1 0 0]),(2,one (.int .i64 y101.2))]) (os':=[(101,.box (pvL (Zd y101.1)))]) (O:=[Sim Tryz.prog GL0 27 [one (.str ([97,123,50,125]:List UInt8))] [] (.tup [(true,pvL (Zd y101.1)),(false,[.pv (.int .i64 y101.2)])]) [],([]:List Nat).Nodup]) kr (sound _ _) ⟨(Zes k _ _ hy101),(by decide),trivial⟩ ?_
 refine WA.seq ?_
 obtain ⟨y102,hy102,hF⟩:=bind_some hF
 refine WA.reg [1,2,4] [101] [(0,.callR [] (.tup [(true,pvL (Zd y102.1)),(false,[.pv (.int .i64 y102.2)])])),(4,.obj 103)] (env':=[(1,.val false [.ptr 101 1 0 0]),(2,one (.int .i64 y101.2)),(4,one (.int .i64 y102.2))]) (os':=[(101,.box (pvL (Zd y101.1)))]) (O:=[Sim Tryz.prog GL0 27 [one (.str ([97,42,42]:List UInt8))] [] (.tup [(true,pvL (Zd y102.1)),(false,[.pv (.int .i64 y102.2)])]) [],([]:List Nat).Nodup]) kr (sound _ _) ⟨(Zes k _ _ hy102),(by decide),trivial⟩ ?_
 refine WA.seq ?_
 obtain ⟨y103,hy103,hF⟩:=bind_some hF
 refine WA.reg [1,2,4,6] [101] [(0,.callR [] (.tup [(true,pvL (Zd y103.1)),(false,[.pv (.int .i64 y103.2)])])),(4,.obj 105)] (env':=[(1,.val false [.ptr 101 1 0 0]),(2,one (.int .i64 y101.2)),(4,one (.int .i64 y102.2)),(6,one (.int .i64 y103.2))]) (os':=[(101,.box (pvL (Zd y101.1)))]) (O:=[Sim Tryz.prog GL0 27 [one (.str ([97,123,50,49,125]:List UInt8))] [] (.tup [(true,pvL (Zd y103.1)),(false,[.pv (.int .i64 y103.2)])]) [],([]:List Nat).Nodup]) kr (sound _ _) ⟨(Zes k _ _ hy103),(by decide),trivial⟩ ?_
 refine WA.join (fun s_=>∃(v122:Bool),Zi s_.env [0]=[(0,one (.bool v122))]∧Zi s_.os []=[]∧ZaU v122=some r) ?_ ?_
 {
 rintro s_ ⟨v122,he,ho,hF⟩
 refine WA.keep _ _ he ho ?_
 clear he ho
 refine WA.ret ?_
 obtain rfl:=Option.some.inj hF
 exact Zu (one (.bool v122)) [] kr kr kr kr (by decide) rfl rfl }
 {
 rcases Bool.eq_false_or_eq_true (y101.2 == 0) with hb104 | hb104
 {
 have hF:=Zk hF hb104
 rcases Bool.eq_false_or_eq_true (y101.1.f_Kind == 4) with hb105 | hb105
 {
 have hF:=Zk hF hb105
 rcases Bool.eq_false_or_eq_true (y101.1.f_Min == 2) with hb106 | hb106
 {
 have hF:=Zk hF hb106
 rcases Bool.eq_false_or_eq_true (y101.1.f_Max == 2) with hb107 | hb107
 {
 have hF:=Zk hF hb107
 rcases Bool.eq_false_or_eq_true (y102.2 == 3) with hb108 | hb108
 {
 have hF:=Zk hF hb108
 rcases Bool.eq_false_or_eq_true (y103.2 == 8) with hb109 | hb109
 {
 have hF:=Zk hF hb109
 obtain ⟨y110,hy110,hF⟩:=bind_some hF
 rcases Bool.eq_false_or_eq_true y110 with hb111 | hb111
 {
 have hF:=Zk hF hb111
 obtain ⟨y112,hy112,hF⟩:=bind_some hF
 rcases Bool.eq_false_or_eq_true (!y112) with hb113 | hb113
 {
 have hF:=Zk hF hb113
 obtain ⟨y114,hy114,hF⟩:=bind_some hF
 obtain ⟨y115,hy115,hF⟩:=bind_some hF
 rcases Bool.eq_false_or_eq_true y115 with hb116 | hb116
 {
 have hF:=Zk hF hb116
 obtain ⟨y117,hy117,hF⟩:=bind_some hF
 obtain ⟨y118,hy118,hF⟩:=bind_some hF
 rcases Bool.eq_false_or_eq_true y118 with hb119 | hb119
 {
 have hF:=Zk hF hb119
 obtain ⟨y120,hy120,hF⟩:=bind_some hF
 obtain ⟨y121,hy121,hF⟩:=bind_some hF
 refine WA.reg [0] [] [(2,.bool true),(7,.bool true),(12,.bool true),(17,.bool true),(21,.bool true),(25,.bool true),(27,.callR [] (one (.bool y110))),(29,.bool true),(31,.callR [] (one (.bool y112))),(34,.bool true),(35,.callR [] (.val true (pvL (Zd y114)))),(36,.callR [] (one (.bool y115))),(38,.bool true),(39,.callR [] (.val true (pvL (Zd y117)))),(40,.callR [] (one (.bool y118))),(42,.bool true),(43,.callR [] (.val true (pvL (Zd y120)))),(44,.callR [] (one (.bool y121)))] (env':=[(0,one (.bool (!y121)))]) (os':=[]) (O:=[(y101.2 == 0)=true,(y101.1.f_Kind == 4)=true,(y101.1.f_Min == 2)=true,(y101.1.f_Max == 2)=true,(y102.2 == 3)=true,(y103.2 == 8)=true,Sim Tryz.prog GL0 31 [.val true (pvL (Zd y101.1)),one (.str ([97,97]:List UInt8))] [] (one (.bool y110)) [],([]:List Nat).Nodup,y110=true,Sim Tryz.prog GL0 31 [.val true (pvL (Zd y101.1)),one (.str ([97]:List UInt8))] [] (one (.bool y112)) [],([]:List Nat).Nodup,(!y112)=true,Sim Tryz.prog GL0 34 [] [] (.val true (pvL (Zd y114))) [],([]:List Nat).Nodup,Sim Tryz.prog GL0 31 [.val true (pvL (Zd y114)),one (.str ([120,195,169]:List UInt8))] [] (one (.bool y115)) [],([]:List Nat).Nodup,y115=true,Sim Tryz.prog GL0 33 [one (.str ([97,46,98]:List UInt8))] [] (.val true (pvL (Zd y117))) [],([]:List Nat).Nodup,Sim Tryz.prog GL0 31 [.val true (pvL (Zd y117)),one (.str ([97,46,98]:List UInt8))] [] (one (.bool y118)) [],([]:List Nat).Nodup,y118=true,Sim Tryz.prog GL0 33 [one (.str ([97,46,98]:List UInt8))] [] (.val true (pvL (Zd y120))) [],([]:List Nat).Nodup,Sim Tryz.prog GL0 31 [.val true (pvL (Zd y120)),one (.str ([97,120,98]:List UInt8))] [] (one (.bool y121)) [],([]:List Nat).Nodup]) kr (sound _ _) ⟨hb104,hb105,hb106,hb107,hb108,hb109,(ZJ k _ _ _ hy110),(by decide),hb111,(ZJ k _ _ _ hy112),(by decide),hb113,(Zh8 k _ hy114),(by decide),(ZJ k _ _ _ hy115),(by decide),hb116,(Zh7 k _ _ hy117),(by decide),(ZJ k _ _ _ hy118),(by decide),hb119,(Zh7 k _ _ hy120),(by decide),(ZJ k _ _ _ hy121),(by decide),trivial⟩ ?_
 exact ⟨(!y121),kr,kr,hF⟩ }
 {
 have hF:=Zj hF hb119
 refine WA.reg [0] [] [(2,.bool true),(7,.bool true),(12,.bool true),(17,.bool true),(21,.bool true),(25,.bool true),(27,.callR [] (one (.bool y110))),(29,.bool true),(31,.callR [] (one (.bool y112))),(34,.bool true),(35,.callR [] (.val true (pvL (Zd y114)))),(36,.callR [] (one (.bool y115))),(38,.bool true),(39,.callR [] (.val true (pvL (Zd y117)))),(40,.callR [] (one (.bool y118))),(42,.bool false)] (env':=[(0,one (.bool false))]) (os':=[]) (O:=[(y101.2 == 0)=true,(y101.1.f_Kind == 4)=true,(y101.1.f_Min == 2)=true,(y101.1.f_Max == 2)=true,(y102.2 == 3)=true,(y103.2 == 8)=true,Sim Tryz.prog GL0 31 [.val true (pvL (Zd y101.1)),one (.str ([97,97]:List UInt8))] [] (one (.bool y110)) [],([]:List Nat).Nodup,y110=true,Sim Tryz.prog GL0 31 [.val true (pvL (Zd y101.1)),one (.str ([97]:List UInt8))] [] (one (.bool y112)) [],([]:List Nat).Nodup,(!y112)=true,Sim Tryz.prog GL0 34 [] [] (.val true (pvL (Zd y114))) [],([]:List Nat).Nodup,Sim Tryz.prog GL0 31 [.val true (pvL (Zd y114)),one (.str ([120,195,169]:List UInt8))] [] (one (.bool y115)) [],([]:List Nat).Nodup,y115=true,Sim Tryz.prog GL0 33 [one (.str ([97,46,98]:List UInt8))] [] (.val true (pvL (Zd y117))) [],([]:List Nat).Nodup,Sim Tryz.prog GL0 31 [.val true (pvL (Zd y117)),one (.str ([97,46,98]:List UInt8))] [] (one (.bool y118)) [],([]:List Nat).Nodup,y118=false]) kr (sound _ _) ⟨hb104,hb105,hb106,hb107,hb108,hb109,(ZJ k _ _ _ hy110),(by decide),hb111,(ZJ k _ _ _ hy112),(by decide),hb113,(Zh8 k _ hy114),(by decide),(ZJ k _ _ _ hy115),(by decide),hb116,(Zh7 k _ _ hy117),(by decide),(ZJ k _ _ _ hy118),(by decide),hb119,trivial⟩ ?_
 exact ⟨false,kr,kr,hF⟩ } }
 {
 have hF:=Zj hF hb116
 refine WA.reg [0] [] [(2,.bool true),(7,.bool true),(12,.bool true),(17,.bool true),(21,.bool true),(25,.bool true),(27,.callR [] (one (.bool y110))),(29,.bool true),(31,.callR [] (one (.bool y112))),(34,.bool true),(35,.callR [] (.val true (pvL (Zd y114)))),(36,.callR [] (one (.bool y115))),(38,.bool false)] (env':=[(0,one (.bool false))]) (os':=[]) (O:=[(y101.2 == 0)=true,(y101.1.f_Kind == 4)=true,(y101.1.f_Min == 2)=true,(y101.1.f_Max == 2)=true,(y102.2 == 3)=true,(y103.2 == 8)=true,Sim Tryz.prog GL0 31 [.val true (pvL (Zd y101.1)),one (.str ([97,97]:List UInt8))] [] (one (.bool y110)) [],([]:List Nat).Nodup,y110=true,Sim Tryz.prog GL0 31 [.val true (pvL (Zd y101.1)),one (.str ([97]:List UInt8))] [] (one (.bool y112)) [],([]:List Nat).Nodup,(!y112)=true,Sim Tryz.prog GL0 34 [] [] (.val true (pvL (Zd y114))) [],([]:List Nat).Nodup,Sim Tryz.prog GL0 31 [.val true (pvL (Zd y114)),one (.str ([120,195,169]:List UInt8))] [] (one (.bool y115)) [],([]:List Nat).Nodup,y115=false]) kr (sound _ _) ⟨hb104,hb105,hb106,hb107,hb108,hb109,(ZJ k _ _ _ hy110),(by decide),hb111,(ZJ k _ _ _ hy112),(by decide),hb113,(Zh8 k _ hy114),(by decide),(ZJ k _ _ _ hy115),(by decide),hb116,trivial⟩ ?_
 exact ⟨false,kr,kr,hF⟩ } }
 {
 have hF:=Zj hF hb113
 refine WA.reg [0] [] [(2,.bool true),(7,.bool true),(12,.bool true),(17,.bool true),(21,.bool true),(25,.bool true),(27,.callR [] (one (.bool y110))),(29,.bool true),(31,.callR [] (one (.bool y112))),(34,.bool false)] (env':=[(0,one (.bool false))]) (os':=[]) (O:=[(y101.2 == 0)=true,(y101.1.f_Kind == 4)=true,(y101.1.f_Min == 2)=true,(y101.1.f_Max == 2)=true,(y102.2 == 3)=true,(y103.2 == 8)=true,Sim Tryz.prog GL0 31 [.val true (pvL (Zd y101.1)),one (.str ([97,97]:List UInt8))] [] (one (.bool y110)) [],([]:List Nat).Nodup,y110=true,Sim Tryz.prog GL0 31 [.val true (pvL (Zd y101.1)),one (.str ([97]:List UInt8))] [] (one (.bool y112)) [],([]:List Nat).Nodup,(!y112)=false]) kr (sound _ _) ⟨hb104,hb105,hb106,hb107,hb108,hb109,(ZJ k _ _ _ hy110),(by decide),hb111,(ZJ k _ _ _ hy112),(by decide),hb113,trivial⟩ ?_
 exact ⟨false,kr,kr,hF⟩ } }
 {
 have hF:=Zj hF hb111
 refine WA.reg [0] [] [(2,.bool true),(7,.bool true),(12,.bool true),(17,.bool true),(21,.bool true),(25,.bool true),(27,.callR [] (one (.bool y110))),(29,.bool false)] (env':=[(0,one (.bool false))]) (os':=[]) (O:=[(y101.2 == 0)=true,(y101.1.f_Kind == 4)=true,(y101.1.f_Min == 2)=true,(y101.1.f_Max == 2)=true,(y102.2 == 3)=true,(y103.2 == 8)=true,Sim Tryz.prog GL0 31 [.val true (pvL (Zd y101.1)),one (.str ([97,97]:List UInt8))] [] (one (.bool y110)) [],([]:List Nat).Nodup,y110=false]) kr (sound _ _) ⟨hb104,hb105,hb106,hb107,hb108,hb109,(ZJ k _ _ _ hy110),(by decide),hb111,trivial⟩ ?_
 exact ⟨false,kr,kr,hF⟩ } }
 {
 have hF:=Zj hF hb109
 refine WA.reg [0] [] [(2,.bool true),(7,.bool true),(12,.bool true),(17,.bool true),(21,.bool true),(25,.bool false)] (env':=[(0,one (.bool false))]) (os':=[]) (O:=[(y101.2 == 0)=true,(y101.1.f_Kind == 4)=true,(y101.1.f_Min == 2)=true,(y101.1.f_Max == 2)=true,(y102.2 == 3)=true,(y103.2 == 8)=false]) kr (sound _ _) ⟨hb104,hb105,hb106,hb107,hb108,hb109,trivial⟩ ?_
 exact ⟨false,kr,kr,hF⟩ } }
 {
 have hF:=Zj hF hb108
 refine WA.reg [0] [] [(2,.bool true),(7,.bool true),(12,.bool true),(17,.bool true),(21,.bool false)] (env':=[(0,one (.bool false))]) (os':=[]) (O:=[(y101.2 == 0)=true,(y101.1.f_Kind == 4)=true,(y101.1.f_Min == 2)=true,(y101.1.f_Max == 2)=true,(y102.2 == 3)=false]) kr (sound _ _) ⟨hb104,hb105,hb106,hb107,hb108,trivial⟩ ?_
 exact ⟨false,kr,kr,hF⟩ } }
 {
 have hF:=Zj hF hb107
 refine WA.reg [0] [] [(2,.bool true),(7,.bool true),(12,.bool true),(17,.bool false)] (env':=[(0,one (.bool false))]) (os':=[]) (O:=[(y101.2 == 0)=true,(y101.1.f_Kind == 4)=true,(y101.1.f_Min == 2)=true,(y101.1.f_Max == 2)=false]) kr (sound _ _) ⟨hb104,hb105,hb106,hb107,trivial⟩ ?_
 exact ⟨false,kr,kr,hF⟩ } }
 {
 have hF:=Zj hF hb106
 refine WA.reg [0] [] [(2,.bool true),(7,.bool true),(12,.bool false)] (env':=[(0,one (.bool false))]) (os':=[]) (O:=[(y101.2 == 0)=true,(y101.1.f_Kind == 4)=true,(y101.1.f_Min == 2)=false]) kr (sound _ _) ⟨hb104,hb105,hb106,trivial⟩ ?_
 exact ⟨false,kr,kr,hF⟩ } }
 {
 have hF:=Zj hF hb105
 refine WA.reg [0] [] [(2,.bool true),(7,.bool false)] (env':=[(0,one (.bool false))]) (os':=[]) (O:=[(y101.2 == 0)=true,(y101.1.f_Kind == 4)=false]) kr (sound _ _) ⟨hb104,hb105,trivial⟩ ?_
 exact ⟨false,kr,kr,hF⟩ } }
 {
 have hF:=Zj hF hb104
 refine WA.reg [0] [] [(2,.bool false)] (env':=[(0,one (.bool false))]) (os':=[]) (O:=[(y101.2 == 0)=false]) kr (sound _ _) ⟨hb104,trivial⟩ ?_
 exact ⟨false,kr,kr,hF⟩ } }
end Go.Proofs.YthilboheomikjaaGreatDoor
end
section
namespace Go.Proofs.YthilboheomikjaaGreatDoor
open Go.AL Go.Lib
set_option maxRecDepth 100000
end Go.Proofs.YthilboheomikjaaGreatDoor
namespace Go.Proofs.YthilboheomikjaaGreatDoor.Pure
open Go.AL
end Go.Proofs.YthilboheomikjaaGreatDoor.Pure
end
section
namespace Go.Proofs.YthilboheomikjaaGreatDoor
open Go.AL Go.Lib
set_option maxRecDepth 100000
def span (cs:List Int) (i j:Nat):List Int:=(cs.drop i).take (j-i)
theorem ZiT {cs:List Int} {i j:Nat} (h:i≤j) (hj:j≤cs.length):(span cs i j).length=j-i:=by
  unfold span;rw [List.length_take,List.length_drop];omega
theorem ZgE {cs:List Int} {i j:Nat} {u v:List Int} (h:i≤j) (hj:j≤cs.length):span cs i j=u ++ v↔∃m,i≤m∧m≤j∧u=span cs i m∧v=span cs m j:=by
  constructor
  · intro e
    have hl:=ZiT h hj
    rw [e,List.length_append] at hl
    refine ⟨i+u.length,by omega,by omega,?_,?_⟩
    · have h2:(span cs i j).take u.length=span cs i (i+u.length):=by
        unfold span
        rw [List.take_take]
        congr 1
        omega
      rw [←h2,e]
      simp
    · have:(span cs i j).drop u.length=v:=by rw [e];simp
      rw [←this]
      unfold span
      rw [List.drop_take,List.drop_drop]
      congr 1
      omega
  · rintro ⟨m,h1,h2,rfl,rfl⟩
    unfold span
    have e1:cs.drop m=(cs.drop i).drop (m-i):=by rw [List.drop_drop];congr 1;omega
    rw [e1,←List.take_append_drop (m-i) ((cs.drop i).take (j-i)),List.take_take,List.drop_take]
    congr 2
    · omega
    · omega
def Rl (P:List Int→Prop) (cs:List Int) (i j:Nat):Prop:=i≤j∧j≤cs.length∧P (span cs i j)
theorem Zkf {P Q:List Int→Prop} {cs:List Int} {i j:Nat}:Rl (Cat P Q) cs i j↔∃m,Rl P cs i m∧Rl Q cs m j:=by
  constructor
  · rintro ⟨h1,h2,u,v,e,hu,hv⟩
    obtain ⟨m,m1,m2,rfl,rfl⟩:=(ZgE h1 h2).1 e
    exact ⟨m,⟨m1,by omega,hu⟩,m2,h2,hv⟩
  · rintro ⟨m,⟨h1,h2,h3⟩,h4,h5,h6⟩
    exact ⟨by omega,h5,_,_,(ZgE (by omega) h5).2 ⟨m,h1,h4,rfl,rfl⟩,h3,h6⟩
theorem Zkg {cs:List Int} {i j:Nat}:Rl (fun w=>w=[]) cs i j↔i=j∧j≤cs.length:=by
  constructor
  · rintro ⟨h1,h2,h3⟩
    have:=ZiT h1 h2
    rw [h3] at this
    simp at this
    omega
  · rintro ⟨rfl,h⟩
    exact ⟨Nat.le_refl _,h,by simp [span]⟩
theorem Zif {P Q:List Int→Prop} (h:∀w,P w↔Q w) {cs:List Int} {i j:Nat}:Rl P cs i j↔Rl Q cs i j:=by unfold Rl;rw [h]
def Ends (P:List Int→Prop) (cs:List Int) (f o:List Bool):Prop:=o.length=cs.length+1∧∀j,Sn o j↔∃i,Sn f i∧Rl P cs i j
theorem Ends.congr {P Q:List Int→Prop} {cs:List Int} {f o:List Bool} (h:Ends P cs f o) (e:∀w,P w↔Q w):Ends Q cs f o:=
  ⟨h.1,fun j=>(h.2 j).trans ⟨fun ⟨i,a,b⟩=>⟨i,a,(Zif e).1 b⟩,fun ⟨i,a,b⟩=>⟨i,a,(Zif e).2 b⟩⟩⟩
theorem Ends.comp {P Q:List Int→Prop} {cs:List Int} {f g o:List Bool} (h:Ends P cs f g) (h2:Ends Q cs g o):Ends (Cat P Q) cs f o:=
  ⟨h2.1,fun j=>by
    rw [h2.2]
    constructor
    · rintro ⟨m,a,b⟩
      obtain ⟨i,c,d⟩:=(h.2 m).1 a
      exact ⟨i,c,Zkf.2 ⟨m,d,b⟩⟩
    · rintro ⟨i,c,d⟩
      obtain ⟨m,e1,e2⟩:=Zkf.1 d
      exact ⟨m,(h.2 m).2 ⟨i,c,e1⟩,e2⟩⟩
theorem Znb {s:List Bool} {j:Nat} (h:Sn s j):j<s.length:=(List.getElem?_eq_some_iff.1 h).1
theorem Ends.eps {cs:List Int} {f:List Bool} (h:f.length=cs.length+1):Ends (fun w=>w=[]) cs f f:=
  ⟨h,fun j=>⟨fun hj=>⟨j,hj,Zkg.2 ⟨rfl,by have:=Znb hj;omega⟩⟩,fun ⟨i,a,b⟩=>by rw [←(Zkg.1 b).1];exact a⟩⟩
theorem Zmr {s:List Bool} {i j:Nat} {b:Bool} (hi:i<s.length):Sn (s.set i b) j↔(j=i∧b=true)∨(j≠i∧Sn s j):=by
  unfold Sn
  rw [List.getElem?_set]
  by_cases h:i=j
  · subst h
    rw [if_pos rfl,if_pos hi]
    simp
  · rw [if_neg h]
    have h':j≠i:=fun e=>h e.symm
    simp [h']
end Go.Proofs.YthilboheomikjaaGreatDoor
end
section
namespace Go.Proofs.YthilboheomikjaaGreatDoor
open Go.AL Go.Lib
set_option maxRecDepth 100000
theorem Zh3 {a b c:Int}:mn a b≤c↔a≤c∨b≤c:=by unfold mn;split <;> omega
mutual
theorem ZlL:∀r:Ze,OK r→sz r≤200→fs r≤4000→WF r∧(cnt r:Int)≤2*sz r-1
  | ⟨kd,st,l,a,b⟩,ho,hs,hf=>by
    simp only [OK] at ho
    simp only [fs] at hf
    obtain ⟨h0,hl⟩:=ho
    have hL:=Zcy l
    rcases h0 with ⟨rfl,_,h3,_⟩ | ⟨rfl,_,h3,_⟩ | ⟨rfl,_,h3,_⟩ | ⟨rfl,h3,_,h5,h6,h7,h8⟩
    · obtain rfl:l=[]:=h3
      refine ⟨⟨⟨.inl rfl,fun h=>absurd h (by show ¬(1:Int)=4;omega),by show st.length≤_;omega,by simp⟩,trivial⟩,?_⟩
      simp [cnt,sz]
    · have e:sz ⟨2,st,l,a,b⟩=mn (szL l+1) 1000:=by simp [sz]
      rw [e] at hs ⊢
      have e2:mn (szL l+1) 1000=szL l+1:=mn_l (by rw [Zh3] at hs;omega)
      rw [e2] at hs ⊢
      obtain ⟨h9,h10⟩:=Ze7 l hl (by omega) (by omega)
      refine ⟨⟨⟨.inr (.inl rfl),fun h=>absurd h (by show ¬(2:Int)=4;omega),by show st.length≤_;omega,by have:=Zhe l;show l.length≤_;omega⟩,h9⟩,?_⟩
      simp only [cnt,if_neg (show ¬(2:Int)=1 by omega),if_true]
      omega
    · have e:sz ⟨3,st,l,a,b⟩=mn (szL l+1) 1000:=by simp [sz]
      rw [e] at hs ⊢
      have e2:mn (szL l+1) 1000=szL l+1:=mn_l (by rw [Zh3] at hs;omega)
      rw [e2] at hs ⊢
      obtain ⟨h9,h10⟩:=Ze7 l hl (by omega) (by omega)
      refine ⟨⟨⟨.inr (.inr (.inl rfl)),fun h=>absurd h (by show ¬(3:Int)=4;omega),by show st.length≤_;omega,by have:=Zhe l;show l.length≤_;omega⟩,h9⟩,?_⟩
      simp only [cnt,if_neg (show ¬(3:Int)=1 by omega),if_neg (show ¬(3:Int)=2 by omega),if_true]
      have:1<l.length:=h3
      omega
    · simp only at h3 h5 h6 h7 h8
      obtain ⟨x,rfl⟩:=List.length_eq_one_iff.1 h3
      have e:sz ⟨4,st,[x],a,b⟩=mn (sz x*mn (mx (if b<0 then w64 (a+1) else b) 1) 1000+1) 1000:=by simp [sz,szH]
      have hx:=ZcP x
      have eq:mn (mx (if b<0 then w64 (a+1) else b) 1) 1000=if b<0 then a+1 else if b<1 then 1 else b:=by
        rw [Zt (x:=a+1) (by omega) (by omega)]
        by_cases hb:b<0
        · rw [if_pos hb,if_pos hb,mx_l (by omega),mn_l (by omega)]
        · rw [if_neg hb,if_neg hb]
          by_cases hb1:b<1
          · rw [if_pos hb1,mx_r (by omega),mn_l (by omega)]
          · rw [if_neg hb1,mx_l (by omega),mn_l (by omega)]
      rw [eq] at e
      obtain ⟨n,rfl⟩:∃n:Nat,a=(n:Int):=⟨a.toNat,by omega⟩
      obtain ⟨s,hsz⟩:∃s:Nat,sz x=(s:Int):=⟨(sz x).toNat,by omega⟩
      rw [hsz] at e hx
      have hcx:∀q:Nat,cntL [x]=q→q=cnt x:=fun q hq=>by simp [cntL] at hq;omega
      by_cases hb:b<0
      · rw [if_pos hb] at e
        have e1:(s:Int)*((n:Int)+1)=((s*(n+1):Nat):Int):=by simp
        rw [e1] at e
        have e2:mn (((s*(n+1):Nat):Int)+1) 1000=((s*(n+1):Nat):Int)+1:=mn_l (by rw [e,Zh3] at hs;omega)
        rw [e2] at e
        rw [e] at hs ⊢
        have hsl:s≤s*(n+1):=Nat.le_mul_of_pos_right s (by omega)
        obtain ⟨h9,h10⟩:=Ze7 [x] hl (by simp [szL];omega) (by simp only [fsL] at hf ⊢;omega)
        refine ⟨⟨⟨.inr (.inr (.inr rfl)),fun _=>⟨rfl,by simp only;omega,h6,h7,h8⟩,by show st.length≤_;omega,by simp⟩,h9⟩,?_⟩
        simp only [cnt,if_neg (show ¬(4:Int)=1 by omega),if_neg (show ¬(4:Int)=2 by omega),if_neg (show ¬(4:Int)=3 by omega),if_pos hb,Int.toNat_natCast]
        have hc:cntL [x]+1≤2*s:=by simp [szL,hsz] at h10;omega
        have hm:(n+1)*(cntL [x]+1)≤(n+1)*(2*s):=Nat.mul_le_mul_left _ hc
        rw [Nat.mul_add,Nat.mul_one] at hm
        have e3:(n+1)*(2*s)=2*(s*(n+1)):=by rw [Nat.mul_comm s,Nat.mul_left_comm]
        omega
      · rw [if_neg hb] at e
        obtain ⟨m,rfl⟩:∃m:Nat,b=(m:Int):=⟨b.toNat,by omega⟩
        have e1:(s:Int)*(if (m:Int)<1 then 1 else (m:Int))=((s*(if m<1 then 1 else m):Nat):Int):=by
          by_cases hm:m<1
          · rw [if_pos hm,if_pos (by omega)];simp
          · rw [if_neg hm,if_neg (by omega)];simp
        rw [e1] at e
        have e2:mn (((s*(if m<1 then 1 else m):Nat):Int)+1) 1000=((s*(if m<1 then 1 else m):Nat):Int)+1:=mn_l (by rw [e,Zh3] at hs;omega)
        rw [e2] at e
        rw [e] at hs ⊢
        have hsl:s≤s*(if m<1 then 1 else m):=Nat.le_mul_of_pos_right s (by split <;> omega)
        have hml:s*m≤s*(if m<1 then 1 else m):=Nat.mul_le_mul_left _ (by split <;> omega)
        obtain ⟨h9,h10⟩:=Ze7 [x] hl (by simp [szL];omega) (by simp only [fsL] at hf ⊢;omega)
        refine ⟨⟨⟨.inr (.inr (.inr rfl)),fun _=>⟨rfl,by simp only;omega,h6,h7,h8⟩,by show st.length≤_;omega,by simp⟩,h9⟩,?_⟩
        simp only [cnt,if_neg (show ¬(4:Int)=1 by omega),if_neg (show ¬(4:Int)=2 by omega),if_neg (show ¬(4:Int)=3 by omega),if_neg hb,Int.toNat_natCast]
        have hc:cntL [x]+1≤2*s:=by simp [szL,hsz] at h10;omega
        have hm:m*(cntL [x]+1)≤m*(2*s):=Nat.mul_le_mul_left _ hc
        rw [Nat.mul_add,Nat.mul_one] at hm
        have e3:m*(2*s)=2*(s*m):=by rw [Nat.mul_comm s,Nat.mul_left_comm]
        omega
theorem Ze7:∀l:List Ze,OKL l→szL l≤199→fsL l≤4000→WFL l∧(cntL l:Int)≤2*szL l-l.length
  | [],_,_,_=>⟨trivial,by simp [cntL,szL]⟩
  | x :: l,ho,hs,hf=>by
    simp only [OKL] at ho
    simp only [szL] at hs
    simp only [fsL] at hf
    have h1:=ZcP x
    have h2:=Zcy l
    obtain ⟨a1,a2⟩:=ZlL x ho.1 (by omega) (by omega)
    obtain ⟨b1,b2⟩:=Ze7 l ho.2 (by omega) (by omega)
    refine ⟨⟨a1,b1⟩,?_⟩
    simp only [cntL,szL,List.length_cons]
    omega
theorem Zhe:∀l:List Ze,(l.length:Int)≤szL l
  | []=>by simp [szL]
  | x :: l=>by
    have h1:=ZcP x
    have:=Zhe l
    simp only [szL,List.length_cons];omega
end
mutual
theorem ZlG:∀r:Ze,fu r≤fs r
  | ⟨kd,st,l,a,b⟩=>by
    have:=Zks l
    simp only [fu,fs];omega
theorem Zks:∀l:List Ze,fuL l≤fsL l
  | []=>by simp [fuL,fsL]
  | x :: l=>by
    have:=ZlG x
    have:=Zks l
    simp only [fuL,fsL];omega
end
def MayP (r:Ze):Prop:=(OK r∧dp r≤16)∧sz r≤200
theorem Zk1 {k:Nat} {r:Ze} {s:List UInt8} (hk:k≤1048576) (hf:fs r≤4000) (hk2:fs r+s.length+1500≤k) (hs:s.length≤100000) :
    ∃b,F31 k r s=some b∧(b=true↔MayP r∧validD s=true∧Lang r (pts s)):=by
  obtain ⟨t,e,p⟩:=ZmI (k:=k) (r:=r) hk (by omega)
  cases t
  · refine ⟨false,?_,by simp;intro h;exact absurd (p.2 h) (by simp)⟩
    unfold F31 Zet
    rw [e];rfl
  · have hm:=p.1 rfl
    cases hv:validD s
    · exact ⟨false,ZkA (by omega) e hv,by simp⟩
    · obtain ⟨hw,hc⟩:=ZlL r hm.1.1 hm.2 hf
      have:=ZlG r
      have:=hm.2
      obtain ⟨b,e2,p2⟩:=Zlg (k:=k) hk hw (by omega) (by omega) (by omega) e hv
      exact ⟨b,e2,p2.trans ⟨fun h=>⟨hm,rfl,h⟩,fun h=>h.2.2⟩⟩
end Go.Proofs.YthilboheomikjaaGreatDoor
end
section
namespace Go.Proofs.YthilboheomikjaaGreatDoor
open Go.AL Go.Lib
set_option maxRecDepth 100000
end Go.Proofs.YthilboheomikjaaGreatDoor
end
section
namespace Go.Proofs.YthilboheomikjaaGreatDoor
open Go.AL Go.Lib
set_option maxRecDepth 100000
def rd (s:List UInt8) (p:Nat) (o:Bool):Zg:=⟨s,(p:Int),o⟩
theorem ZlH {k p:Nat} {s:List UInt8} {o:Bool} {w:List UInt8} (hp:p≤s.length):F97 k (rd s p o) w=some (w.isPrefixOf (s.drop p)):=by
  unfold F97 rd
  simp only
  rw [if_pos ⟨by omega,by omega,by omega⟩]
  simp only [Int.toNat_natCast,List.take_length]
  rfl
theorem pre1 {l:List UInt8} {c:UInt8}:[c].isPrefixOf l=decide (l[0]?=some c):=by
  cases l with
  | nil=>rfl
  | cons x l=>
    simp only [List.isPrefixOf,Bool.and_true,List.getElem?_cons_zero,Option.some.injEq]
    by_cases h:c=x
    · subst h;simp
    · have:¬x=c:=fun e=>h e.symm
      simp [h,this]
theorem is1 {k p:Nat} {s:List UInt8} {o:Bool} {c:UInt8} (hp:p≤s.length):F97 k (rd s p o) [c]=some (decide (s[p]?=some c)):=by
  rw [ZlH hp,pre1,List.getElem?_drop,Nat.add_zero]
theorem Zku {k p:Nat} {s:List UInt8} {o:Bool} {c d:UInt8} (hp:p≤s.length) (h:s[p]?≠some c):F97 k (rd s p o) [c,d]=some false:=by
  rw [ZlH hp]
  congr 1
  have e:(s.drop p)[0]?=s[p]?:=by rw [List.getElem?_drop,Nat.add_zero]
  cases hd:s.drop p with
  | nil=>rfl
  | cons x l=>
    rw [hd] at e
    have:x≠c:=fun e2=>h (by rw [←e,e2];rfl)
    simp only [List.isPrefixOf]
    have h2:(c == x)=false:=by simp;exact fun e=>this e.symm
    rw [h2];rfl
theorem Zep {k p:Nat} {s:List UInt8} {o:Bool} {c:UInt8} (hs:s.length≤1000000) (h:s[p]?=some c):F71 k (rd s p o) [c]=some (true,rd s (p+1) o):=by
  have hp:=(List.getElem?_eq_some_iff.1 h).1
  unfold F71
  rw [is1 (by omega),dt h,Option.bind_some,Bool.not_true,cond_false]
  unfold rd
  simp only [List.length_cons,List.length_nil]
  have e:=Zbv (i:=p) (by omega)
  simp only [Nat.zero_add,Int.natCast_one] at e ⊢
  rw [e]
theorem Za3 {k p:Nat} {s:List UInt8} {o:Bool} {c:UInt8} (hp:p≤s.length) (h:s[p]?≠some c):F71 k (rd s p o) [c]=some (false,rd s p o):=by
  unfold F71
  rw [is1 hp,df h,Option.bind_some,Bool.not_false,cond_true]
theorem ZjU {k p:Nat} {s:List UInt8} {o:Bool} (hs:s.length≤1000000) (hp:p<s.length) (hb:¬bad (s.drop p)):F140 k (rd s p o)=some (some (((decodeL (s.drop p)).1:Int),rd s (p+(decodeL (s.drop p)).2) o)):=by
  have hne:s.drop p≠[]:=fun c=>by have:=List.drop_eq_nil_iff.1 c;omega
  have hw:=decodeL_width (s.drop p)
  have hle:=decodeL_le _ hne
  rw [List.length_drop] at hle
  unfold F140 rd
  simp only
  rw [Zkb hp (by omega),Option.bind_some]
  unfold nxt Zfd
  rw [if_neg hb]
  simp only
  rw [Z0 (by omega),cond_false,df (by omega),cond_false,Zt (by omega) (by omega)]
  rfl
theorem Zgg {l:List UInt8} {b:UInt8} (h:b.toNat<128):decodeL (b :: l)=(b.toNat,1)∧¬bad (b :: l):=by
  have e:=decodeL_ascii b l h
  refine ⟨e,?_⟩
  unfold bad
  rw [e]
  simp only
  omega
theorem Zl9 {s:List UInt8} {p:Nat} {b:UInt8} (h:s[p]?=some b):s.drop p=b :: s.drop (p+1):=by
  obtain ⟨h1,h2⟩:=List.getElem?_eq_some_iff.1 h
  rw [List.drop_eq_getElem_cons h1,h2]
theorem ZjT {k p:Nat} {s:List UInt8} {o:Bool} {b:UInt8} (hs:s.length≤1000000) (h:s[p]?=some b) (hb:b.toNat<128):F140 k (rd s p o)=some (some ((b.toNat:Int),rd s (p+1) o)):=by
  have h1:=(List.getElem?_eq_some_iff.1 h).1
  obtain ⟨a1,a2⟩:=Zgg (l:=s.drop (p+1)) hb
  rw [←Zl9 h] at a1 a2
  rw [ZjU hs h1 a2,a1]
theorem Zca:∀(s:List UInt8),(∀b∈s,b.toNat<128)→validD s=true∧pts s=s.map fun b=>(b.toNat:Int)
  | [],_=>⟨rfl,Zfv⟩
  | b :: s,h=>by
    obtain ⟨a1,a2⟩:=Zgg (l:=s) (h b List.mem_cons_self)
    obtain ⟨b1,b2⟩:=Zca s fun x hx=>h x (List.mem_cons_of_mem _ hx)
    have hne:b :: s≠[]:=by simp
    rw [Zj1 hne a2,ZiF hne,a1]
    exact ⟨b1,by rw [List.map_cons];congr 1⟩
theorem ZgV {k:Nat} {s:List UInt8} {b:UInt8} (hb:b.toNat<128):F141 k s (IntKind.wrap .i32 (b.toNat:Int))=some (decide (0≤indexByte s b)):=by
  have e:IntKind.wrap .i32 (b.toNat:Int)=b.toNat:=by simp [IntKind.wrap,IntKind.bits,IntKind.signed];omega
  have e2:IntKind.wrap .u8 (b.toNat:Int)=b.toNat:=by simp [IntKind.wrap,IntKind.bits,IntKind.signed];omega
  unfold F141 ZjB F171 Zfk F170
  rw [e,if_neg (by omega),dt (by omega),cond_true,dt (by omega),cond_true,e2]
  simp
end Go.Proofs.YthilboheomikjaaGreatDoor
end
section
namespace Go.Proofs.YthilboheomikjaaGreatDoor
open Go.AL Go.Lib
set_option maxRecDepth 100000
def Zd6 (b:UInt8):Bool:=(decide (48≤b.toNat) && decide (b.toNat≤57)) || (decide (65≤b.toNat) && decide (b.toNat≤90)) || (decide (97≤b.toNat) && decide (b.toNat≤122))
theorem Zkl:((List.range 256).all fun n=>!Zd6 (UInt8.ofNat n) || (decide (UInt8.ofNat n≠93) && decide (UInt8.ofNat n≠92) && decide (UInt8.ofNat n≠45) && decide (UInt8.ofNat n≠94) && decide (UInt8.ofNat n≠91) && decide ((UInt8.ofNat n).toNat<128) && decide (48≤(UInt8.ofNat n).toNat) && decide ((UInt8.ofNat n).toNat≤122) && decide (indexByte [92,91,93,94,45] (UInt8.ofNat n)<0)))=true:=by kernel_rfl
theorem Zak {b:UInt8} (h:Zd6 b=true):b≠93∧b≠92∧b≠45∧b≠94∧b≠91∧b.toNat<128∧48≤b.toNat∧b.toNat≤122∧indexByte [92,91,93,94,45] b<0:=by
  have h1:=List.all_eq_true.1 Zkl b.toNat (List.mem_range.2 b.toNat_lt)
  simp only [UInt8.ofNat_toNat] at h1
  rw [h] at h1
  simp only [Bool.not_true,Bool.false_or,Bool.and_eq_true,decide_eq_true_eq] at h1
  obtain ⟨⟨⟨⟨⟨⟨⟨⟨a,b⟩,c⟩,d⟩,e⟩,f⟩,g⟩,g2⟩,i⟩:=h1
  exact ⟨a,b,c,d,e,f,g,g2,i⟩
structure Item where
  a:UInt8
  b:UInt8
def Item.good (x:Item):Prop:=Zd6 x.a=true∧Zd6 x.b=true∧x.a.toNat≤x.b.toNat
def Item.enc (x:Item):List UInt8:=if x.a.toNat<x.b.toNat then [x.a,45,x.b] else [x.a]
def Item.rng (x:Item):Zb:=⟨(x.a.toNat:Int),(x.b.toNat:Int)⟩
def ZeJ (k:Nat) (neg:Bool) (l:List Zb) (R:Zg):Option (Option (Ze×Zg)):=
  (F77 k l).bind fun y=>(F59 k).bind fun z=>(F76 k y z).bind fun u=>cond neg ((F109 k u).bind fun v=>Zci k R v) (Zci k R u)
theorem ZhD {k p:Nat} {s:List UInt8} {o:Bool} {b:UInt8} (hs:s.length≤1000000) (h:s[p]?=some b) (hb:Zd6 b=true):F169 k (rd s p o)=some (some ([⟨(b.toNat:Int),(b.toNat:Int)⟩],rd s (p+1) o)):=by
  obtain ⟨h1,h2,h3,h4,h5,h6,h7,h8,h9⟩:=Zak hb
  have hp:=(List.getElem?_eq_some_iff.1 h).1
  unfold F169
  rw [Za3 (by omega) (by rw [h];simpa using h2),Option.bind_some]
  simp only
  rw [cond_false,ZjT hs h h6]
  simp only [orP,Option.bind_some]
  rw [ZgV h6,Option.bind_some,df (by omega),cond_false]
theorem Zc5 {k:Nat} {s:List UInt8} {o neg:Bool} {R0:Zg} (hs:s.length≤1000000):∀(items:List Item) (acc:List Zb) (p m:Nat) (first:Bool),s.drop p=items.flatMap Item.enc ++ [93]→(∀x∈items,x.good)→(first=true→items≠[])→items.length<m→acc.length+items.length≤100000→
    Zby k (neg,R0) m (rd s p o) acc first=ZeJ k neg (acc ++ items.map Item.rng) (rd s s.length o)
  | [],acc,p,m,first,hd,hg,hf,hm,ha=>by
    obtain ⟨m,rfl⟩:∃q,m=q+1:=⟨m-1,by simp at hm;omega⟩
    rw [List.flatMap_nil,List.nil_append] at hd
    obtain ⟨g1,g2,g3⟩:=ZY hd
    have hlen:=ZaE g3
    cases first
    · show Zcg _ _ _ _ _ _=_
      unfold Zcg
      rw [cond_false,Zep hs g2,Option.bind_some]
      simp only [Bool.not_true]
      unfold Zch
      rw [cond_false,List.map_nil,List.append_nil,show p+1=s.length by omega]
      rfl
    · exact absurd rfl (hf rfl)
  | x :: items,acc,p,m,first,hd,hg,hf,hm,ha=>by
    obtain ⟨m,rfl⟩:∃q,m=q+1:=⟨m-1,by omega⟩
    rw [List.length_cons] at hm ha
    obtain ⟨ga,gb,gab⟩:=hg x List.mem_cons_self
    obtain ⟨h1,h2,h3,h4,h5,h6,h7,h8,h9⟩:=Zak ga
    obtain ⟨i1,i2,i3,i4,i5,i6,i7,i8,i9⟩:=Zak gb
    have hrest:∀q,s.drop q=items.flatMap Item.enc ++ [93]→Zby k (neg,R0) m (rd s q o) (acc ++ [x.rng]) false=ZeJ k neg (acc ++ (x :: items).map Item.rng) (rd s s.length o):=fun q hq=>by
      rw [Zc5 hs items (acc ++ [x.rng]) q m false hq (fun y hy=>hg y (List.mem_cons_of_mem _ hy)) (fun h=>by cases h) (by omega) (by simp;omega),List.append_assoc]
      rfl
    rw [List.flatMap_cons,List.append_assoc] at hd
    have ha0:s[p]?=some x.a∧p<s.length:=by
      have:s.drop p=x.a :: (x.enc ++ (items.flatMap Item.enc ++ [93])).drop 1:=by rw [hd];unfold Item.enc;split <;> rfl
      obtain ⟨q1,q2,_⟩:=ZY this
      exact ⟨q2,q1⟩
    have j6:Zch k (Zby k (neg,R0) m) (neg,R0) acc (rd s p o) true=ZeJ k neg (acc ++ (x :: items).map Item.rng) (rd s s.length o):=by
      unfold Zch
      rw [cond_true,Zku (by omega) (by rw [ha0.1];simpa using h2),Option.bind_some,ZhD hs ha0.1 ga]
      simp only [orP,Option.bind_some]
      by_cases hab:x.a.toNat<x.b.toNat
      · have he:x.enc=[x.a,45,x.b]:=if_pos hab
        rw [he] at hd
        obtain ⟨_,_,d1⟩:=ZY hd
        obtain ⟨e1,e2,d2⟩:=ZY d1
        obtain ⟨e3,e4,d3⟩:=ZY d2
        rw [Zep hs e2,Option.bind_some]
        simp only
        rw [cond_true,Zku (by omega) (by rw [e4];simpa using i2),Option.bind_some,ZhD hs e4 gb]
        simp only [Option.bind_some]
        rw [cond_false,cond_false,Zfs,Option.bind_some,if_pos ⟨by omega,by simp⟩,Zfs,Option.bind_some,df (show ¬((x.b.toNat:Int)<(x.a.toNat:Int)) by omega)]
        unfold Zdg Zdh
        rw [cond_false,Zfs,Option.bind_some,if_pos ⟨by omega,by simp⟩,Zfs,Option.bind_some,if_pos (by simp;omega)]
        exact hrest _ d3
      · have he:x.enc=[x.a]:=if_neg hab
        rw [he] at hd
        obtain ⟨_,_,d1⟩:=ZY hd
        have d1:s.drop (p+1)=items.flatMap Item.enc ++ [93]:=d1
        have hn:s[p+1]?≠some 45:=by
          have:(s.drop (p+1))[0]?=s[p+1]?:=by rw [List.getElem?_drop,Nat.add_zero]
          rw [←this,d1]
          cases items with
          | nil=>simp
          | cons y items=>
            have hy:=(Zak (hg y (by simp)).1).2.2.1
            have e:((y :: items).flatMap Item.enc ++ [93])[0]?=some y.a:=by
              rw [List.flatMap_cons];unfold Item.enc;split <;> rfl
            rw [e]
            simpa using hy
        rw [Za3 (by omega) hn,Option.bind_some]
        simp only
        rw [cond_false]
        unfold Zdh
        rw [if_pos (by simp;omega)]
        have er:x.rng=⟨(x.a.toNat:Int),(x.a.toNat:Int)⟩:=by unfold Item.rng;rw [show x.b.toNat=x.a.toNat by omega]
        rw [←er]
        exact hrest _ d1
    show Zcg k (Zby k (neg,R0) m) (neg,R0) (rd s p o) acc first=_
    unfold Zcg
    cases first
    · rw [cond_false,Za3 (by omega) (by rw [ha0.1];simpa using h1),Option.bind_some]
      simp only [Bool.not_false]
      exact j6
    · rw [cond_true];exact j6
theorem Zlf {items:List Item} (hg:∀x∈items,x.good):Bd (items.map Item.rng):=fun r hr=>by
  obtain ⟨x,hx,rfl⟩:=List.mem_map.1 hr
  obtain ⟨ga,gb,gab⟩:=hg x hx
  have:=(Zak gb)
  unfold Item.rng
  simp only
  omega
def inI (items:List Item) (c:Int):Prop:=∃x∈items,(x.a.toNat:Int)≤c∧c≤(x.b.toNat:Int)
theorem Zmf {items:List Item} {c:Int}:inR (items.map Item.rng) c↔inI items c:=by
  constructor
  · rintro ⟨r,hr,h⟩
    obtain ⟨x,hx,rfl⟩:=List.mem_map.1 hr
    exact ⟨x,hx,h⟩
  · rintro ⟨x,hx,h⟩
    exact ⟨_,List.mem_map.2 ⟨x,hx,rfl⟩,h⟩
theorem ZmP {items:List Item} (hg:∀x∈items,x.good) {c:Int} (h:inI items c):48≤c∧c≤122:=by
  obtain ⟨x,hx,h1,h2⟩:=h
  obtain ⟨ga,gb,gab⟩:=hg x hx
  have:=(Zak gb)
  have:=(Zak ga)
  omega
theorem Zl6 {k:Nat} {items:List Item} {neg:Bool} {R:Zg} (hg:∀x∈items,x.good) (hn:items.length≤100) (hk:2000≤k) :
    ∃l,ZeJ k neg (items.map Item.rng) R=some (some (⟨1,l,[],0,0⟩,R))∧ZbG l∧(∀c,inR l c↔Zac c∧(if neg then ¬inI items c else inI items c))∧l.length≤500:=by
  obtain ⟨l1,e1,a1,i1,b1,n1⟩:=Zg2 (k:=k) (l:=items.map Item.rng) (by simp;omega) (by simp;omega) (Zlf hg)
  rw [List.length_map] at n1
  obtain ⟨l2,e2,c2,i2,n2⟩:=Zg0 (k:=k) (a:=l1) (by omega) (by omega)
  have i3:∀c,inR l2 c↔Zac c∧inI items c:=fun c=>by
    rw [i2,i1,Zmf]
    exact ⟨fun h=>⟨h.2,h.1⟩,fun h=>⟨h.2,h.1⟩⟩
  unfold ZeJ Zci
  rw [e1,Option.bind_some,Zic,Option.bind_some,e2,Option.bind_some]
  cases neg
  · exact ⟨l2,rfl,c2,by simpa using i3,by omega⟩
  · obtain ⟨l3,e3,c3,i4,n3⟩:=ZmS (k:=k) (l:=l2) (by omega) (by omega) c2.bd c2.1
    refine ⟨l3,by rw [cond_true,e3];rfl,c3,fun c=>?_,by omega⟩
    rw [i4,i3]
    simp only [if_true]
    exact ⟨fun h=>⟨h.1,fun h2=>h.2 ⟨h.1,h2⟩⟩,fun h=>⟨h.1,fun h2=>h.2 h2.2⟩⟩
theorem ZjJ {items:List Item} (hg:∀x∈items,x.good):∀b∈items.flatMap Item.enc,b.toNat<128:=fun b hb=>by
  obtain ⟨x,hx,hb⟩:=List.mem_flatMap.1 hb
  obtain ⟨ga,gb,gab⟩:=hg x hx
  have h1:=(Zak gb).2.2.2.2.2.1
  have h2:=(Zak ga).2.2.2.2.2.1
  unfold Item.enc at hb
  split at hb
  · simp at hb;rcases hb with rfl | rfl | rfl <;> first | assumption | decide
  · simp at hb;subst hb;exact h2
theorem Zd7:∀items:List Item,(items.flatMap Item.enc).length≤3*items.length
  | []=>by simp
  | x :: items=>by
    have:=Zd7 items
    have he:x.enc.length≤3:=by unfold Item.enc;split <;> simp
    rw [List.flatMap_cons,List.length_append,List.length_cons]
    omega
theorem Zgi {k:Nat} {items:List Item} {neg:Bool} (hg:∀x∈items,x.good) (h0:items≠[]) (hn:items.length≤30) (hk:3000≤k) (hk2:k≤100000) {s:List UInt8} (hs:s=(if neg then [91,94] else [91]) ++ items.flatMap Item.enc ++ [93]) :
    ∃l,F27 k s=some (⟨1,l,[],0,0⟩,0)∧ZbG l∧(∀c,inR l c↔Zac c∧(if neg then ¬inI items c else inI items c))∧l.length≤500:=by
  have hbl:=Zd7 items
  have hlen:s.length≤100∧1≤s.length:=by
    have he:(if neg then [91,94] else [91]:List UInt8).length≤2:=by cases neg <;> simp
    rw [hs,List.length_append,List.length_append,List.length_singleton]
    omega
  obtain ⟨q,rfl⟩:∃q,k=q+1:=⟨k-1,by omega⟩
  obtain ⟨l,e,hc,hin,hll⟩:=Zl6 (k:=q) (items:=items) (neg:=neg) (R:=rd s s.length false) hg (by omega) (by omega)
  refine ⟨l,?_,hc,hin,hll⟩
  have s0:s[0]?=some 91:=by rw [hs];cases neg <;> rfl
  have hcls:F138 q (rd s 1 false)=some (some (⟨1,l,[],0,0⟩,rd s s.length false)):=by
    unfold F138
    cases neg
    · have hd:s.drop 1=items.flatMap Item.enc ++ [93]:=by rw [hs];rfl
      have h1:s[1]?≠some 94:=by
        have:(s.drop 1)[0]?=s[1]?:=by rw [List.getElem?_drop,Nat.add_zero]
        rw [←this,hd]
        cases items with
        | nil=>exact absurd rfl h0
        | cons y items=>
          have hy:=(Zak (hg y (by simp)).1).2.2.2.1
          have e:((y :: items).flatMap Item.enc ++ [93])[0]?=some y.a:=by rw [List.flatMap_cons];unfold Item.enc;split <;> rfl
          rw [e]
          simpa using hy
      rw [Za3 (by omega) h1,Option.bind_some]
      simp only
      rw [Zc5 (by omega) items [] 1 q true hd hg (fun _=>h0) (by omega) (by simp;omega),List.nil_append]
      exact e
    · have hd:s.drop 2=items.flatMap Item.enc ++ [93]:=by rw [hs];rfl
      have h1:s[1]?=some 94:=by rw [hs];rfl
      rw [Zep (by omega) h1,Option.bind_some]
      simp only
      rw [Zc5 (by omega) items [] 2 q true hd hg (fun _=>h0) (by omega) (by simp;omega),List.nil_append]
      exact e
  have send:∀c,s[s.length]?≠some c:=fun c=>by rw [List.getElem?_eq_none (Nat.le_refl _)];simp
  have hatom:F117 (F48 q) q (rd s 0 false)=some (some (⟨1,l,[],0,0⟩,rd s s.length false)):=by
    unfold F117
    rw [Za3 (by omega) (by rw [s0];decide),Option.bind_some]
    simp only
    rw [cond_false,Zep (by omega) s0,Option.bind_some]
    simp only
    rw [cond_true]
    simp only [orP]
    rw [hcls,Option.bind_some]
  have hpiece:F98 (F48 q) q (rd s 0 false)=some (some (⟨1,l,[],0,0⟩,rd s s.length false)):=by
    unfold F98
    rw [hatom]
    simp only [orP,Option.bind_some]
    rw [Za3 (Nat.le_refl _) (send _),Option.bind_some]
    simp only
    rw [cond_false,Za3 (Nat.le_refl _) (send _),Option.bind_some]
    simp only
    rw [cond_false,Za3 (Nat.le_refl _) (send _),Option.bind_some]
    simp only
    rw [cond_false,Za3 (Nat.le_refl _) (send _),Option.bind_some]
    simp only
    rw [cond_false]
  have hseq:F70 (F48 q) q (rd s 0 false)=some (some (⟨1,l,[],0,0⟩,rd s s.length false)):=by
    unfold F70
    obtain ⟨m,hm⟩:∃m,q=m+2:=⟨q-2,by omega⟩
    have hl2:∀z,z=q→ZcD (F48 q) q z (rd s 0 false) []=some (some (⟨1,l,[],0,0⟩,rd s s.length false)):=fun z hz=>by
      rw [hm] at hz
      subst hz
      show Zdx (F48 q) q (ZcD (F48 q) q (m+1)) (rd s 0 false) []=_
      unfold Zdx
      rw [show decide ((rd s 0 false).f_at<((rd s 0 false).f_s.length:Int))=true from dt (by unfold rd;simp only;omega),cond_true,is1 (by omega),df (by rw [s0];decide),Option.bind_some,Bool.not_false,cond_true,is1 (by omega),df (by rw [s0];decide),Option.bind_some,Bool.not_false]
      unfold Zdy
      rw [cond_true,hpiece]
      simp only [orP,Option.bind_some]
      rw [if_pos (by simp),List.nil_append]
      show Zdx (F48 q) q (ZcD (F48 q) q m) (rd s s.length false) [⟨1,l,[],0,0⟩]=_
      unfold Zdx
      rw [show decide ((rd s s.length false).f_at<((rd s s.length false).f_s.length:Int))=false from df (by unfold rd;simp only;omega),cond_false]
      unfold Zdy
      rw [cond_false]
      rfl
    exact hl2 q rfl
  have halt:F48 (q+1) (rd s 0 false)=some (some (⟨1,l,[],0,0⟩,rd s s.length false)):=by
    show ZhV (F48 q) q (rd s 0 false)=_
    unfold ZhV
    rw [hseq]
    simp only [orP,Option.bind_some]
    obtain ⟨m,hm⟩:∃m,q=m+1:=⟨q-1,by omega⟩
    have hl0:∀z,z=q→Zdp (F48 q) q z (rd s s.length false) [⟨1,l,[],0,0⟩]=some (some (⟨1,l,[],0,0⟩,rd s s.length false)):=fun z hz=>by
      rw [hm] at hz
      subst hz
      show Zf6 (F48 q) q (Zdp (F48 q) q m) (rd s s.length false) [⟨1,l,[],0,0⟩]=_
      unfold Zf6
      rw [Za3 (Nat.le_refl _) (send _),Option.bind_some]
      rfl
    exact hl0 q rfl
  have hv:validD s=true:=(Zca s fun b hb=>by
    rw [hs] at hb
    rcases List.mem_append.1 hb with hb | hb
    · rcases List.mem_append.1 hb with hb | hb
      · cases neg
        · simp at hb;subst hb;decide
        · simp at hb;rcases hb with rfl | rfl <;> decide
      · exact ZjJ hg b hb
    · simp at hb;subst hb;decide).1
  have hsz:F32 (q+1) ⟨1,l,[],0,0⟩=some 1:=Zha (q+1) _ (by omega) (by simp [fs,fsL];omega)
  have hdp:F50 (q+1) ⟨1,l,[],0,0⟩=some 1:=by
    obtain ⟨m,hm⟩:∃m,q=m+1:=⟨q-1,by omega⟩
    show Zdq (F50 q) ⟨1,l,[],0,0⟩ q 0 0=_
    have:∀z,z=q→Zdq (F50 q) ⟨1,l,[],0,0⟩ z 0 0=some 1:=fun z hz=>by
      rw [hm] at hz
      subst hz
      rfl
    exact this q rfl
  unfold F27 ZhT
  rw [df (by omega),cond_false]
  have halt':F48 (q+1) ⟨s,0,false⟩=_:=halt
  rw [halt',Option.bind_some]
  simp only
  unfold ZhU ZhS F49 F72
  rw [show decide ((rd s s.length false).f_at<(s.length:Int))=false from df (by unfold rd;simp only;omega),cond_false,if_pos (by omega)]
  simp only [Option.bind_some,hv,cond_true]
  rw [show (rd s s.length false).f_over=false from rfl,cond_false,hsz,hdp]
  rfl
end Go.Proofs.YthilboheomikjaaGreatDoor
end
section
namespace Go.Proofs.YthilboheomikjaaGreatDoor
open Go.AL
set_option maxRecDepth 100000
def Zf1 (self5:(List Bool)→(List UInt8)→Int→Option Bool) (self7:(List Bool)→Int→Option Bool) (v169:Int) (y177:UInt8) (v182:List UInt8) (v192:List Bool) (v194:Int):Option Bool:=
  (cond (decide (v194≤(w64 (y177.toNat:Int)))) ((if (0:Int)≤v194∧v194<(v192.length:Int) then (idxL v192 v194).bind fun y197=>(self7 (v192.set (Int.toNat v194) true) (w64 (v194+1))) else none)) ((self5 v192 v182 (w64 (v169+1)))))
def Zdf (self5:(List Bool)→(List UInt8)→Int→Option Bool) (v169:Int) (y177:UInt8) (v182:List UInt8):Nat→(List Bool)→Int→Option Bool
  | 0,_,_=>none
  | m_+1,v192,v194=>Zf1 self5 (Zdf self5 v169 y177 v182 m_) v169 y177 v182 v192 v194
def Zer (k:Nat) (self5:(List Bool)→(List UInt8)→Int→Option Bool) (v166:List Bool) (v169:Int) (y173:UInt8) (y177:UInt8) (v182:List UInt8):Option Bool:=
  (Zdf self5 v169 y177 v182 k v166 (w64 (y173.toNat:Int)))
def Za6 (v225:Bool):Option Bool:=
  some v225
def Zcz (k:Nat) (self5:(List Bool)→(List UInt8)→Int→Option Bool) (v0:List Int) (v1:Int) (v166:List Bool) (v167:List UInt8) (v169:Int):Option Bool:=
  (cond (decide (v169<(v0.length:Int))) ((idxL v0 v169).bind fun y171=>if (62:Int)≠0 then (idxL ([48,49,50,51,52,53,54,55,56,57,65,66,67,68,69,70,71,72,73,74,75,76,77,78,79,80,81,82,83,84,85,86,87,88,89,90,97,98,99,100,101,102,103,104,105,106,107,108,109,110,111,112,113,114,115,116,117,118,119,120,121,122]:List UInt8) (w64 (Int.tmod (IntKind.wrap .u64 y171) 62))).bind fun y173=>(idxL v0 v169).bind fun y174=>if (62:Int)≠0 then if (4:Int)≠0 then (idxL ([48,49,50,51,52,53,54,55,56,57,65,66,67,68,69,70,71,72,73,74,75,76,77,78,79,80,81,82,83,84,85,86,87,88,89,90,97,98,99,100,101,102,103,104,105,106,107,108,109,110,111,112,113,114,115,116,117,118,119,120,121,122]:List UInt8) (mn 61 (w64 ((w64 (Int.tmod (IntKind.wrap .u64 y171) 62))+(w64 (Int.tmod (IntKind.wrap .u64 (w64 (Int.tdiv y174 62))) 4)))))).bind fun y177=>(if v167.length+([UInt8.ofNat (Int.toNat (y173.toNat:Int))]:List UInt8).length≤4611686018427387904 then ((cond (decide ((y177.toNat:Int) > (y173.toNat:Int))) (if (v167 ++ ([UInt8.ofNat (Int.toNat (y173.toNat:Int))]:List UInt8)).length+([45]:List UInt8).length≤4611686018427387904 then if ((v167 ++ ([UInt8.ofNat (Int.toNat (y173.toNat:Int))]:List UInt8)) ++ ([45]:List UInt8)).length+([UInt8.ofNat (Int.toNat (y177.toNat:Int))]:List UInt8).length≤4611686018427387904 then (Zer k self5 v166 v169 y173 y177 (((v167 ++ ([UInt8.ofNat (Int.toNat (y173.toNat:Int))]:List UInt8)) ++ ([45]:List UInt8)) ++ ([UInt8.ofNat (Int.toNat (y177.toNat:Int))]:List UInt8))) else none else none) ((Zer k self5 v166 v169 y173 y177 (v167 ++ ([UInt8.ofNat (Int.toNat (y173.toNat:Int))]:List UInt8)))))) else none) else none else none else none) ((if (90:Int)≠0 then (if ([91]:List UInt8).length+v167.length≤4611686018427387904 then if (([91]:List UInt8) ++ v167).length+([93]:List UInt8).length≤4611686018427387904 then (F27 k ((([91]:List UInt8) ++ v167) ++ ([93]:List UInt8))).bind fun y201=>(if ([91,94]:List UInt8).length+v167.length≤4611686018427387904 then if (([91,94]:List UInt8) ++ v167).length+([93]:List UInt8).length≤4611686018427387904 then (F27 k ((([91,94]:List UInt8) ++ v167) ++ ([93]:List UInt8))).bind fun y204=>((F26 k).bind fun y205=>cond y205 (cond (y201.2 == 0) (cond (y204.2 == 0) ((F31 k y201.1 ([UInt8.ofNat (Int.toNat (IntKind.wrap .u8 (w64 (33+(w64 (Int.tmod (IntKind.wrap .u64 v1) 90))))))]:List UInt8)).bind fun y209=>if (0:Int)≤(w64 (33+(w64 (Int.tmod (IntKind.wrap .u64 v1) 90))))∧(w64 (33+(w64 (Int.tmod (IntKind.wrap .u64 v1) 90))))<(v166.length:Int) then (idxL v166 (w64 (33+(w64 (Int.tmod (IntKind.wrap .u64 v1) 90))))).bind fun y211=>cond (y209 == y211) ((F31 k y204.1 ([UInt8.ofNat (Int.toNat (IntKind.wrap .u8 (w64 (33+(w64 (Int.tmod (IntKind.wrap .u64 v1) 90))))))]:List UInt8)).bind fun y213=>if (0:Int)≤(w64 (33+(w64 (Int.tmod (IntKind.wrap .u64 v1) 90))))∧(w64 (33+(w64 (Int.tmod (IntKind.wrap .u64 v1) 90))))<(v166.length:Int) then (idxL v166 (w64 (33+(w64 (Int.tmod (IntKind.wrap .u64 v1) 90))))).bind fun y215=>cond (!(y213 == y215)) ((F31 k y201.1 ([]:List UInt8)).bind fun y217=>cond (!y217) ((F31 k y204.1 ([]:List UInt8)).bind fun y219=>cond (!y219) (if ([UInt8.ofNat (Int.toNat (IntKind.wrap .u8 (w64 (33+(w64 (Int.tmod (IntKind.wrap .u64 v1) 90))))))]:List UInt8).length+([UInt8.ofNat (Int.toNat (IntKind.wrap .u8 (w64 (33+(w64 (Int.tmod (IntKind.wrap .u64 v1) 90))))))]:List UInt8).length≤4611686018427387904 then (F31 k y201.1 (([UInt8.ofNat (Int.toNat (IntKind.wrap .u8 (w64 (33+(w64 (Int.tmod (IntKind.wrap .u64 v1) 90))))))]:List UInt8) ++ ([UInt8.ofNat (Int.toNat (IntKind.wrap .u8 (w64 (33+(w64 (Int.tmod (IntKind.wrap .u64 v1) 90))))))]:List UInt8))).bind fun y222=>cond (!y222) ((F31 k y204.1 ([195,169]:List UInt8)).bind fun y224=>(Za6 y224)) ((Za6 false)) else none) ((Za6 false))) ((Za6 false))) ((Za6 false)) else none) ((Za6 false)) else none) ((Za6 false))) ((Za6 false))) ((Za6 false))) else none else none) else none else none) else none)))
def Zb2 (k:Nat) (v0:List Int) (v1:Int):Nat→(List Bool)→(List UInt8)→Int→Option Bool
  | 0,_,_,_=>none
  | m_+1,v166,v167,v169=>Zcz k (Zb2 k v0 v1 m_) v0 v1 v166 v167 v169
def Zde (k:Nat) (v0:List Int) (v1:Int) (v102:Bool):Option Bool:=
  cond v102 ((F26 k).bind fun y104=>(some y104)) ((((if (0:Int)≤128∧(128:Int)≤1073741824 then ((Zb2 k v0 v1 k (List.replicate (Int.toNat 128) false) ([]:List UInt8) 0)) else none))))
def F11 (k:Nat) (v0:List Int) (v1:Int):Option Bool:=
  (cond ((v0.length:Int) == 0) ((Zde k v0 v1 true)) ((Zde k v0 v1 (decide ((v0.length:Int) > 8)))))
theorem ZmA (k:Nat) (v0:List Int) (v1:Int) (r:Bool) (hF:F11 k v0 v1=some r):Sim Tryz.prog GL0 11 [one (.sl (v0.map (eInt .i64))),one (.int .i64 v1)] [] (one (.bool r)) []:=by
 refine ZC [] Tryz.func11 rfl kr kr ?_
 show WA _ _ 157 _ _ _
 refine WA.seq ?_
 refine WA.reg [0,1] [] [] (env':=[(0,one (.sl (v0.map (eInt .i64)))),(1,one (.int .i64 v1))]) (os':=[]) (O:=[]) kr (sound _ _) trivial ?_
 refine WA.seq ?_
 refine WA.join (fun s_=>∃(v102:Bool),Zi s_.env [0,1,26]=[(0,one (.sl (v0.map (eInt .i64)))),(1,one (.int .i64 v1)),(26,one (.bool v102))]∧Zi s_.os []=[]∧Zde k v0 v1 v102=some r) ?_ ?_
 {
 rintro s_ ⟨v102,he,ho,hF⟩
 refine WA.keep _ _ he ho ?_
 clear he ho
 refine WA.cond (b:=v102) rfl (fun hb103=>?_) (fun hb103=>?_)
 {
 have hF:=Zk hF hb103
 refine WA.seq ?_
 obtain ⟨y104,hy104,hF⟩:=bind_some hF
 refine WA.reg [4] [] [(0,.callR [] (one (.bool y104)))] (env':=[(4,one (.bool y104))]) (os':=[]) (O:=[Sim Tryz.prog GL0 26 [] [] (one (.bool y104)) [],([]:List Nat).Nodup]) kr (sound _ _) ⟨(Zbp k _ hy104),(by decide),trivial⟩ ?_
 refine WA.ret ?_
 obtain rfl:=Option.some.inj hF
 exact Zu (one (.bool y104)) [] kr kr kr kr (by decide) rfl rfl }
 {
 have hF:=Zj hF hb103
 refine WA.skip ?_
 refine WA.seq ?_
 refine WA.reg [0,1,5] [] [] (env':=[(0,one (.sl (v0.map (eInt .i64)))),(1,one (.int .i64 v1)),(5,one (.str ([48,49,50,51,52,53,54,55,56,57,65,66,67,68,69,70,71,72,73,74,75,76,77,78,79,80,81,82,83,84,85,86,87,88,89,90,97,98,99,100,101,102,103,104,105,106,107,108,109,110,111,112,113,114,115,116,117,118,119,120,121,122]:List UInt8)))]) (os':=[]) (O:=[]) kr (sound _ _) trivial ?_
 refine WA.seq ?_
 refine WA.reg [0,1,5,6] [] [] (env':=[(0,one (.sl (v0.map (eInt .i64)))),(1,one (.int .i64 v1)),(5,one (.str ([48,49,50,51,52,53,54,55,56,57,65,66,67,68,69,70,71,72,73,74,75,76,77,78,79,80,81,82,83,84,85,86,87,88,89,90,97,98,99,100,101,102,103,104,105,106,107,108,109,110,111,112,113,114,115,116,117,118,119,120,121,122]:List UInt8))),(6,one (.str ([]:List UInt8)))]) (os':=[]) (O:=[]) kr (sound _ _) trivial ?_
 refine WA.seq ?_
 obtain ⟨hc105,hF⟩:=Zl hF
 refine WA.rm (α:=(List (List PV))) (raw:=(List.replicate (Int.toNat 128) (Zv false))) (can:=((List.replicate (Int.toNat 128) false).map Zv)) (fun m_=>([(0,one (.sl (v0.map (eInt .i64)))),(1,one (.int .i64 v1)),(5,one (.str ([48,49,50,51,52,53,54,55,56,57,65,66,67,68,69,70,71,72,73,74,75,76,77,78,79,80,81,82,83,84,85,86,87,88,89,90,97,98,99,100,101,102,103,104,105,106,107,108,109,110,111,112,113,114,115,116,117,118,119,120,121,122]:List UInt8))),(6,one (.str ([]:List UInt8))),(7,.val false [.arr 128 (Int.toNat 128)])],[(128,.arr 1 m_)],[(128:Int)=128,(0:Int)≤128,(128:Int)≤1073741824])) (zm) [0,1,5,6,7] [128] [(0,.obj 128)] kr (sound _ _) ⟨rfl,hc105.1,hc105.2,trivial⟩ ?_
 refine WA.seq ?_
 refine WA.seq ?_
 refine WA.reg [0,1,5,6,7,8] [128] [] (env':=[(0,one (.sl (v0.map (eInt .i64)))),(1,one (.int .i64 v1)),(5,one (.str ([48,49,50,51,52,53,54,55,56,57,65,66,67,68,69,70,71,72,73,74,75,76,77,78,79,80,81,82,83,84,85,86,87,88,89,90,97,98,99,100,101,102,103,104,105,106,107,108,109,110,111,112,113,114,115,116,117,118,119,120,121,122]:List UInt8))),(6,one (.str ([]:List UInt8))),(7,.val false [.arr 128 (Int.toNat 128)]),(8,one (.int .i64 0))]) (os':=[(128,.arr 1 ((List.replicate (Int.toNat 128) false).map Zv))]) (O:=[]) kr (sound _ _) trivial ?_
 refine WA.block ?_
 refine WA.loop (fun m s_=>∃(v166:List Bool) (v167:List UInt8) (v168:Nat) (v169:Int),Zi s_.env [0,1,5,6,7,8]=[(0,one (.sl (v0.map (eInt .i64)))),(1,one (.int .i64 v1)),(5,one (.str ([48,49,50,51,52,53,54,55,56,57,65,66,67,68,69,70,71,72,73,74,75,76,77,78,79,80,81,82,83,84,85,86,87,88,89,90,97,98,99,100,101,102,103,104,105,106,107,108,109,110,111,112,113,114,115,116,117,118,119,120,121,122]:List UInt8))),(6,one (.str v167)),(7,.val false [.arr 128 v168]),(8,one (.int .i64 v169))]∧Zi s_.os [128]=[(128,.arr 1 (v166.map Zv))]∧v168=(v166:List _).length∧Zb2 k v0 v1 m v166 v167 v169=some r) k ⟨(List.replicate (Int.toNat 128) false),([]:List UInt8),(Int.toNat 128),0,kr,kr,zt,hF⟩ ?_
 clear hF
 rintro m5 s_ ⟨v166,v167,v168,v169,he,ho,hn_v168,hF⟩
 refine WA.keep _ _ he ho ?_
 clear he ho
 cases m5 with
 | zero=>cases hF
 | succ m5=>
  obtain ⟨self5,hself5⟩:∃g,g=Zb2 k v0 v1 m5:=⟨_,rfl⟩
  have hF:Zcz k self5 v0 v1 v166 v167 v169=some r:=by first | (rw [hself5];exact hF) | exact hF
  refine WA.seq ?_
  refine WA.seq ?_
  refine WA.rm (α:=Int) (raw:=((v0.map (eInt .i64)).length:Int)) (can:=(v0.length:Int)) (fun m_=>([(0,one (.sl (v0.map (eInt .i64)))),(1,one (.int .i64 v1)),(5,one (.str ([48,49,50,51,52,53,54,55,56,57,65,66,67,68,69,70,71,72,73,74,75,76,77,78,79,80,81,82,83,84,85,86,87,88,89,90,97,98,99,100,101,102,103,104,105,106,107,108,109,110,111,112,113,114,115,116,117,118,119,120,121,122]:List UInt8))),(6,one (.str v167)),(7,.val false [.arr 128 v168]),(8,one (.int .i64 v169)),(32,one (.bool (decide (v169<m_))))],[(128,.arr 1 (v166.map Zv))],[])) ((by first | (simp only [zl,Zf];done) | (simp only [zl,Zf];omega) | omega)) [0,1,5,6,7,8,32] [128] [] kr (sound _ _) trivial ?_
  refine WA.cond (b:=(decide (v169<(v0.length:Int)))) rfl (fun hb170=>?_) (fun hb170=>?_)
  {
 have hF:=Zk hF hb170
 refine WA.skip ?_
 refine WA.seq ?_
 refine WA.block ?_
 refine WA.seq ?_
 obtain ⟨y171,hy171,hF⟩:=bind_some hF
 obtain ⟨hc172,hF⟩:=Zl hF
 refine WA.reg [0,1,5,6,7,8,9] [128] [(2,.cells [.int .i64 y171])] (env':=[(0,one (.sl (v0.map (eInt .i64)))),(1,one (.int .i64 v1)),(5,one (.str ([48,49,50,51,52,53,54,55,56,57,65,66,67,68,69,70,71,72,73,74,75,76,77,78,79,80,81,82,83,84,85,86,87,88,89,90,97,98,99,100,101,102,103,104,105,106,107,108,109,110,111,112,113,114,115,116,117,118,119,120,121,122]:List UInt8))),(6,one (.str v167)),(7,.val false [.arr 128 v168]),(8,one (.int .i64 v169)),(9,one (.int .i64 (w64 (Int.tmod (IntKind.wrap .u64 y171) 62))))]) (os':=[(128,.arr 1 (v166.map Zv))]) (O:=[idxL (v0.map (eInt .i64)) v169=some [.int .i64 y171],(62:Int)≠0]) kr (sound _ _) ⟨(Zp _ hy171),hc172,trivial⟩ ?_
 refine WA.seq ?_
 obtain ⟨y173,hy173,hF⟩:=bind_some hF
 refine WA.reg [0,1,5,6,7,8,9,10] [128] [(2,.num (y173.toNat:Int))] (env':=[(0,one (.sl (v0.map (eInt .i64)))),(1,one (.int .i64 v1)),(5,one (.str ([48,49,50,51,52,53,54,55,56,57,65,66,67,68,69,70,71,72,73,74,75,76,77,78,79,80,81,82,83,84,85,86,87,88,89,90,97,98,99,100,101,102,103,104,105,106,107,108,109,110,111,112,113,114,115,116,117,118,119,120,121,122]:List UInt8))),(6,one (.str v167)),(7,.val false [.arr 128 v168]),(8,one (.int .i64 v169)),(9,one (.int .i64 (w64 (Int.tmod (IntKind.wrap .u64 y171) 62)))),(10,one (.int .u8 (y173.toNat:Int)))]) (os':=[(128,.arr 1 (v166.map Zv))]) (O:=[(idxL ([48,49,50,51,52,53,54,55,56,57,65,66,67,68,69,70,71,72,73,74,75,76,77,78,79,80,81,82,83,84,85,86,87,88,89,90,97,98,99,100,101,102,103,104,105,106,107,108,109,110,111,112,113,114,115,116,117,118,119,120,121,122]:List UInt8) (w64 (Int.tmod (IntKind.wrap .u64 y171) 62))).map (fun b=>(b.toNat:Int))=some (y173.toNat:Int)]) kr (sound _ _) ⟨(by rw [hy173];rfl),trivial⟩ ?_
 refine WA.seq ?_
 obtain ⟨y174,hy174,hF⟩:=bind_some hF
 obtain ⟨hc175,hF⟩:=Zl hF
 obtain ⟨hc176,hF⟩:=Zl hF
 obtain ⟨y177,hy177,hF⟩:=bind_some hF
 refine WA.reg [0,1,5,6,7,8,10,11] [128] [(4,.cells [.int .i64 y174]),(12,.num (y177.toNat:Int))] (env':=[(0,one (.sl (v0.map (eInt .i64)))),(1,one (.int .i64 v1)),(5,one (.str ([48,49,50,51,52,53,54,55,56,57,65,66,67,68,69,70,71,72,73,74,75,76,77,78,79,80,81,82,83,84,85,86,87,88,89,90,97,98,99,100,101,102,103,104,105,106,107,108,109,110,111,112,113,114,115,116,117,118,119,120,121,122]:List UInt8))),(6,one (.str v167)),(7,.val false [.arr 128 v168]),(8,one (.int .i64 v169)),(10,one (.int .u8 (y173.toNat:Int))),(11,one (.int .u8 (y177.toNat:Int)))]) (os':=[(128,.arr 1 (v166.map Zv))]) (O:=[idxL (v0.map (eInt .i64)) v169=some [.int .i64 y174],(62:Int)≠0,(4:Int)≠0,(idxL ([48,49,50,51,52,53,54,55,56,57,65,66,67,68,69,70,71,72,73,74,75,76,77,78,79,80,81,82,83,84,85,86,87,88,89,90,97,98,99,100,101,102,103,104,105,106,107,108,109,110,111,112,113,114,115,116,117,118,119,120,121,122]:List UInt8) (mn 61 (w64 ((w64 (Int.tmod (IntKind.wrap .u64 y171) 62))+(w64 (Int.tmod (IntKind.wrap .u64 (w64 (Int.tdiv y174 62))) 4)))))).map (fun b=>(b.toNat:Int))=some (y177.toNat:Int)]) kr (sound _ _) ⟨(Zp _ hy174),hc175,hc176,(by rw [hy177];rfl),trivial⟩ ?_
 refine WA.seq ?_
 obtain ⟨hc178,hF⟩:=Zl hF
 refine WA.reg [0,1,5,6,7,8,10,11] [128] [] (env':=[(0,one (.sl (v0.map (eInt .i64)))),(1,one (.int .i64 v1)),(5,one (.str ([48,49,50,51,52,53,54,55,56,57,65,66,67,68,69,70,71,72,73,74,75,76,77,78,79,80,81,82,83,84,85,86,87,88,89,90,97,98,99,100,101,102,103,104,105,106,107,108,109,110,111,112,113,114,115,116,117,118,119,120,121,122]:List UInt8))),(6,one (.str (v167 ++ ([UInt8.ofNat (Int.toNat (y173.toNat:Int))]:List UInt8)))),(7,.val false [.arr 128 v168]),(8,one (.int .i64 v169)),(10,one (.int .u8 (y173.toNat:Int))),(11,one (.int .u8 (y177.toNat:Int)))]) (os':=[(128,.arr 1 (v166.map Zv))]) (O:=[v167.length+([UInt8.ofNat (Int.toNat (y173.toNat:Int))]:List UInt8).length≤4611686018427387904]) kr (sound _ _) ⟨hc178,trivial⟩ ?_
 refine WA.join (fun s_=>∃(v182:List UInt8),Zi s_.env [0,1,5,6,7,8,10,11]=[(0,one (.sl (v0.map (eInt .i64)))),(1,one (.int .i64 v1)),(5,one (.str ([48,49,50,51,52,53,54,55,56,57,65,66,67,68,69,70,71,72,73,74,75,76,77,78,79,80,81,82,83,84,85,86,87,88,89,90,97,98,99,100,101,102,103,104,105,106,107,108,109,110,111,112,113,114,115,116,117,118,119,120,121,122]:List UInt8))),(6,one (.str v182)),(7,.val false [.arr 128 v168]),(8,one (.int .i64 v169)),(10,one (.int .u8 (y173.toNat:Int))),(11,one (.int .u8 (y177.toNat:Int)))]∧Zi s_.os [128]=[(128,.arr 1 (v166.map Zv))]∧Zer k self5 v166 v169 y173 y177 v182=some r) ?_ ?_
 {
 rintro s_ ⟨v182,he,ho,hF⟩
 refine WA.keep _ _ he ho ?_
 clear he ho
 refine WA.seq ?_
 refine WA.reg [0,1,5,6,7,8,11,12] [128] [] (env':=[(0,one (.sl (v0.map (eInt .i64)))),(1,one (.int .i64 v1)),(5,one (.str ([48,49,50,51,52,53,54,55,56,57,65,66,67,68,69,70,71,72,73,74,75,76,77,78,79,80,81,82,83,84,85,86,87,88,89,90,97,98,99,100,101,102,103,104,105,106,107,108,109,110,111,112,113,114,115,116,117,118,119,120,121,122]:List UInt8))),(6,one (.str v182)),(7,.val false [.arr 128 v168]),(8,one (.int .i64 v169)),(11,one (.int .u8 (y177.toNat:Int))),(12,one (.int .i64 (w64 (y173.toNat:Int))))]) (os':=[(128,.arr 1 (v166.map Zv))]) (O:=[]) kr (sound _ _) trivial ?_
 refine WA.block ?_
 refine WA.loop (fun m s_=>∃(v192:List Bool) (v193:Nat) (v194:Int),Zi s_.env [0,1,5,6,7,8,11,12]=[(0,one (.sl (v0.map (eInt .i64)))),(1,one (.int .i64 v1)),(5,one (.str ([48,49,50,51,52,53,54,55,56,57,65,66,67,68,69,70,71,72,73,74,75,76,77,78,79,80,81,82,83,84,85,86,87,88,89,90,97,98,99,100,101,102,103,104,105,106,107,108,109,110,111,112,113,114,115,116,117,118,119,120,121,122]:List UInt8))),(6,one (.str v182)),(7,.val false [.arr 128 v193]),(8,one (.int .i64 v169)),(11,one (.int .u8 (y177.toNat:Int))),(12,one (.int .i64 v194))]∧Zi s_.os [128]=[(128,.arr 1 (v192.map Zv))]∧v193=(v192:List _).length∧Zdf self5 v169 y177 v182 m v192 v194=some r) k ⟨v166,v168,(w64 (y173.toNat:Int)),kr,kr,zt,hF⟩ ?_
 clear hF
 rintro m7 s_ ⟨v192,v193,v194,he,ho,hn_v193,hF⟩
 refine WA.keep _ _ he ho ?_
 clear he ho
 cases m7 with
 | zero=>cases hF
 | succ m7=>
  obtain ⟨self7,hself7⟩:∃g,g=Zdf self5 v169 y177 v182 m7:=⟨_,rfl⟩
  have hF:Zf1 self5 self7 v169 y177 v182 v192 v194=some r:=by first | (rw [hself7];exact hF) | exact hF
  refine WA.seq ?_
  refine WA.seq ?_
  refine WA.reg [0,1,5,6,7,8,11,12,77] [128] [] (env':=[(0,one (.sl (v0.map (eInt .i64)))),(1,one (.int .i64 v1)),(5,one (.str ([48,49,50,51,52,53,54,55,56,57,65,66,67,68,69,70,71,72,73,74,75,76,77,78,79,80,81,82,83,84,85,86,87,88,89,90,97,98,99,100,101,102,103,104,105,106,107,108,109,110,111,112,113,114,115,116,117,118,119,120,121,122]:List UInt8))),(6,one (.str v182)),(7,.val false [.arr 128 v193]),(8,one (.int .i64 v169)),(11,one (.int .u8 (y177.toNat:Int))),(12,one (.int .i64 v194)),(77,one (.bool (decide (v194≤(w64 (y177.toNat:Int))))))]) (os':=[(128,.arr 1 (v192.map Zv))]) (O:=[]) kr (sound _ _) trivial ?_
  refine WA.cond (b:=(decide (v194≤(w64 (y177.toNat:Int))))) rfl (fun hb195=>?_) (fun hb195=>?_)
  {
 have hF:=Zk hF hb195
 refine WA.skip ?_
 refine WA.seq ?_
 refine WA.block ?_
 obtain ⟨hc196,hF⟩:=Zl hF
 obtain ⟨y197,hy197,hF⟩:=bind_some hF
 refine WA.rm (α:=(List (List PV))) (raw:=((v192.map Zv).set (Int.toNat v194) (Zv true))) (can:=((v192.set (Int.toNat v194) true).map Zv)) (fun m_=>([(0,one (.sl (v0.map (eInt .i64)))),(1,one (.int .i64 v1)),(5,one (.str ([48,49,50,51,52,53,54,55,56,57,65,66,67,68,69,70,71,72,73,74,75,76,77,78,79,80,81,82,83,84,85,86,87,88,89,90,97,98,99,100,101,102,103,104,105,106,107,108,109,110,111,112,113,114,115,116,117,118,119,120,121,122]:List UInt8))),(6,one (.str v182)),(7,.val false [.arr 128 v193]),(8,one (.int .i64 v169)),(11,one (.int .u8 (y177.toNat:Int))),(12,one (.int .i64 v194))],[(128,.arr 1 m_)],[v193=(v192.map Zv).length,(0:Int)≤v194,v194<((v193:Nat):Int),v193=(v192.map Zv).length,(v192.map Zv)[Int.toNat v194]?=some [.bool y197]])) (zm) [0,1,5,6,7,8,11,12] [128] [(3,.cells [.bool y197])] kr (sound _ _) ⟨zt,hc196.1,(by have h_:=hc196.2;(try simp only [zl,Zf] at h_ ⊢);omega),zt,(Zo (Zp _ hy197)),trivial⟩ ?_
 refine WA.reg [0,1,5,6,7,8,11,12] [128] [] (env':=[(0,one (.sl (v0.map (eInt .i64)))),(1,one (.int .i64 v1)),(5,one (.str ([48,49,50,51,52,53,54,55,56,57,65,66,67,68,69,70,71,72,73,74,75,76,77,78,79,80,81,82,83,84,85,86,87,88,89,90,97,98,99,100,101,102,103,104,105,106,107,108,109,110,111,112,113,114,115,116,117,118,119,120,121,122]:List UInt8))),(6,one (.str v182)),(7,.val false [.arr 128 v193]),(8,one (.int .i64 v169)),(11,one (.int .u8 (y177.toNat:Int))),(12,one (.int .i64 (w64 (v194+1))))]) (os':=[(128,.arr 1 ((v192.set (Int.toNat v194) true).map Zv))]) (O:=[]) kr (sound _ _) trivial ?_
 exact ⟨m7,Nat.lt_succ_self _,(v192.set (Int.toNat v194) true),v193,(w64 (v194+1)),kr,kr,zt,by rw [hself7] at hF;exact hF⟩ }
  {
 have hF:=Zj hF hb195
 refine WA.exit ?_
 refine WA.reg [0,1,5,6,7,8] [128] [] (env':=[(0,one (.sl (v0.map (eInt .i64)))),(1,one (.int .i64 v1)),(5,one (.str ([48,49,50,51,52,53,54,55,56,57,65,66,67,68,69,70,71,72,73,74,75,76,77,78,79,80,81,82,83,84,85,86,87,88,89,90,97,98,99,100,101,102,103,104,105,106,107,108,109,110,111,112,113,114,115,116,117,118,119,120,121,122]:List UInt8))),(6,one (.str v182)),(7,.val false [.arr 128 v193]),(8,one (.int .i64 (w64 (v169+1))))]) (os':=[(128,.arr 1 (v192.map Zv))]) (O:=[]) kr (sound _ _) trivial ?_
 exact ⟨m5,Nat.lt_succ_self _,v192,v182,v193,(w64 (v169+1)),kr,kr,zt,by rw [hself5] at hF;exact hF⟩ } }
 {
 refine WA.seq ?_
 refine WA.reg [0,1,5,6,7,8,10,11,65] [128] [] (env':=[(0,one (.sl (v0.map (eInt .i64)))),(1,one (.int .i64 v1)),(5,one (.str ([48,49,50,51,52,53,54,55,56,57,65,66,67,68,69,70,71,72,73,74,75,76,77,78,79,80,81,82,83,84,85,86,87,88,89,90,97,98,99,100,101,102,103,104,105,106,107,108,109,110,111,112,113,114,115,116,117,118,119,120,121,122]:List UInt8))),(6,one (.str (v167 ++ ([UInt8.ofNat (Int.toNat (y173.toNat:Int))]:List UInt8)))),(7,.val false [.arr 128 v168]),(8,one (.int .i64 v169)),(10,one (.int .u8 (y173.toNat:Int))),(11,one (.int .u8 (y177.toNat:Int))),(65,one (.bool (decide ((y177.toNat:Int) > (y173.toNat:Int)))))]) (os':=[(128,.arr 1 (v166.map Zv))]) (O:=[]) kr (sound _ _) trivial ?_
 refine WA.cond (b:=(decide ((y177.toNat:Int) > (y173.toNat:Int)))) rfl (fun hb179=>?_) (fun hb179=>?_)
 {
 have hF:=Zk hF hb179
 obtain ⟨hc180,hF⟩:=Zl hF
 obtain ⟨hc181,hF⟩:=Zl hF
 refine WA.reg [0,1,5,6,7,8,10,11] [128] [] (env':=[(0,one (.sl (v0.map (eInt .i64)))),(1,one (.int .i64 v1)),(5,one (.str ([48,49,50,51,52,53,54,55,56,57,65,66,67,68,69,70,71,72,73,74,75,76,77,78,79,80,81,82,83,84,85,86,87,88,89,90,97,98,99,100,101,102,103,104,105,106,107,108,109,110,111,112,113,114,115,116,117,118,119,120,121,122]:List UInt8))),(6,one (.str (((v167 ++ ([UInt8.ofNat (Int.toNat (y173.toNat:Int))]:List UInt8)) ++ ([45]:List UInt8)) ++ ([UInt8.ofNat (Int.toNat (y177.toNat:Int))]:List UInt8)))),(7,.val false [.arr 128 v168]),(8,one (.int .i64 v169)),(10,one (.int .u8 (y173.toNat:Int))),(11,one (.int .u8 (y177.toNat:Int)))]) (os':=[(128,.arr 1 (v166.map Zv))]) (O:=[(v167 ++ ([UInt8.ofNat (Int.toNat (y173.toNat:Int))]:List UInt8)).length+([45]:List UInt8).length≤4611686018427387904,((v167 ++ ([UInt8.ofNat (Int.toNat (y173.toNat:Int))]:List UInt8)) ++ ([45]:List UInt8)).length+([UInt8.ofNat (Int.toNat (y177.toNat:Int))]:List UInt8).length≤4611686018427387904]) kr (sound _ _) ⟨hc180,hc181,trivial⟩ ?_
 exact ⟨(((v167 ++ ([UInt8.ofNat (Int.toNat (y173.toNat:Int))]:List UInt8)) ++ ([45]:List UInt8)) ++ ([UInt8.ofNat (Int.toNat (y177.toNat:Int))]:List UInt8)),kr,kr,hF⟩ }
 {
 have hF:=Zj hF hb179
 refine WA.skip ?_
 exact ⟨(v167 ++ ([UInt8.ofNat (Int.toNat (y173.toNat:Int))]:List UInt8)),kr,kr,hF⟩ } } }
  {
 have hF:=Zj hF hb170
 refine WA.exit ?_
 refine WA.seq ?_
 obtain ⟨hc198,hF⟩:=Zl hF
 refine WA.reg [6,7,13] [128] [] (env':=[(6,one (.str v167)),(7,.val false [.arr 128 v168]),(13,one (.int .i64 (w64 (33+(w64 (Int.tmod (IntKind.wrap .u64 v1) 90))))))]) (os':=[(128,.arr 1 (v166.map Zv))]) (O:=[(90:Int)≠0]) kr (sound _ _) ⟨hc198,trivial⟩ ?_
 refine WA.seq ?_
 obtain ⟨hc199,hF⟩:=Zl hF
 obtain ⟨hc200,hF⟩:=Zl hF
 obtain ⟨y201,hy201,hF⟩:=bind_some hF
 refine WA.reg [6,7,13,14,15] [114,128] [(3,.callR [] (.tup [(true,pvL (Zd y201.1)),(false,[.pv (.int .i64 y201.2)])])),(7,.obj 114)] (env':=[(6,one (.str v167)),(7,.val false [.arr 128 v168]),(13,one (.int .i64 (w64 (33+(w64 (Int.tmod (IntKind.wrap .u64 v1) 90)))))),(14,.val false [.ptr 114 1 0 0]),(15,one (.int .i64 y201.2))]) (os':=[(114,.box (pvL (Zd y201.1))),(128,.arr 1 (v166.map Zv))]) (O:=[([91]:List UInt8).length+v167.length≤4611686018427387904,(([91]:List UInt8) ++ v167).length+([93]:List UInt8).length≤4611686018427387904,Sim Tryz.prog GL0 27 [one (.str ((([91]:List UInt8) ++ v167) ++ ([93]:List UInt8)))] [] (.tup [(true,pvL (Zd y201.1)),(false,[.pv (.int .i64 y201.2)])]) [],([]:List Nat).Nodup]) kr (sound _ _) ⟨hc199,hc200,(Zes k _ _ hy201),(by decide),trivial⟩ ?_
 refine WA.seq ?_
 obtain ⟨hc202,hF⟩:=Zl hF
 obtain ⟨hc203,hF⟩:=Zl hF
 obtain ⟨y204,hy204,hF⟩:=bind_some hF
 refine WA.reg [7,13,14,15,16,17] [114,116,128] [(3,.callR [] (.tup [(true,pvL (Zd y204.1)),(false,[.pv (.int .i64 y204.2)])])),(7,.obj 116)] (env':=[(7,.val false [.arr 128 v168]),(13,one (.int .i64 (w64 (33+(w64 (Int.tmod (IntKind.wrap .u64 v1) 90)))))),(14,.val false [.ptr 114 1 0 0]),(15,one (.int .i64 y201.2)),(16,.val false [.ptr 116 1 0 0]),(17,one (.int .i64 y204.2))]) (os':=[(114,.box (pvL (Zd y201.1))),(116,.box (pvL (Zd y204.1))),(128,.arr 1 (v166.map Zv))]) (O:=[([91,94]:List UInt8).length+v167.length≤4611686018427387904,(([91,94]:List UInt8) ++ v167).length+([93]:List UInt8).length≤4611686018427387904,Sim Tryz.prog GL0 27 [one (.str ((([91,94]:List UInt8) ++ v167) ++ ([93]:List UInt8)))] [] (.tup [(true,pvL (Zd y204.1)),(false,[.pv (.int .i64 y204.2)])]) [],([]:List Nat).Nodup]) kr (sound _ _) ⟨hc202,hc203,(Zes k _ _ hy204),(by decide),trivial⟩ ?_
 refine WA.seq ?_
 refine WA.reg [7,13,14,15,16,17,18] [114,116,128] [] (env':=[(7,.val false [.arr 128 v168]),(13,one (.int .i64 (w64 (33+(w64 (Int.tmod (IntKind.wrap .u64 v1) 90)))))),(14,.val false [.ptr 114 1 0 0]),(15,one (.int .i64 y201.2)),(16,.val false [.ptr 116 1 0 0]),(17,one (.int .i64 y204.2)),(18,one (.str ([UInt8.ofNat (Int.toNat (IntKind.wrap .u8 (w64 (33+(w64 (Int.tmod (IntKind.wrap .u64 v1) 90))))))]:List UInt8)))]) (os':=[(114,.box (pvL (Zd y201.1))),(116,.box (pvL (Zd y204.1))),(128,.arr 1 (v166.map Zv))]) (O:=[]) kr (sound _ _) trivial ?_
 refine WA.join (fun s_=>∃(v225:Bool),Zi s_.env [4]=[(4,one (.bool v225))]∧Zi s_.os []=[]∧Za6 v225=some r) ?_ ?_
 {
 rintro s_ ⟨v225,he,ho,hF⟩
 refine WA.keep _ _ he ho ?_
 clear he ho
 refine WA.ret ?_
 obtain rfl:=Option.some.inj hF
 exact Zu (one (.bool v225)) [] kr kr kr kr (by decide) rfl rfl }
 {
 obtain ⟨y205,hy205,hF⟩:=bind_some hF
 rcases Bool.eq_false_or_eq_true y205 with hb206 | hb206
 {
 have hF:=Zk hF hb206
 rcases Bool.eq_false_or_eq_true (y201.2 == 0) with hb207 | hb207
 {
 have hF:=Zk hF hb207
 rcases Bool.eq_false_or_eq_true (y204.2 == 0) with hb208 | hb208
 {
 have hF:=Zk hF hb208
 obtain ⟨y209,hy209,hF⟩:=bind_some hF
 obtain ⟨hc210,hF⟩:=Zl hF
 obtain ⟨y211,hy211,hF⟩:=bind_some hF
 rcases Bool.eq_false_or_eq_true (y209 == y211) with hb212 | hb212
 {
 have hF:=Zk hF hb212
 obtain ⟨y213,hy213,hF⟩:=bind_some hF
 obtain ⟨hc214,hF⟩:=Zl hF
 obtain ⟨y215,hy215,hF⟩:=bind_some hF
 rcases Bool.eq_false_or_eq_true (!(y213 == y215)) with hb216 | hb216
 {
 have hF:=Zk hF hb216
 obtain ⟨y217,hy217,hF⟩:=bind_some hF
 rcases Bool.eq_false_or_eq_true (!y217) with hb218 | hb218
 {
 have hF:=Zk hF hb218
 obtain ⟨y219,hy219,hF⟩:=bind_some hF
 rcases Bool.eq_false_or_eq_true (!y219) with hb220 | hb220
 {
 have hF:=Zk hF hb220
 obtain ⟨hc221,hF⟩:=Zl hF
 obtain ⟨y222,hy222,hF⟩:=bind_some hF
 rcases Bool.eq_false_or_eq_true (!y222) with hb223 | hb223
 {
 have hF:=Zk hF hb223
 obtain ⟨y224,hy224,hF⟩:=bind_some hF
 have z0:(w64 (33+(w64 (Int.tmod (IntKind.wrap .u64 v1) 90))))<((v168:Nat):Int):=(by have h_:=hc210.2;(try simp only [zl,Zf] at h_ ⊢);omega)
 refine WA.regD kr [4] [] [(0,.callR [] (one (.bool y205))),(1,.bool true),(5,.bool true),(9,.bool true),(12,.callR [] (one (.bool y209))),(16,.cells [.bool y211]),(19,.bool true),(22,.callR [] (one (.bool y213))),(26,.cells [.bool y215]),(29,.bool true),(31,.callR [] (one (.bool y217))),(34,.bool true),(36,.callR [] (one (.bool y219))),(39,.bool true),(44,.callR [] (one (.bool y222))),(47,.bool true),(49,.callR [] (one (.bool y224)))] (env':=[(4,one (.bool y224))]) (os':=[]) (O:=[Sim Tryz.prog GL0 26 [] [] (one (.bool y205)) [],([]:List Nat).Nodup,y205=true,(y201.2 == 0)=true,(y204.2 == 0)=true,Sim Tryz.prog GL0 31 [.val true (pvL (Zd y201.1)),one (.str ([UInt8.ofNat (Int.toNat (IntKind.wrap .u8 (w64 (33+(w64 (Int.tmod (IntKind.wrap .u64 v1) 90))))))]:List UInt8))] [] (one (.bool y209)) [],([]:List Nat).Nodup,v168=(v166.map Zv).length,(0:Int)≤(w64 (33+(w64 (Int.tmod (IntKind.wrap .u64 v1) 90)))),(w64 (33+(w64 (Int.tmod (IntKind.wrap .u64 v1) 90))))<((v168:Nat):Int),v168=(v166.map Zv).length,(v166.map Zv)[Int.toNat (w64 (33+(w64 (Int.tmod (IntKind.wrap .u64 v1) 90))))]?=some [.bool y211],(y209 == y211)=true,Sim Tryz.prog GL0 31 [.val true (pvL (Zd y204.1)),one (.str ([UInt8.ofNat (Int.toNat (IntKind.wrap .u8 (w64 (33+(w64 (Int.tmod (IntKind.wrap .u64 v1) 90))))))]:List UInt8))] [] (one (.bool y213)) [],([]:List Nat).Nodup,v168=(v166.map Zv).length,(0:Int)≤(w64 (33+(w64 (Int.tmod (IntKind.wrap .u64 v1) 90)))),(w64 (33+(w64 (Int.tmod (IntKind.wrap .u64 v1) 90))))<((v168:Nat):Int),v168=(v166.map Zv).length,(v166.map Zv)[Int.toNat (w64 (33+(w64 (Int.tmod (IntKind.wrap .u64 v1) 90))))]?=some [.bool y215],(!(y213 == y215))=true,Sim Tryz.prog GL0 31 [.val true (pvL (Zd y201.1)),one (.str ([]:List UInt8))] [] (one (.bool y217)) [],([]:List Nat).Nodup,(!y217)=true,Sim Tryz.prog GL0 31 [.val true (pvL (Zd y204.1)),one (.str ([]:List UInt8))] [] (one (.bool y219)) [],([]:List Nat).Nodup,(!y219)=true,([UInt8.ofNat (Int.toNat (IntKind.wrap .u8 (w64 (33+(w64 (Int.tmod (IntKind.wrap .u64 v1) 90))))))]:List UInt8).length+([UInt8.ofNat (Int.toNat (IntKind.wrap .u8 (w64 (33+(w64 (Int.tmod (IntKind.wrap .u64 v1) 90))))))]:List UInt8).length≤4611686018427387904,Sim Tryz.prog GL0 31 [.val true (pvL (Zd y201.1)),one (.str (([UInt8.ofNat (Int.toNat (IntKind.wrap .u8 (w64 (33+(w64 (Int.tmod (IntKind.wrap .u64 v1) 90))))))]:List UInt8) ++ ([UInt8.ofNat (Int.toNat (IntKind.wrap .u8 (w64 (33+(w64 (Int.tmod (IntKind.wrap .u64 v1) 90))))))]:List UInt8)))] [] (one (.bool y222)) [],([]:List Nat).Nodup,(!y222)=true,Sim Tryz.prog GL0 31 [.val true (pvL (Zd y204.1)),one (.str ([195,169]:List UInt8))] [] (one (.bool y224)) [],([]:List Nat).Nodup]) kr kr (sound _ _) ⟨(Zbp k _ hy205),(by decide),hb206,hb207,hb208,(ZJ k _ _ _ hy209),(by decide),zt,hc210.1,z0,zt,(Zo (Zp _ hy211)),hb212,(ZJ k _ _ _ hy213),(by decide),zt,hc214.1,z0,zt,(Zo (Zp _ hy215)),hb216,(ZJ k _ _ _ hy217),(by decide),hb218,(ZJ k _ _ _ hy219),(by decide),hb220,hc221,(ZJ k _ _ _ hy222),(by decide),hb223,(ZJ k _ _ _ hy224),(by decide),trivial⟩ ?_
 exact ⟨y224,kr,kr,hF⟩ }
 {
 have hF:=Zj hF hb223
 have z0:(w64 (33+(w64 (Int.tmod (IntKind.wrap .u64 v1) 90))))<((v168:Nat):Int):=(by have h_:=hc210.2;(try simp only [zl,Zf] at h_ ⊢);omega)
 refine WA.regD kr [4] [] [(0,.callR [] (one (.bool y205))),(1,.bool true),(5,.bool true),(9,.bool true),(12,.callR [] (one (.bool y209))),(16,.cells [.bool y211]),(19,.bool true),(22,.callR [] (one (.bool y213))),(26,.cells [.bool y215]),(29,.bool true),(31,.callR [] (one (.bool y217))),(34,.bool true),(36,.callR [] (one (.bool y219))),(39,.bool true),(44,.callR [] (one (.bool y222))),(47,.bool false),(49,.callR [] (.tup []))] (env':=[(4,one (.bool false))]) (os':=[]) (O:=[Sim Tryz.prog GL0 26 [] [] (one (.bool y205)) [],([]:List Nat).Nodup,y205=true,(y201.2 == 0)=true,(y204.2 == 0)=true,Sim Tryz.prog GL0 31 [.val true (pvL (Zd y201.1)),one (.str ([UInt8.ofNat (Int.toNat (IntKind.wrap .u8 (w64 (33+(w64 (Int.tmod (IntKind.wrap .u64 v1) 90))))))]:List UInt8))] [] (one (.bool y209)) [],([]:List Nat).Nodup,v168=(v166.map Zv).length,(0:Int)≤(w64 (33+(w64 (Int.tmod (IntKind.wrap .u64 v1) 90)))),(w64 (33+(w64 (Int.tmod (IntKind.wrap .u64 v1) 90))))<((v168:Nat):Int),v168=(v166.map Zv).length,(v166.map Zv)[Int.toNat (w64 (33+(w64 (Int.tmod (IntKind.wrap .u64 v1) 90))))]?=some [.bool y211],(y209 == y211)=true,Sim Tryz.prog GL0 31 [.val true (pvL (Zd y204.1)),one (.str ([UInt8.ofNat (Int.toNat (IntKind.wrap .u8 (w64 (33+(w64 (Int.tmod (IntKind.wrap .u64 v1) 90))))))]:List UInt8))] [] (one (.bool y213)) [],([]:List Nat).Nodup,v168=(v166.map Zv).length,(0:Int)≤(w64 (33+(w64 (Int.tmod (IntKind.wrap .u64 v1) 90)))),(w64 (33+(w64 (Int.tmod (IntKind.wrap .u64 v1) 90))))<((v168:Nat):Int),v168=(v166.map Zv).length,(v166.map Zv)[Int.toNat (w64 (33+(w64 (Int.tmod (IntKind.wrap .u64 v1) 90))))]?=some [.bool y215],(!(y213 == y215))=true,Sim Tryz.prog GL0 31 [.val true (pvL (Zd y201.1)),one (.str ([]:List UInt8))] [] (one (.bool y217)) [],([]:List Nat).Nodup,(!y217)=true,Sim Tryz.prog GL0 31 [.val true (pvL (Zd y204.1)),one (.str ([]:List UInt8))] [] (one (.bool y219)) [],([]:List Nat).Nodup,(!y219)=true,([UInt8.ofNat (Int.toNat (IntKind.wrap .u8 (w64 (33+(w64 (Int.tmod (IntKind.wrap .u64 v1) 90))))))]:List UInt8).length+([UInt8.ofNat (Int.toNat (IntKind.wrap .u8 (w64 (33+(w64 (Int.tmod (IntKind.wrap .u64 v1) 90))))))]:List UInt8).length≤4611686018427387904,Sim Tryz.prog GL0 31 [.val true (pvL (Zd y201.1)),one (.str (([UInt8.ofNat (Int.toNat (IntKind.wrap .u8 (w64 (33+(w64 (Int.tmod (IntKind.wrap .u64 v1) 90))))))]:List UInt8) ++ ([UInt8.ofNat (Int.toNat (IntKind.wrap .u8 (w64 (33+(w64 (Int.tmod (IntKind.wrap .u64 v1) 90))))))]:List UInt8)))] [] (one (.bool y222)) [],([]:List Nat).Nodup,(!y222)=false]) kr kr (sound _ _) ⟨(Zbp k _ hy205),(by decide),hb206,hb207,hb208,(ZJ k _ _ _ hy209),(by decide),zt,hc210.1,z0,zt,(Zo (Zp _ hy211)),hb212,(ZJ k _ _ _ hy213),(by decide),zt,hc214.1,z0,zt,(Zo (Zp _ hy215)),hb216,(ZJ k _ _ _ hy217),(by decide),hb218,(ZJ k _ _ _ hy219),(by decide),hb220,hc221,(ZJ k _ _ _ hy222),(by decide),hb223,trivial⟩ ?_
 exact ⟨false,kr,kr,hF⟩ } }
 {
 have hF:=Zj hF hb220
 have z0:(w64 (33+(w64 (Int.tmod (IntKind.wrap .u64 v1) 90))))<((v168:Nat):Int):=(by have h_:=hc210.2;(try simp only [zl,Zf] at h_ ⊢);omega)
 refine WA.regD kr [4] [] [(0,.callR [] (one (.bool y205))),(1,.bool true),(5,.bool true),(9,.bool true),(12,.callR [] (one (.bool y209))),(16,.cells [.bool y211]),(19,.bool true),(22,.callR [] (one (.bool y213))),(26,.cells [.bool y215]),(29,.bool true),(31,.callR [] (one (.bool y217))),(34,.bool true),(36,.callR [] (one (.bool y219))),(39,.bool false),(44,.callR [] (.tup [])),(49,.callR [] (.tup []))] (env':=[(4,one (.bool false))]) (os':=[]) (O:=[Sim Tryz.prog GL0 26 [] [] (one (.bool y205)) [],([]:List Nat).Nodup,y205=true,(y201.2 == 0)=true,(y204.2 == 0)=true,Sim Tryz.prog GL0 31 [.val true (pvL (Zd y201.1)),one (.str ([UInt8.ofNat (Int.toNat (IntKind.wrap .u8 (w64 (33+(w64 (Int.tmod (IntKind.wrap .u64 v1) 90))))))]:List UInt8))] [] (one (.bool y209)) [],([]:List Nat).Nodup,v168=(v166.map Zv).length,(0:Int)≤(w64 (33+(w64 (Int.tmod (IntKind.wrap .u64 v1) 90)))),(w64 (33+(w64 (Int.tmod (IntKind.wrap .u64 v1) 90))))<((v168:Nat):Int),v168=(v166.map Zv).length,(v166.map Zv)[Int.toNat (w64 (33+(w64 (Int.tmod (IntKind.wrap .u64 v1) 90))))]?=some [.bool y211],(y209 == y211)=true,Sim Tryz.prog GL0 31 [.val true (pvL (Zd y204.1)),one (.str ([UInt8.ofNat (Int.toNat (IntKind.wrap .u8 (w64 (33+(w64 (Int.tmod (IntKind.wrap .u64 v1) 90))))))]:List UInt8))] [] (one (.bool y213)) [],([]:List Nat).Nodup,v168=(v166.map Zv).length,(0:Int)≤(w64 (33+(w64 (Int.tmod (IntKind.wrap .u64 v1) 90)))),(w64 (33+(w64 (Int.tmod (IntKind.wrap .u64 v1) 90))))<((v168:Nat):Int),v168=(v166.map Zv).length,(v166.map Zv)[Int.toNat (w64 (33+(w64 (Int.tmod (IntKind.wrap .u64 v1) 90))))]?=some [.bool y215],(!(y213 == y215))=true,Sim Tryz.prog GL0 31 [.val true (pvL (Zd y201.1)),one (.str ([]:List UInt8))] [] (one (.bool y217)) [],([]:List Nat).Nodup,(!y217)=true,Sim Tryz.prog GL0 31 [.val true (pvL (Zd y204.1)),one (.str ([]:List UInt8))] [] (one (.bool y219)) [],([]:List Nat).Nodup,(!y219)=false]) kr kr (sound _ _) ⟨(Zbp k _ hy205),(by decide),hb206,hb207,hb208,(ZJ k _ _ _ hy209),(by decide),zt,hc210.1,z0,zt,(Zo (Zp _ hy211)),hb212,(ZJ k _ _ _ hy213),(by decide),zt,hc214.1,z0,zt,(Zo (Zp _ hy215)),hb216,(ZJ k _ _ _ hy217),(by decide),hb218,(ZJ k _ _ _ hy219),(by decide),hb220,trivial⟩ ?_
 exact ⟨false,kr,kr,hF⟩ } }
 {
 have hF:=Zj hF hb218
 have z0:(w64 (33+(w64 (Int.tmod (IntKind.wrap .u64 v1) 90))))<((v168:Nat):Int):=(by have h_:=hc210.2;(try simp only [zl,Zf] at h_ ⊢);omega)
 refine WA.regD kr [4] [] [(0,.callR [] (one (.bool y205))),(1,.bool true),(5,.bool true),(9,.bool true),(12,.callR [] (one (.bool y209))),(16,.cells [.bool y211]),(19,.bool true),(22,.callR [] (one (.bool y213))),(26,.cells [.bool y215]),(29,.bool true),(31,.callR [] (one (.bool y217))),(34,.bool false),(36,.callR [] (.tup [])),(44,.callR [] (.tup [])),(49,.callR [] (.tup []))] (env':=[(4,one (.bool false))]) (os':=[]) (O:=[Sim Tryz.prog GL0 26 [] [] (one (.bool y205)) [],([]:List Nat).Nodup,y205=true,(y201.2 == 0)=true,(y204.2 == 0)=true,Sim Tryz.prog GL0 31 [.val true (pvL (Zd y201.1)),one (.str ([UInt8.ofNat (Int.toNat (IntKind.wrap .u8 (w64 (33+(w64 (Int.tmod (IntKind.wrap .u64 v1) 90))))))]:List UInt8))] [] (one (.bool y209)) [],([]:List Nat).Nodup,v168=(v166.map Zv).length,(0:Int)≤(w64 (33+(w64 (Int.tmod (IntKind.wrap .u64 v1) 90)))),(w64 (33+(w64 (Int.tmod (IntKind.wrap .u64 v1) 90))))<((v168:Nat):Int),v168=(v166.map Zv).length,(v166.map Zv)[Int.toNat (w64 (33+(w64 (Int.tmod (IntKind.wrap .u64 v1) 90))))]?=some [.bool y211],(y209 == y211)=true,Sim Tryz.prog GL0 31 [.val true (pvL (Zd y204.1)),one (.str ([UInt8.ofNat (Int.toNat (IntKind.wrap .u8 (w64 (33+(w64 (Int.tmod (IntKind.wrap .u64 v1) 90))))))]:List UInt8))] [] (one (.bool y213)) [],([]:List Nat).Nodup,v168=(v166.map Zv).length,(0:Int)≤(w64 (33+(w64 (Int.tmod (IntKind.wrap .u64 v1) 90)))),(w64 (33+(w64 (Int.tmod (IntKind.wrap .u64 v1) 90))))<((v168:Nat):Int),v168=(v166.map Zv).length,(v166.map Zv)[Int.toNat (w64 (33+(w64 (Int.tmod (IntKind.wrap .u64 v1) 90))))]?=some [.bool y215],(!(y213 == y215))=true,Sim Tryz.prog GL0 31 [.val true (pvL (Zd y201.1)),one (.str ([]:List UInt8))] [] (one (.bool y217)) [],([]:List Nat).Nodup,(!y217)=false]) kr kr (sound _ _) ⟨(Zbp k _ hy205),(by decide),hb206,hb207,hb208,(ZJ k _ _ _ hy209),(by decide),zt,hc210.1,z0,zt,(Zo (Zp _ hy211)),hb212,(ZJ k _ _ _ hy213),(by decide),zt,hc214.1,z0,zt,(Zo (Zp _ hy215)),hb216,(ZJ k _ _ _ hy217),(by decide),hb218,trivial⟩ ?_
 exact ⟨false,kr,kr,hF⟩ } }
 {
 have hF:=Zj hF hb216
 have z0:(w64 (33+(w64 (Int.tmod (IntKind.wrap .u64 v1) 90))))<((v168:Nat):Int):=(by have h_:=hc210.2;(try simp only [zl,Zf] at h_ ⊢);omega)
 refine WA.regD kr [4] [] [(0,.callR [] (one (.bool y205))),(1,.bool true),(5,.bool true),(9,.bool true),(12,.callR [] (one (.bool y209))),(16,.cells [.bool y211]),(19,.bool true),(22,.callR [] (one (.bool y213))),(26,.cells [.bool y215]),(29,.bool false),(31,.callR [] (.tup [])),(36,.callR [] (.tup [])),(44,.callR [] (.tup [])),(49,.callR [] (.tup []))] (env':=[(4,one (.bool false))]) (os':=[]) (O:=[Sim Tryz.prog GL0 26 [] [] (one (.bool y205)) [],([]:List Nat).Nodup,y205=true,(y201.2 == 0)=true,(y204.2 == 0)=true,Sim Tryz.prog GL0 31 [.val true (pvL (Zd y201.1)),one (.str ([UInt8.ofNat (Int.toNat (IntKind.wrap .u8 (w64 (33+(w64 (Int.tmod (IntKind.wrap .u64 v1) 90))))))]:List UInt8))] [] (one (.bool y209)) [],([]:List Nat).Nodup,v168=(v166.map Zv).length,(0:Int)≤(w64 (33+(w64 (Int.tmod (IntKind.wrap .u64 v1) 90)))),(w64 (33+(w64 (Int.tmod (IntKind.wrap .u64 v1) 90))))<((v168:Nat):Int),v168=(v166.map Zv).length,(v166.map Zv)[Int.toNat (w64 (33+(w64 (Int.tmod (IntKind.wrap .u64 v1) 90))))]?=some [.bool y211],(y209 == y211)=true,Sim Tryz.prog GL0 31 [.val true (pvL (Zd y204.1)),one (.str ([UInt8.ofNat (Int.toNat (IntKind.wrap .u8 (w64 (33+(w64 (Int.tmod (IntKind.wrap .u64 v1) 90))))))]:List UInt8))] [] (one (.bool y213)) [],([]:List Nat).Nodup,v168=(v166.map Zv).length,(0:Int)≤(w64 (33+(w64 (Int.tmod (IntKind.wrap .u64 v1) 90)))),(w64 (33+(w64 (Int.tmod (IntKind.wrap .u64 v1) 90))))<((v168:Nat):Int),v168=(v166.map Zv).length,(v166.map Zv)[Int.toNat (w64 (33+(w64 (Int.tmod (IntKind.wrap .u64 v1) 90))))]?=some [.bool y215],(!(y213 == y215))=false]) kr kr (sound _ _) ⟨(Zbp k _ hy205),(by decide),hb206,hb207,hb208,(ZJ k _ _ _ hy209),(by decide),zt,hc210.1,z0,zt,(Zo (Zp _ hy211)),hb212,(ZJ k _ _ _ hy213),(by decide),zt,hc214.1,z0,zt,(Zo (Zp _ hy215)),hb216,trivial⟩ ?_
 exact ⟨false,kr,kr,hF⟩ } }
 {
 have hF:=Zj hF hb212
 refine WA.regD kr [4] [] [(0,.callR [] (one (.bool y205))),(1,.bool true),(5,.bool true),(9,.bool true),(12,.callR [] (one (.bool y209))),(16,.cells [.bool y211]),(19,.bool false),(22,.callR [] (.tup [])),(31,.callR [] (.tup [])),(36,.callR [] (.tup [])),(44,.callR [] (.tup [])),(49,.callR [] (.tup []))] (env':=[(4,one (.bool false))]) (os':=[]) (O:=[Sim Tryz.prog GL0 26 [] [] (one (.bool y205)) [],([]:List Nat).Nodup,y205=true,(y201.2 == 0)=true,(y204.2 == 0)=true,Sim Tryz.prog GL0 31 [.val true (pvL (Zd y201.1)),one (.str ([UInt8.ofNat (Int.toNat (IntKind.wrap .u8 (w64 (33+(w64 (Int.tmod (IntKind.wrap .u64 v1) 90))))))]:List UInt8))] [] (one (.bool y209)) [],([]:List Nat).Nodup,v168=(v166.map Zv).length,(0:Int)≤(w64 (33+(w64 (Int.tmod (IntKind.wrap .u64 v1) 90)))),(w64 (33+(w64 (Int.tmod (IntKind.wrap .u64 v1) 90))))<((v168:Nat):Int),v168=(v166.map Zv).length,(v166.map Zv)[Int.toNat (w64 (33+(w64 (Int.tmod (IntKind.wrap .u64 v1) 90))))]?=some [.bool y211],(y209 == y211)=false]) kr kr (sound _ _) ⟨(Zbp k _ hy205),(by decide),hb206,hb207,hb208,(ZJ k _ _ _ hy209),(by decide),zt,hc210.1,(by have h_:=hc210.2;(try simp only [zl,Zf] at h_ ⊢);omega),zt,(Zo (Zp _ hy211)),hb212,trivial⟩ ?_
 exact ⟨false,kr,kr,hF⟩ } }
 {
 have hF:=Zj hF hb208
 refine WA.regD kr [4] [] [(0,.callR [] (one (.bool y205))),(1,.bool true),(5,.bool true),(9,.bool false),(12,.callR [] (.tup [])),(22,.callR [] (.tup [])),(31,.callR [] (.tup [])),(36,.callR [] (.tup [])),(44,.callR [] (.tup [])),(49,.callR [] (.tup []))] (env':=[(4,one (.bool false))]) (os':=[]) (O:=[Sim Tryz.prog GL0 26 [] [] (one (.bool y205)) [],([]:List Nat).Nodup,y205=true,(y201.2 == 0)=true,(y204.2 == 0)=false]) kr kr (sound _ _) ⟨(Zbp k _ hy205),(by decide),hb206,hb207,hb208,trivial⟩ ?_
 exact ⟨false,kr,kr,hF⟩ } }
 {
 have hF:=Zj hF hb207
 refine WA.regD kr [4] [] [(0,.callR [] (one (.bool y205))),(1,.bool true),(5,.bool false),(12,.callR [] (.tup [])),(22,.callR [] (.tup [])),(31,.callR [] (.tup [])),(36,.callR [] (.tup [])),(44,.callR [] (.tup [])),(49,.callR [] (.tup []))] (env':=[(4,one (.bool false))]) (os':=[]) (O:=[Sim Tryz.prog GL0 26 [] [] (one (.bool y205)) [],([]:List Nat).Nodup,y205=true,(y201.2 == 0)=false]) kr kr (sound _ _) ⟨(Zbp k _ hy205),(by decide),hb206,hb207,trivial⟩ ?_
 exact ⟨false,kr,kr,hF⟩ } }
 {
 have hF:=Zj hF hb206
 refine WA.regD kr [4] [] [(0,.callR [] (one (.bool y205))),(1,.bool false),(12,.callR [] (.tup [])),(22,.callR [] (.tup [])),(31,.callR [] (.tup [])),(36,.callR [] (.tup [])),(44,.callR [] (.tup [])),(49,.callR [] (.tup []))] (env':=[(4,one (.bool false))]) (os':=[]) (O:=[Sim Tryz.prog GL0 26 [] [] (one (.bool y205)) [],([]:List Nat).Nodup,y205=false]) kr kr (sound _ _) ⟨(Zbp k _ hy205),(by decide),hb206,trivial⟩ ?_
 exact ⟨false,kr,kr,hF⟩ } } } } }
 {
 rcases Bool.eq_false_or_eq_true ((v0.length:Int) == 0) with hb101 | hb101
 {
 have hF:=Zk hF hb101
 refine WA.rm (α:=Int) (raw:=((v0.map (eInt .i64)).length:Int)) (can:=(v0.length:Int)) (fun m_=>([(0,one (.sl (v0.map (eInt .i64)))),(1,one (.int .i64 v1)),(26,one (.bool true))],[],[(m_ == 0)=true])) ((by first | (simp only [zl,Zf];done) | (simp only [zl,Zf];omega) | omega)) [0,1,26] [] [(3,.bool true)] kr (sound _ _) ⟨hb101,trivial⟩ ?_
 exact ⟨true,kr,kr,hF⟩ }
 {
 have hF:=Zj hF hb101
 refine WA.rm (α:=Int×Int) (raw:=(((v0.map (eInt .i64)).length:Int),((v0.map (eInt .i64)).length:Int))) (can:=((v0.length:Int),(v0.length:Int))) (fun m_=>([(0,one (.sl (v0.map (eInt .i64)))),(1,one (.int .i64 v1)),(26,one (.bool (decide (m_.1 > 8))))],[],[(m_.2 == 0)=false])) (ZH (by first | (simp only [zl,Zf];done) | (simp only [zl,Zf];omega) | omega) (by first | (simp only [zl,Zf];done) | (simp only [zl,Zf];omega) | omega)) [0,1,26] [] [(3,.bool false)] kr (sound _ _) ⟨hb101,trivial⟩ ?_
 exact ⟨(decide ((v0.length:Int) > 8)),kr,kr,hF⟩ } }
end Go.Proofs.YthilboheomikjaaGreatDoor
end
section
namespace Go.Proofs.YthilboheomikjaaGreatDoor.Pure
open Go.AL Go.Lib
set_option maxRecDepth 100000
def ALL:List UInt8:=[48,49,50,51,52,53,54,55,56,57,65,66,67,68,69,70,71,72,73,74,75,76,77,78,79,80,81,82,83,84,85,86,87,88,89,90,97,98,99,100,101,102,103,104,105,106,107,108,109,110,111,112,113,114,115,116,117,118,119,120,121,122]
theorem ZmJ:((List.range 62).all fun i=>(List.range 62).all fun j=>decide (j<i) || (match ALL[i]?,ALL[j]? with
  | some a,some b=>Zd6 a && Zd6 b && decide (a.toNat≤b.toNat)
  | _,_=>false))=true:=by kernel_rfl
theorem Zm2 {i j:Nat} (hij:i≤j) (hj:j<62):∃x:Item,x.good∧ALL[i]?=some x.a∧ALL[j]?=some x.b:=by
  have h:=List.all_eq_true.1 (List.all_eq_true.1 ZmJ i (List.mem_range.2 (by omega))) j (List.mem_range.2 hj)
  rw [df (by omega),Bool.false_or] at h
  cases ha:ALL[i]? with
  | none=>rw [ha] at h;cases h
  | some a=>
    cases hb:ALL[j]? with
    | none=>rw [ha,hb] at h;cases h
    | some b=>
      rw [ha,hb] at h
      simp only [Bool.and_eq_true,decide_eq_true_eq] at h
      exact ⟨⟨a,b⟩,⟨h.1.1,h.1.2,h.2⟩,rfl,rfl⟩
theorem Zg6 (a:Int) (m:Int) (hm:0<m) (hm2:m≤1000):∃i:Nat,(i:Int)<m∧Int.tmod (IntKind.wrap .u64 a) m=(i:Int):=by
  have h0:0≤IntKind.wrap .u64 a:=by simp [IntKind.wrap,IntKind.bits,IntKind.signed];omega
  have h1:0≤Int.tmod (IntKind.wrap .u64 a) m:=Int.tmod_nonneg _ h0
  have h2:Int.tmod (IntKind.wrap .u64 a) m<m:=Int.tmod_lt_of_pos _ hm
  obtain ⟨i,hi⟩:=Int.eq_ofNat_of_zero_le h1
  exact ⟨i,by omega,hi⟩
theorem Zht {self5:List Bool→List UInt8→Int→Option Bool} {i:Nat} {b:UInt8} {body:List UInt8} (hi:i≤1000) (hb:b.toNat<128):∀(m v:Nat) (inn:List Bool),inn.length=128→v≤b.toNat+1→b.toNat+1-v<m→
    ∃inn',Zdf self5 (i:Int) b body m inn (v:Int)=self5 inn' body ((i+1:Nat):Int)∧inn'.length=128∧∀z,Sn inn' z↔Sn inn z∨(v≤z∧z≤b.toNat)
  | 0,v,inn,_,_,hm=>by omega
  | m+1,v,inn,hl,hv,hm=>by
    show ∃inn',Zf1 self5 (Zdf self5 (i:Int) b body m) (i:Int) b body inn (v:Int)=_∧_
    unfold Zf1
    rw [Zt (x:=(b.toNat:Int)) (by omega) (by omega)]
    by_cases h:v≤b.toNat
    · obtain ⟨y,hy⟩:∃y,inn[v]?=some y:=⟨_,List.getElem?_eq_getElem (by omega)⟩
      rw [dt (by omega),cond_true,if_pos ⟨by omega,by omega⟩,Zz,hy,Option.bind_some,Zbv (by omega),Int.toNat_natCast]
      obtain ⟨inn',e,l',s'⟩:=Zht hi hb m (v+1) (inn.set v true) (by rw [List.length_set];exact hl) (by omega) (by omega)
      refine ⟨inn',e,l',fun z=>?_⟩
      rw [s',Zmr (by omega)]
      by_cases hz:z=v
      · subst hz;simp;omega
      · simp only [hz,false_and,false_or,ne_eq,not_false_eq_true,true_and]
        constructor
        · rintro (h | h)
          · exact .inl h
          · exact .inr ⟨by omega,h.2⟩
        · rintro (h | h)
          · exact .inl h
          · exact .inr ⟨by omega,h.2⟩
    · rw [df (by omega),cond_false,Zbv (by omega)]
      exact ⟨inn,rfl,hl,fun z=>⟨.inl,fun h=>h.elim id (fun h=>by omega)⟩⟩
theorem Zkw {k:Nat} {self5:List Bool→List UInt8→Int→Option Bool} {l:List Int} {c:Int} {inn:List Bool} {body:List UInt8} {i:Nat} (hi:i<l.length) (hl:l.length≤8) (hb:body.length≤1000) :
    ∃x:Item,x.good∧Zcz k self5 l c inn body (i:Int)=Zer k self5 inn (i:Int) x.a x.b (body ++ x.enc):=by
  obtain ⟨y,hy⟩:∃y,l[i]?=some y:=⟨_,List.getElem?_eq_getElem hi⟩
  obtain ⟨n,hn,en⟩:=Zg6 y 62 (by omega) (by omega)
  obtain ⟨j,hj,ej⟩:=Zg6 (w64 (Int.tdiv y 62)) 4 (by omega) (by omega)
  obtain ⟨x,gx,xa,xb⟩:=Zm2 (i:=n) (j:=min 61 (n+j)) (by omega) (by omega)
  refine ⟨x,gx,?_⟩
  have e1:w64 (Int.tmod (IntKind.wrap .u64 y) 62)=(n:Int):=by rw [en,Zt (by omega) (by omega)]
  have e2:mn 61 (w64 (w64 (Int.tmod (IntKind.wrap .u64 y) 62)+w64 (Int.tmod (IntKind.wrap .u64 (w64 (Int.tdiv y 62))) 4)))=((min 61 (n+j):Nat):Int):=by
    rw [e1,ej,Zt (x:=(j:Int)) (by omega) (by omega),Zt (by omega) (by omega)]
    unfold mn;split <;> omega
  have xa':idxL ([48,49,50,51,52,53,54,55,56,57,65,66,67,68,69,70,71,72,73,74,75,76,77,78,79,80,81,82,83,84,85,86,87,88,89,90,97,98,99,100,101,102,103,104,105,106,107,108,109,110,111,112,113,114,115,116,117,118,119,120,121,122]:List UInt8) (n:Int)=some x.a:=by rw [Zz];exact xa
  have xb':idxL ([48,49,50,51,52,53,54,55,56,57,65,66,67,68,69,70,71,72,73,74,75,76,77,78,79,80,81,82,83,84,85,86,87,88,89,90,97,98,99,100,101,102,103,104,105,106,107,108,109,110,111,112,113,114,115,116,117,118,119,120,121,122]:List UInt8) ((min 61 (n+j):Nat):Int)=some x.b:=by rw [Zz];exact xb
  unfold Zcz
  rw [dt (by omega),cond_true,Zz,hy,Option.bind_some,if_pos (by decide),e1,xa',Option.bind_some,Option.bind_some,if_pos (by decide),if_pos (by decide)]
  rw [e1] at e2
  rw [e2,xb',Option.bind_some]
  simp only [Int.toNat_natCast,UInt8.ofNat_toNat,List.length_append,List.length_cons,List.length_nil]
  rw [if_pos (by omega)]
  unfold Item.enc
  by_cases h:x.a.toNat<x.b.toNat
  · rw [dt (by omega),cond_true,if_pos (by omega),if_pos (by omega),if_pos h]
    simp [List.append_assoc]
  · rw [df (by omega),cond_false,if_neg h]
theorem ZbD {l:List Zb} {t:List UInt8} (hc:ZbG l) (hl:l.length≤500) (ht:t.length≤10):∃b,F31 4000 ⟨1,l,[],0,0⟩ t=some b∧(b=true↔validD t=true∧∃c,pts t=[c]∧inR l c):=by
  have hfs:fs ⟨1,l,[],0,0⟩≤2041:=by simp only [fs,fsL,List.length_nil];omega
  obtain ⟨b,e,p⟩:=Zk1 (k:=4000) (r:=⟨1,l,[],0,0⟩) (s:=t) (by omega) (by omega) (by omega) (by omega)
  have hm:MayP ⟨1,l,[],0,0⟩:=⟨⟨⟨.inl ⟨rfl,⟨rfl,rfl⟩,rfl,hc⟩,trivial⟩,by simp [dp,dpL]⟩,by simp [sz]⟩
  refine ⟨b,e,p.trans ⟨fun h=>⟨h.2.1,?_⟩,fun h=>⟨hm,h.1,?_⟩⟩⟩
  · have:=h.2.2
    rw [Zct] at this
    simpa using this
  · rw [Zct]
    exact .inl ⟨rfl,h.2⟩
theorem ZiY {l:List Int} {c:Int} {inn:List Bool} {items:List Item} {self5:List Bool→List UInt8→Int→Option Bool} (hg:∀x∈items,x.good) (h0:items≠[]) (h8:items.length≤8) (hl:inn.length=128) (hin:∀z:Nat,Sn inn z↔inI items (z:Int)) :
    Zcz 4000 self5 l c inn (items.flatMap Item.enc) (l.length:Int)=some true:=by
  have hbl:=Zd7 items
  obtain ⟨z,hz,ez⟩:=Zg6 c 90 (by omega) (by omega)
  have ex:w64 (33+w64 (Int.tmod (IntKind.wrap .u64 c) 90))=((33+z:Nat):Int):=by rw [ez,Zt (x:=(z:Int)) (by omega) (by omega),Zt (by omega) (by omega)];omega
  have e8:UInt8.ofNat (Int.toNat (IntKind.wrap .u8 ((33+z:Nat):Int)))=UInt8.ofNat (33+z):=by
    have:IntKind.wrap .u8 ((33+z:Nat):Int)=((33+z:Nat):Int):=by simp [IntKind.wrap,IntKind.bits,IntKind.signed];omega
    rw [this,Int.toNat_natCast]
  have hx:(UInt8.ofNat (33+z)).toNat=33+z:=by rw [UInt8.toNat_ofNat'];omega
  generalize UInt8.ofNat (33+z)=x at *
  obtain ⟨l1,r1,c1,i1,n1⟩:=Zgi (k:=4000) (items:=items) (neg:=false) hg h0 (by omega) (by omega) (by omega) (s:=([91] ++ items.flatMap Item.enc) ++ [93]) rfl
  obtain ⟨l2,r2,c2,i2,n2⟩:=Zgi (k:=4000) (items:=items) (neg:=true) hg h0 (by omega) (by omega) (by omega) (s:=([91,94] ++ items.flatMap Item.enc) ++ [93]) rfl
  obtain ⟨a1,b1⟩:=Zca [x] fun y hy=>by simp at hy;subst hy;omega
  obtain ⟨a2,b2⟩:=Zca [x,x] fun y hy=>by simp at hy;subst hy;omega
  simp only [List.map_cons,List.map_nil,hx] at b1 b2
  have hpt:Zac ((33+z:Nat):Int):=⟨by omega,by omega,by omega⟩
  obtain ⟨w,hw⟩:∃w,inn[33+z]?=some w:=⟨_,List.getElem?_eq_getElem (by omega)⟩
  have hww:w=true↔inI items ((33+z:Nat):Int):=by rw [←hin];unfold Sn;rw [hw];simp
  obtain ⟨m1,f1,p1⟩:=ZbD (t:=[x]) c1 n1 (by simp)
  obtain ⟨m2,f2,p2⟩:=ZbD (t:=[x]) c2 n2 (by simp)
  obtain ⟨m3,f3,p3⟩:=ZbD (t:=[]) c1 n1 (by simp)
  obtain ⟨m4,f4,p4⟩:=ZbD (t:=[]) c2 n2 (by simp)
  obtain ⟨m5,f5,p5⟩:=ZbD (t:=[x] ++ [x]) c1 n1 (by simp)
  obtain ⟨m6,f6,p6⟩:=ZbD (t:=[195,169]) c2 n2 (by simp)
  have q1:m1=w:=by
    have:m1=true↔w=true:=by
      rw [p1,hww,b1]
      constructor
      · rintro ⟨_,d,hd,h⟩
        injection hd with hd _
        subst hd
        have:=((i1 _).1 h).2
        simpa using this
      · exact fun h=>⟨a1,_,rfl,(i1 _).2 ⟨hpt,by simpa using h⟩⟩
    exact Bool.eq_iff_iff.2 this
  have q2:m2 = !w:=by
    have:m2=true↔¬w=true:=by
      rw [p2,hww,b1]
      constructor
      · rintro ⟨_,d,hd,h⟩
        injection hd with hd _
        subst hd
        have:=((i2 _).1 h).2
        simpa using this
      · exact fun h=>⟨a1,_,rfl,(i2 _).2 ⟨hpt,by simpa using h⟩⟩
    exact Bool.eq_iff_iff.2 (this.trans (by cases w <;> simp))
  have q3:m3=false:=by
    cases m3
    · rfl
    · obtain ⟨_,d,hd,_⟩:=p3.1 rfl
      rw [Zfv] at hd;cases hd
  have q4:m4=false:=by
    cases m4
    · rfl
    · obtain ⟨_,d,hd,_⟩:=p4.1 rfl
      rw [Zfv] at hd;cases hd
  have q5:m5=false:=by
    cases m5
    · rfl
    · obtain ⟨_,d,hd,_⟩:=p5.1 rfl
      have e:pts ([x] ++ [x])=[((33+z:Nat):Int),((33+z:Nat):Int)]:=b2
      rw [e] at hd;cases hd
  have q6:m6=true:=by
    refine p6.2 ⟨by kernel_rfl,233,by kernel_rfl,(i2 _).2 ⟨⟨by omega,by omega,by omega⟩,?_⟩⟩
    simp only [if_true]
    intro h
    have:=ZmP hg h
    omega
  have told:F26 4000=some true:=by kernel_rfl
  have hi:idxL inn ((33+z:Nat):Int)=some w:=by rw [Zz];exact hw
  unfold Zcz Za6
  simp only [ex,e8]
  rw [df (by omega),cond_false,if_pos (by decide),if_pos (by show 1+(items.flatMap Item.enc).length≤_;omega),if_pos (by rw [List.length_append];show 1+(items.flatMap Item.enc).length+1≤_;omega),r1,Option.bind_some,if_pos (by show 2+(items.flatMap Item.enc).length≤_;omega),if_pos (by rw [List.length_append];show 2+(items.flatMap Item.enc).length+1≤_;omega),r2,Option.bind_some,told,Option.bind_some,cond_true]
  simp only
  rw [Z9 rfl,cond_true,f1,Option.bind_some,if_pos ⟨by omega,by omega⟩,hi,Option.bind_some,q1,beq_self_eq_true,cond_true,f2,Option.bind_some,if_pos ⟨by omega,by omega⟩,Option.bind_some,q2,
    show (!((!w) == w))=true by cases w <;> rfl,cond_true,f3,Option.bind_some,q3,Bool.not_false,cond_true,f4,Option.bind_some,q4,Bool.not_false,cond_true,if_pos (by simp),f5,Option.bind_some,q5,Bool.not_false,cond_true,f6,Option.bind_some,q6]
  rfl
theorem ZeH {l:List Int} {c:Int} (h8:l.length≤8):∀(m:Nat) (inn:List Bool) (items:List Item),items.length≤l.length→(items=[]→l≠[])→l.length-items.length<m→(∀x∈items,x.good)→inn.length=128→(∀z:Nat,Sn inn z↔inI items (z:Int))→
    Zb2 4000 l c m inn (items.flatMap Item.enc) (items.length:Int)=some true
  | 0,inn,items,_,_,hm,_,_,_=>by omega
  | m+1,inn,items,hi,h0,hm,hg,hl,hin=>by
    show Zcz 4000 (Zb2 4000 l c m) l c inn (items.flatMap Item.enc) (items.length:Int)=_
    by_cases h:items.length=l.length
    · rw [h]
      refine ZiY hg (fun c=>?_) (by omega) hl hin
      have:=h0 c
      rw [c] at h
      exact this (List.length_eq_zero_iff.1 (by simpa using h.symm))
    · have hbl:=Zd7 items
      obtain ⟨x,gx,e⟩:=Zkw (k:=4000) (self5:=Zb2 4000 l c m) (c:=c) (inn:=inn) (body:=items.flatMap Item.enc) (i:=items.length) (show items.length<l.length by omega) h8 (by omega)
      rw [e]
      have hab:=gx.2.2
      have hb:=(Zak gx.2.1).2.2.2.2.2.1
      have ha:=(Zak gx.1).2.2.2.2.2.1
      unfold Zer
      rw [Zt (by omega) (by omega)]
      obtain ⟨inn',e2,l2,s2⟩:=Zht (self5:=Zb2 4000 l c m) (i:=items.length) (b:=x.b) (body:=items.flatMap Item.enc ++ x.enc) (by omega) hb 4000 x.a.toNat inn hl (by omega) (by omega)
      rw [e2]
      have ef:items.flatMap Item.enc ++ x.enc=(items ++ [x]).flatMap Item.enc:=by simp
      have el:items.length+1=(items ++ [x]).length:=by simp
      rw [ef,el]
      refine ZeH h8 m inn' (items ++ [x]) (by simp;omega) (fun c=>by simp at c) (by simp;omega) (fun y hy=>?_) l2 fun z=>?_
      · rcases List.mem_append.1 hy with hy | hy
        · exact hg y hy
        · simp at hy;subst hy;exact gx
      · rw [s2,hin]
        unfold inI
        constructor
        · rintro (⟨y,hy,h⟩ | h)
          · exact ⟨y,List.mem_append_left _ hy,h⟩
          · exact ⟨x,by simp,by omega,by omega⟩
        · rintro ⟨y,hy,h⟩
          rcases List.mem_append.1 hy with hy | hy
          · exact .inl ⟨y,hy,h⟩
          · simp at hy;subst hy;exact .inr ⟨by omega,by omega⟩
theorem RexClasses (l:List Int) (c:Int) (_:-9223372036854775808≤c∧c≤9223372036854775807):∃k,F11 k l c=some true:=by
  refine ⟨4000,?_⟩
  have told:F26 4000=some true:=by kernel_rfl
  have short:Zde 4000 l c true=some true:=by unfold Zde;rw [cond_true,told];rfl
  unfold F11
  by_cases h0:l.length=0
  · rw [Z9 (by omega),cond_true];exact short
  · rw [Z0 (by omega),cond_false]
    by_cases h8:l.length≤8
    · rw [df (by omega)]
      unfold Zde
      rw [cond_false,if_pos (by decide)]
      have:=ZeH (l:=l) (c:=c) h8 4000 (List.replicate 128 false) [] (by simp) (fun _ e=>h0 (by rw [e];rfl)) (by simp;omega) (by simp) (by simp) (fun z=>⟨fun h=>absurd h (ZgD _ _),fun ⟨x,hx,_⟩=>by cases hx⟩)
      exact this
    · rw [dt (by omega)];exact short
end Go.Proofs.YthilboheomikjaaGreatDoor.Pure
end
