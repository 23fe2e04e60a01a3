/- GR, P10, P2, G7, G9, P5, P6, P7, G13, Q9, N5, N6, N7, N8, N9, G3 -/
import Derived.Test.YthilboheomikjaaGreatDoorMRRexParses4
import Derived.Shelf.Strings.Runes
import Derived.Shelf.Strings.IndexAny
import Derived.Below
import Derived.WalkKit
import Derived.Defers
import Derived.Recover
set_option linter.unusedVariables false
set_option linter.unusedSimpArgs false
section
namespace Go.Proofs.YthilboheomikjaaGreatDoor
open Go.AL
set_option maxRecDepth 100000
def Zf8 (v105:Bool):Option Bool:=
  cond v105 ((some true)) (((some false)))
def Zf7 (v0:Int) (v102:Bool):Option Bool:=
  cond v102 ((some true)) (cond (decide (57343<v0)) ((Zf8 (decide (v0≤1114111)))) ((Zf8 false)))
def F115 (k:Nat) (v0:Int):Option Bool:=
  (cond (decide (0≤v0)) ((Zf7 v0 (decide (v0<55296)))) ((Zf7 v0 false)))
theorem ZnR (k:Nat) (v0:Int) (r:Bool) (hF:F115 k v0=some r):Sim Tryz.prog GL0 115 [one (.int .i32 v0)] [] (one (.bool r)) []:=by
 refine ZB [] Tryz.func115 rfl kr kr ?_
 show WA _ _ 17 _ _ _
 refine WA.seq ?_
 refine WA.reg [0] [] [] (env':=[(0,one (.int .i32 v0))]) (os':=[]) (O:=[]) kr (sound _ _) trivial ?_
 refine WA.seq ?_
 refine WA.block ?_
 refine WA.join (fun s_=>∃(v102:Bool),Zl s_.env [0,3]=[(0,one (.int .i32 v0)),(3,one (.bool v102))]∧Zl s_.os []=[]∧Zf7 v0 v102=some r) ?_ ?_
 {
 rintro s_ ⟨v102,he,ho,hF⟩
 refine WA.keep _ _ he ho ?_
 clear he ho
 refine WA.cond (b:=v102) rfl (fun hb103=>?_) (fun hb103=>?_)
 {
 have hF:=Zk hF hb103
 refine WA.seq ?_
 refine WA.reg [2] [] [] (env':=[(2,one (.bool true))]) (os':=[]) (O:=[]) kr (sound _ _) trivial ?_
 refine WA.ret ?_
 obtain rfl:=Option.some.inj hF
 exact Zp (one (.bool true)) [] kr kr kr kr (by decide) rfl rfl }
 {
 have hF:=Zj hF hb103
 refine WA.join (fun s_=>∃(v105:Bool),Zl s_.env [10]=[(10,one (.bool v105))]∧Zl s_.os []=[]∧Zf8 v105=some r) ?_ ?_
 {
 rintro s_ ⟨v105,he,ho,hF⟩
 refine WA.keep _ _ he ho ?_
 clear he ho
 refine WA.cond (b:=v105) rfl (fun hb106=>?_) (fun hb106=>?_)
 {
 have hF:=Zk hF hb106
 refine WA.seq ?_
 refine WA.reg [2] [] [] (env':=[(2,one (.bool true))]) (os':=[]) (O:=[]) kr (sound _ _) trivial ?_
 refine WA.ret ?_
 obtain rfl:=Option.some.inj hF
 exact Zp (one (.bool true)) [] kr kr kr kr (by decide) rfl rfl }
 {
 have hF:=Zj hF hb106
 refine WA.skip ?_
 refine WA.seq ?_
 refine WA.reg [2] [] [] (env':=[(2,one (.bool false))]) (os':=[]) (O:=[]) kr (sound _ _) trivial ?_
 refine WA.ret ?_
 obtain rfl:=Option.some.inj hF
 exact Zp (one (.bool false)) [] kr kr kr kr (by decide) rfl rfl } }
 {
 rcases Bool.eq_false_or_eq_true (decide (57343<v0)) with hb104 | hb104
 {
 have hF:=Zk hF hb104
 refine WA.reg [10] [] [(2,.bool true)] (env':=[(10,one (.bool (decide (v0≤1114111))))]) (os':=[]) (O:=[(decide (57343<v0))=true]) kr (sound _ _) ⟨hb104,trivial⟩ ?_
 exact ⟨(decide (v0≤1114111)),kr,kr,hF⟩ }
 {
 have hF:=Zj hF hb104
 refine WA.reg [10] [] [(2,.bool false)] (env':=[(10,one (.bool false))]) (os':=[]) (O:=[(decide (57343<v0))=false]) kr (sound _ _) ⟨hb104,trivial⟩ ?_
 exact ⟨false,kr,kr,hF⟩ } } } }
 {
 rcases Bool.eq_false_or_eq_true (decide (0≤v0)) with hb101 | hb101
 {
 have hF:=Zk hF hb101
 refine WA.reg [0,3] [] [(2,.bool true)] (env':=[(0,one (.int .i32 v0)),(3,one (.bool (decide (v0<55296))))]) (os':=[]) (O:=[(decide (0≤v0))=true]) kr (sound _ _) ⟨hb101,trivial⟩ ?_
 exact ⟨(decide (v0<55296)),kr,kr,hF⟩ }
 {
 have hF:=Zj hF hb101
 refine WA.reg [0,3] [] [(2,.bool false)] (env':=[(0,one (.int .i32 v0)),(3,one (.bool false))]) (os':=[]) (O:=[(decide (0≤v0))=false]) kr (sound _ _) ⟨hb101,trivial⟩ ?_
 exact ⟨false,kr,kr,hF⟩ } }
def Zk4 (self5:Int→Option Int) (v0:List UInt8) (v1:Int) (v139:Int) (v149:Int):Option Int:=
  (cond (decide (v149<(((Utf8.encode v1).data.toList).length:Int))) ((idxL v0 (w64 (v139-v149))).bind fun y151=>(idxL ((Utf8.encode v1).data.toList) (w64 ((w64 ((((Utf8.encode v1).data.toList).length:Int)-1))-v149))).bind fun y152=>(cond ((y151.toNat:Int) != (y152.toNat:Int)) (none) ((self5 (w64 (v149+1)))))) (((some (w64 (v139-(w64 ((((Utf8.encode v1).data.toList).length:Int)-1))))))))
def Zgq (v0:List UInt8) (v1:Int) (v139:Int):Nat→Int→Option Int
  | 0,_=>none
  | m_+1,v149=>Zk4 (Zgq v0 v1 v139 m_) v0 v1 v139 v149
def Ziu (k:Nat) (v0:List UInt8) (v1:Int) (v139:Int):Option Int:=
  (Zgq v0 v1 v139 k 1)
def Zel (k:Nat) (v0:List UInt8) (v1:Int):Option Int:=
  (cond (decide ((w64 ((((Utf8.encode v1).data.toList).length:Int)-1))<(v0.length:Int))) ((idxL v0 (w64 ((((Utf8.encode v1).data.toList).length:Int)-1))).bind fun y132=>(idxL ((Utf8.encode v1).data.toList) (w64 ((((Utf8.encode v1).data.toList).length:Int)-1))).bind fun y133=>(cond ((y132.toNat:Int) != (y133.toNat:Int)) (if (0:Int)≤(w64 ((w64 ((((Utf8.encode v1).data.toList).length:Int)-1))+1))∧((w64 ((w64 ((((Utf8.encode v1).data.toList).length:Int)-1))+1)):Int)≤(v0.length:Int)∧(v0.length:Int)≤(v0.length:Int) then (idxL ((Utf8.encode v1).data.toList) (w64 ((((Utf8.encode v1).data.toList).length:Int)-1))).bind fun y136=>(F170 k ((v0.take (Int.toNat (v0.length:Int))).drop (Int.toNat (w64 ((w64 ((((Utf8.encode v1).data.toList).length:Int)-1))+1)))) (y136.toNat:Int)).bind fun y137=>((cond (decide (y137<0)) ((some (-1))) (((Ziu k v0 v1 (w64 ((w64 ((((Utf8.encode v1).data.toList).length:Int)-1))+(w64 (y137+1))))))))) else none) ((Ziu k v0 v1 (w64 ((((Utf8.encode v1).data.toList).length:Int)-1)))))) (((some (-1)))))
def Ziv (k:Nat) (v0:List UInt8) (v1:Int):Nat→Option Int
  | 0=>none
  | m_+1=>Zel k v0 v1
def Zem (k:Nat) (v0:List UInt8) (v1:Int) (v102:Bool):Option Int:=
  cond v102 ((F170 k v0 (IntKind.wrap .u8 v1)).bind fun y104=>(some y104)) ((cond (v1 == 65533) (none) ((F115 k v1).bind fun y106=>(cond (!y106) ((some (-1))) (((((Ziv k v0 v1 k)))))))))
def F171 (k:Nat) (v0:List UInt8) (v1:Int):Option Int:=
  (cond (decide (0≤v1)) ((Zem k v0 v1 (decide (v1<128)))) ((Zem k v0 v1 false)))
theorem Zn6 (k:Nat) (v0:List UInt8) (v1:Int) (r:Int) (hF:F171 k v0 v1=some r):Sim Tryz.prog GL0 171 [one (.str v0),one (.int .i32 v1)] [] (one (.int .i64 r)) []:=by
 refine ZB [] Tryz.func171 rfl kr kr ?_
 show WA _ _ 187 _ _ _
 refine WA.seq ?_
 refine WA.reg [0,1] [] [] (env':=[(0,one (.str v0)),(1,one (.int .i32 v1))]) (os':=[]) (O:=[]) kr (sound _ _) trivial ?_
 refine WA.block ?_
 refine WA.join (fun s_=>∃(v102:Bool),Zl s_.env [0,1,160]=[(0,one (.str v0)),(1,one (.int .i32 v1)),(160,one (.bool v102))]∧Zl s_.os []=[]∧Zem k v0 v1 v102=some r) ?_ ?_
 {
 rintro s_ ⟨v102,he,ho,hF⟩
 refine WA.keep _ _ he ho ?_
 clear he ho
 refine WA.cond (b:=v102) rfl (fun hb103=>?_) (fun hb103=>?_)
 {
 have hF:=Zk hF hb103
 refine WA.seq ?_
 obtain ⟨y104,hy104,hF⟩:=bind_some hF
 refine WA.reg [4] [] [(3,.callR [] (one (.int .i64 y104)))] (env':=[(4,one (.int .i64 y104))]) (os':=[]) (O:=[Sim Tryz.prog GL0 170 [one (.str v0),one (.int .u8 (IntKind.wrap .u8 v1))] [] (one (.int .i64 y104)) [],([]:List Nat).Nodup]) kr (sound _ _) ⟨(Zit k _ _ _ hy104),(by decide),trivial⟩ ?_
 refine WA.ret ?_
 obtain rfl:=Option.some.inj hF
 exact Zp (one (.int .i64 y104)) [] kr kr kr kr (by decide) rfl rfl }
 {
 have hF:=Zj hF hb103
 refine WA.seq ?_
 refine WA.reg [0,1,171] [] [] (env':=[(0,one (.str v0)),(1,one (.int .i32 v1)),(171,one (.bool (v1 == 65533)))]) (os':=[]) (O:=[]) kr (sound _ _) trivial ?_
 refine WA.cond (b:=(v1 == 65533)) rfl (fun hb105=>?_) (fun hb105=>?_)
 {
 have hF:=Zk hF hb105
 cases hF }
 {
 have hF:=Zj hF hb105
 refine WA.seq ?_
 obtain ⟨y106,hy106,hF⟩:=bind_some hF
 refine WA.reg [0,1,183] [] [(1,.callR [] (one (.bool y106)))] (env':=[(0,one (.str v0)),(1,one (.int .i32 v1)),(183,one (.bool (!y106)))]) (os':=[]) (O:=[Sim Tryz.prog GL0 115 [one (.int .i32 v1)] [] (one (.bool y106)) [],([]:List Nat).Nodup]) kr (sound _ _) ⟨(ZnR k _ _ hy106),(by decide),trivial⟩ ?_
 refine WA.cond (b:=(!y106)) rfl (fun hb107=>?_) (fun hb107=>?_)
 {
 have hF:=Zk hF hb107
 refine WA.seq ?_
 refine WA.reg [4] [] [] (env':=[(4,one (.int .i64 (-1)))]) (os':=[]) (O:=[]) kr (sound _ _) trivial ?_
 refine WA.ret ?_
 obtain rfl:=Option.some.inj hF
 exact Zp (one (.int .i64 (-1))) [] kr kr kr kr (by decide) rfl rfl }
 {
 have hF:=Zj hF hb107
 refine WA.scope ?_
 refine WA.seq ?_
 refine WA.reg [0,7] [] [] (env':=[(0,one (.str v0)),(7,one (.str ((Utf8.encode v1).data.toList)))]) (os':=[]) (O:=[]) kr (sound _ _) trivial ?_
 refine WA.seq ?_
 refine WA.reg [0,7,8] [] [] (env':=[(0,one (.str v0)),(7,one (.str ((Utf8.encode v1).data.toList))),(8,one (.int .i64 (w64 ((((Utf8.encode v1).data.toList).length:Int)-1))))]) (os':=[]) (O:=[]) kr (sound _ _) trivial ?_
 refine WA.seq ?_
 refine WA.reg [0,7,8,9] [] [] (env':=[(0,one (.str v0)),(7,one (.str ((Utf8.encode v1).data.toList))),(8,one (.int .i64 (w64 ((((Utf8.encode v1).data.toList).length:Int)-1)))),(9,one (.int .i64 (w64 ((((Utf8.encode v1).data.toList).length:Int)-1))))]) (os':=[]) (O:=[]) kr (sound _ _) trivial ?_
 refine WA.seq ?_
 refine WA.reg [0,7,8,9] [] [] (env':=[(0,one (.str v0)),(7,one (.str ((Utf8.encode v1).data.toList))),(8,one (.int .i64 (w64 ((((Utf8.encode v1).data.toList).length:Int)-1)))),(9,one (.int .i64 (w64 ((((Utf8.encode v1).data.toList).length:Int)-1))))]) (os':=[]) (O:=[]) kr (sound _ _) trivial ?_
 refine WA.seq ?_
 refine WA.block ?_
 refine WA.loop (fun m s_=>Zl s_.env [0,7,8,9]=[(0,one (.str v0)),(7,one (.str ((Utf8.encode v1).data.toList))),(8,one (.int .i64 (w64 ((((Utf8.encode v1).data.toList).length:Int)-1)))),(9,one (.int .i64 (w64 ((((Utf8.encode v1).data.toList).length:Int)-1))))]∧Zl s_.os []=[]∧Ziv k v0 v1 m=some r) k ⟨kr,kr,hF⟩ ?_
 clear hF
 rintro m3 s_ ⟨he,ho,hF⟩
 refine WA.keep _ _ he ho ?_
 clear he ho
 cases m3 with
 | zero=>cases hF
 | succ m3=>
  obtain ⟨self3,hself3⟩:∃g,g=Ziv k v0 v1 m3:=⟨_,rfl⟩
  have hF:Zel k v0 v1=some r:=by first | (rw [hself3];exact hF) | exact hF
  refine WA.seq ?_
  refine WA.seq ?_
  refine WA.reg [0,7,8,9,26] [] [] (env':=[(0,one (.str v0)),(7,one (.str ((Utf8.encode v1).data.toList))),(8,one (.int .i64 (w64 ((((Utf8.encode v1).data.toList).length:Int)-1)))),(9,one (.int .i64 (w64 ((((Utf8.encode v1).data.toList).length:Int)-1)))),(26,one (.bool (decide ((w64 ((((Utf8.encode v1).data.toList).length:Int)-1))<(v0.length:Int)))))]) (os':=[]) (O:=[]) kr (sound _ _) trivial ?_
  refine WA.cond (b:=(decide ((w64 ((((Utf8.encode v1).data.toList).length:Int)-1))<(v0.length:Int)))) rfl (fun hb131=>?_) (fun hb131=>?_)
  {
 have hF:=Zk hF hb131
 refine WA.skip ?_
 refine WA.block ?_
 refine WA.scope ?_
 refine WA.join (fun s_=>∃(v139:Int),Zl s_.env [0,7,8,9]=[(0,one (.str v0)),(7,one (.str ((Utf8.encode v1).data.toList))),(8,one (.int .i64 (w64 ((((Utf8.encode v1).data.toList).length:Int)-1)))),(9,one (.int .i64 v139))]∧Zl s_.os []=[]∧Ziu k v0 v1 v139=some r) ?_ ?_
 {
 rintro s_ ⟨v139,he,ho,hF⟩
 refine WA.keep _ _ he ho ?_
 clear he ho
 refine WA.seq ?_
 refine WA.seq ?_
 refine WA.reg [0,7,8,9,12] [] [] (env':=[(0,one (.str v0)),(7,one (.str ((Utf8.encode v1).data.toList))),(8,one (.int .i64 (w64 ((((Utf8.encode v1).data.toList).length:Int)-1)))),(9,one (.int .i64 v139)),(12,one (.int .i64 1))]) (os':=[]) (O:=[]) kr (sound _ _) trivial ?_
 refine WA.block ?_
 refine WA.loop (fun m s_=>∃(v149:Int),Zl s_.env [0,7,8,9,12]=[(0,one (.str v0)),(7,one (.str ((Utf8.encode v1).data.toList))),(8,one (.int .i64 (w64 ((((Utf8.encode v1).data.toList).length:Int)-1)))),(9,one (.int .i64 v139)),(12,one (.int .i64 v149))]∧Zl s_.os []=[]∧Zgq v0 v1 v139 m v149=some r) k ⟨1,kr,kr,hF⟩ ?_
 clear hF
 rintro m5 s_ ⟨v149,he,ho,hF⟩
 refine WA.keep _ _ he ho ?_
 clear he ho
 cases m5 with
 | zero=>cases hF
 | succ m5=>
  obtain ⟨self5,hself5⟩:∃g,g=Zgq v0 v1 v139 m5:=⟨_,rfl⟩
  have hF:Zk4 self5 v0 v1 v139 v149=some r:=by first | (rw [hself5];exact hF) | exact hF
  refine WA.seq ?_
  refine WA.seq ?_
  refine WA.reg [0,7,8,9,12,51] [] [] (env':=[(0,one (.str v0)),(7,one (.str ((Utf8.encode v1).data.toList))),(8,one (.int .i64 (w64 ((((Utf8.encode v1).data.toList).length:Int)-1)))),(9,one (.int .i64 v139)),(12,one (.int .i64 v149)),(51,one (.bool (decide (v149<(((Utf8.encode v1).data.toList).length:Int)))))]) (os':=[]) (O:=[]) kr (sound _ _) trivial ?_
  refine WA.cond (b:=(decide (v149<(((Utf8.encode v1).data.toList).length:Int)))) rfl (fun hb150=>?_) (fun hb150=>?_)
  {
 have hF:=Zk hF hb150
 refine WA.skip ?_
 refine WA.seq ?_
 refine WA.block ?_
 refine WA.seq ?_
 obtain ⟨y151,hy151,hF⟩:=bind_some hF
 obtain ⟨y152,hy152,hF⟩:=bind_some hF
 refine WA.regD kr [0,7,8,9,12,64] [] [(4,.num (y151.toNat:Int)),(9,.num (y152.toNat:Int))] (env':=[(0,one (.str v0)),(7,one (.str ((Utf8.encode v1).data.toList))),(8,one (.int .i64 (w64 ((((Utf8.encode v1).data.toList).length:Int)-1)))),(9,one (.int .i64 v139)),(12,one (.int .i64 v149)),(64,one (.bool ((y151.toNat:Int) != (y152.toNat:Int))))]) (os':=[]) (O:=[(idxL v0 (w64 (v139-v149))).map (fun b=>(b.toNat:Int))=some (y151.toNat:Int),(idxL ((Utf8.encode v1).data.toList) (w64 ((w64 ((((Utf8.encode v1).data.toList).length:Int)-1))-v149))).map (fun b=>(b.toNat:Int))=some (y152.toNat:Int)]) kr kr (sound _ _) ⟨(by rw [hy151];rfl),(by rw [hy152];rfl),trivial⟩ ?_
 refine WA.cond (b:=((y151.toNat:Int) != (y152.toNat:Int))) rfl (fun hb153=>?_) (fun hb153=>?_)
 {
 have hF:=Zk hF hb153
 cases hF }
 {
 have hF:=Zj hF hb153
 refine WA.skip ?_
 refine WA.reg [0,7,8,9,12] [] [] (env':=[(0,one (.str v0)),(7,one (.str ((Utf8.encode v1).data.toList))),(8,one (.int .i64 (w64 ((((Utf8.encode v1).data.toList).length:Int)-1)))),(9,one (.int .i64 v139)),(12,one (.int .i64 (w64 (v149+1))))]) (os':=[]) (O:=[]) kr (sound _ _) trivial ?_
 exact ⟨m5,Nat.lt_succ_self _,(w64 (v149+1)),kr,kr,by rw [hself5] at hF;exact hF⟩ } }
  {
 have hF:=Zj hF hb150
 refine WA.exit ?_
 refine WA.seq ?_
 refine WA.seq ?_
 refine WA.reg [4] [] [] (env':=[(4,one (.int .i64 (w64 (v139-(w64 ((((Utf8.encode v1).data.toList).length:Int)-1))))))]) (os':=[]) (O:=[]) kr (sound _ _) trivial ?_
 refine WA.ret ?_
 obtain rfl:=Option.some.inj hF
 exact Zp (one (.int .i64 (w64 (v139-(w64 ((((Utf8.encode v1).data.toList).length:Int)-1)))))) [] kr kr kr kr (by decide) rfl rfl } }
 {
 refine WA.seq ?_
 obtain ⟨y132,hy132,hF⟩:=bind_some hF
 obtain ⟨y133,hy133,hF⟩:=bind_some hF
 refine WA.regD kr [0,7,8,9,33] [] [(2,.num (y132.toNat:Int)),(5,.num (y133.toNat:Int))] (env':=[(0,one (.str v0)),(7,one (.str ((Utf8.encode v1).data.toList))),(8,one (.int .i64 (w64 ((((Utf8.encode v1).data.toList).length:Int)-1)))),(9,one (.int .i64 (w64 ((((Utf8.encode v1).data.toList).length:Int)-1)))),(33,one (.bool ((y132.toNat:Int) != (y133.toNat:Int))))]) (os':=[]) (O:=[(idxL v0 (w64 ((((Utf8.encode v1).data.toList).length:Int)-1))).map (fun b=>(b.toNat:Int))=some (y132.toNat:Int),(idxL ((Utf8.encode v1).data.toList) (w64 ((((Utf8.encode v1).data.toList).length:Int)-1))).map (fun b=>(b.toNat:Int))=some (y133.toNat:Int)]) kr kr (sound _ _) ⟨(by rw [hy132];rfl),(by rw [hy133];rfl),trivial⟩ ?_
 refine WA.cond (b:=((y132.toNat:Int) != (y133.toNat:Int))) rfl (fun hb134=>?_) (fun hb134=>?_)
 {
 have hF:=Zk hF hb134
 refine WA.seq ?_
 obtain ⟨hc135,hF⟩:=Zo hF
 obtain ⟨y136,hy136,hF⟩:=bind_some hF
 obtain ⟨y137,hy137,hF⟩:=bind_some hF
 refine WA.regD kr [0,7,8,9,11] [] [(6,.num (y136.toNat:Int)),(7,.callR [] (one (.int .i64 y137)))] (env':=[(0,one (.str v0)),(7,one (.str ((Utf8.encode v1).data.toList))),(8,one (.int .i64 (w64 ((((Utf8.encode v1).data.toList).length:Int)-1)))),(9,one (.int .i64 (w64 ((((Utf8.encode v1).data.toList).length:Int)-1)))),(11,one (.int .i64 y137))]) (os':=[]) (O:=[(0:Int)≤(w64 ((w64 ((((Utf8.encode v1).data.toList).length:Int)-1))+1)),((w64 ((w64 ((((Utf8.encode v1).data.toList).length:Int)-1))+1)):Int)≤(v0.length:Int),(v0.length:Int)≤(v0.length:Int),(idxL ((Utf8.encode v1).data.toList) (w64 ((((Utf8.encode v1).data.toList).length:Int)-1))).map (fun b=>(b.toNat:Int))=some (y136.toNat:Int),Sim Tryz.prog GL0 170 [one (.str ((v0.take (Int.toNat (v0.length:Int))).drop (Int.toNat (w64 ((w64 ((((Utf8.encode v1).data.toList).length:Int)-1))+1))))),one (.int .u8 (y136.toNat:Int))] [] (one (.int .i64 y137)) [],([]:List Nat).Nodup]) kr kr (sound _ _) ⟨hc135.1,hc135.2.1,hc135.2.2,(by rw [hy136];rfl),(Zit k _ _ _ hy137),(by decide),trivial⟩ ?_
 refine WA.seq ?_
 refine WA.seq ?_
 refine WA.reg [0,7,8,9,11,43] [] [] (env':=[(0,one (.str v0)),(7,one (.str ((Utf8.encode v1).data.toList))),(8,one (.int .i64 (w64 ((((Utf8.encode v1).data.toList).length:Int)-1)))),(9,one (.int .i64 (w64 ((((Utf8.encode v1).data.toList).length:Int)-1)))),(11,one (.int .i64 y137)),(43,one (.bool (decide (y137<0))))]) (os':=[]) (O:=[]) kr (sound _ _) trivial ?_
 refine WA.cond (b:=(decide (y137<0))) rfl (fun hb138=>?_) (fun hb138=>?_)
 {
 have hF:=Zk hF hb138
 refine WA.seq ?_
 refine WA.reg [4] [] [] (env':=[(4,one (.int .i64 (-1)))]) (os':=[]) (O:=[]) kr (sound _ _) trivial ?_
 refine WA.ret ?_
 obtain rfl:=Option.some.inj hF
 exact Zp (one (.int .i64 (-1))) [] kr kr kr kr (by decide) rfl rfl }
 {
 have hF:=Zj hF hb138
 refine WA.skip ?_
 refine WA.reg [0,7,8,9] [] [] (env':=[(0,one (.str v0)),(7,one (.str ((Utf8.encode v1).data.toList))),(8,one (.int .i64 (w64 ((((Utf8.encode v1).data.toList).length:Int)-1)))),(9,one (.int .i64 (w64 ((w64 ((((Utf8.encode v1).data.toList).length:Int)-1))+(w64 (y137+1))))))]) (os':=[]) (O:=[]) kr (sound _ _) trivial ?_
 exact ⟨(w64 ((w64 ((((Utf8.encode v1).data.toList).length:Int)-1))+(w64 (y137+1)))),kr,kr,hF⟩ } }
 {
 have hF:=Zj hF hb134
 refine WA.skip ?_
 exact ⟨(w64 ((((Utf8.encode v1).data.toList).length:Int)-1)),kr,kr,hF⟩ } } }
  {
 have hF:=Zj hF hb131
 refine WA.exit ?_
 refine WA.seq ?_
 refine WA.seq ?_
 refine WA.reg [4] [] [] (env':=[(4,one (.int .i64 (-1)))]) (os':=[]) (O:=[]) kr (sound _ _) trivial ?_
 refine WA.ret ?_
 obtain rfl:=Option.some.inj hF
 exact Zp (one (.int .i64 (-1))) [] kr kr kr kr (by decide) rfl rfl } } } } }
 {
 rcases Bool.eq_false_or_eq_true (decide (0≤v1)) with hb101 | hb101
 {
 have hF:=Zk hF hb101
 refine WA.reg [0,1,160] [] [(2,.bool true)] (env':=[(0,one (.str v0)),(1,one (.int .i32 v1)),(160,one (.bool (decide (v1<128))))]) (os':=[]) (O:=[(decide (0≤v1))=true]) kr (sound _ _) ⟨hb101,trivial⟩ ?_
 exact ⟨(decide (v1<128)),kr,kr,hF⟩ }
 {
 have hF:=Zj hF hb101
 refine WA.reg [0,1,160] [] [(2,.bool false)] (env':=[(0,one (.str v0)),(1,one (.int .i32 v1)),(160,one (.bool false))]) (os':=[]) (O:=[(decide (0≤v1))=false]) kr (sound _ _) ⟨hb101,trivial⟩ ?_
 exact ⟨false,kr,kr,hF⟩ } }
def Zjw (k:Nat) (v0:List UInt8) (v1:Int):Option Bool:=
  (F171 k v0 v1).bind fun y101=>(some (decide (y101≥0)))
theorem ZmU (k:Nat) (v0:List UInt8) (v1:Int) (r:Bool) (hF:Zjw k v0 v1=some r):Sim Tryz.prog GL0 141 [one (.str v0),one (.int .i32 v1)] [] (one (.bool r)) []:=by
 refine ZB [] Tryz.func141 rfl kr kr ?_
 show WA _ _ 9 _ _ _
 refine WA.seq ?_
 refine WA.reg [0,1] [] [] (env':=[(0,one (.str v0)),(1,one (.int .i32 v1))]) (os':=[]) (O:=[]) kr (sound _ _) trivial ?_
 refine WA.seq ?_
 obtain ⟨y101,hy101,hF⟩:=bind_some hF
 refine WA.reg [4] [] [(2,.callR [] (one (.int .i64 y101)))] (env':=[(4,one (.bool (decide (y101≥0))))]) (os':=[]) (O:=[Sim Tryz.prog GL0 171 [one (.str v0),one (.int .i32 v1)] [] (one (.int .i64 y101)) [],([]:List Nat).Nodup]) kr (sound _ _) ⟨(Zn6 k _ _ _ hy101),(by decide),trivial⟩ ?_
 refine WA.ret ?_
 obtain rfl:=Option.some.inj hF
 exact Zp (one (.bool (decide (y101≥0)))) [] kr kr kr kr (by decide) rfl rfl
end Go.Proofs.YthilboheomikjaaGreatDoor
end
section
namespace Go.Proofs
open Go.Shelf Go.RowKit Go.Lib
variable {P:Program} {ρ:Ren}
set_option maxHeartbeats 2000000 in
set_option maxRecDepth 1000000 in
theorem ZiH (L:Lays.n152 P ρ) (s:ByteArray) (w:World) (hascii:∀(j:Nat) b,s.data.toList[j]?=some b→b.toNat<128) :
    Calls P (ρ.f 152) #[.string s,.int .i32 65533] w fun e w'=>e = .returned (.int .i64 (-1))∧∃pos,w'=w.iter s pos:=by
  have HA:Aside (∀(j:Nat) b,s.data.toList[j]?=some b→b.toNat<128):=hascii
  clear hascii
  have t3:=L.t3;have a3:=L.a3;have z3:=L.z3;have v3:=L.v3
  have t4:=L.t4;have a4:=L.a4;have z4:=L.z4;have v4:=L.v4
  have t5:=L.t5;have a5:=L.a5;have z5:=L.z5;have v5:=L.v5
  have t9:=L.t9;have a9:=L.a9;have z9:=L.z9;have v9:=L.v9
  have t21:=L.t21;have a21:=L.a21;have z21:=L.z21;have v21:=L.v21
  go_enter L.f152,Body.n152_ntmps ρ
  go_wp2
  go_loopg [5,6] s.size (fun g _ _ wx=>∃i:Nat,i+g=s.size∧wx=w.iter s i)
  case atStart=>exact ⟨0,by omega,rfl⟩
  case round=>
    obtain ⟨i,hig,rfl⟩:=hrel
    cases gk with
    | zero=>
      obtain rfl:i=s.size:=by omega
      have hnx:=run_next_end (P:=P) w s s.size
      go_wp2
      go_ret
      exact ⟨rfl,_,rfl⟩
    | succ g=>
      have hi:i<s.size:=by omega
      obtain ⟨x,hx⟩:∃x:UInt8,s[i]'hi=x:=⟨_,rfl⟩
      have hxl:s.data.toList[i]?=some x:=by rw [←hx];exact Lib.data_getElem? s i hi
      have hx128:x.toNat<128:=HA.out i x hxl
      have hnx:=fun ty=>run_next_ascii (P:=P) w s i ty hi (by rw [hx];exact hx128)
      rw [hx] at hnx
      have hne:((x.toNat:Int) == 65533)=false:=beq_eq_false_iff_ne.2 (by omega)
      go_wp2
      go_roundg g
      case measure=>omega
      case rel=>exact ⟨i+1,by omega,rfl⟩
set_option maxHeartbeats 2000000 in
set_option maxRecDepth 1000000 in
theorem ZgJ (L:Lays.n151 P ρ) (s:ByteArray) (w:World) (hascii:∀(j:Nat) b,s.data.toList[j]?=some b→b.toNat<128) :
    Calls P (ρ.f 151) #[.string s,.int .i32 65533] w fun e w'=>e = .returned (.bool false)∧Below w.heap.size w w':=by
  have HA:Aside (∀(j:Nat) b,s.data.toList[j]?=some b→b.toNat<128):=hascii
  clear hascii
  have t3:=L.t3;have a3:=L.a3;have z3:=L.z3;have v3:=L.v3
  have t4:=L.t4;have a4:=L.a4;have z4:=L.z4;have v4:=L.v4
  have t9:=L.t9;have a9:=L.a9;have z9:=L.z9;have v9:=L.v9
  have t21:=L.t21;have a21:=L.a21;have z21:=L.z21;have v21:=L.v21
  have e152:∀args w,(callFunc (ρ.f 152) args).run P w = .ok (.enter (ρ.f 152) args) w:=enters_of L.f152 (by kernel_rfl) rfl
  go_enter L.f151,Body.n151_ntmps ρ
  go_wp2_with (go_at_fn (ρ.f 152);refine (ZiH { L with } _ _ HA.out).mono ?_;rintro e w' ⟨rfl,pos,hw⟩;rw [hw])
  go_ret
  exact ⟨rfl,(Below.refl _ w).alloc (Nat.le_refl _) _⟩
end Go.Proofs
end
section
namespace Go.Proofs.YthilboheomikjaaGreatDoor
open Go.AL Go.RowKit
def badV:Value:=.iface 70 (.agg #[])
def F141 (k:Nat) (s:List UInt8) (r:Int):Option Bool:=if r=65533 then (if (s.all fun b=>decide (b.toNat<128))=true then some false else none) else Zjw k s r
theorem Zk1 (k:Nat) (v0:List UInt8) (v1:Int) (r:Bool) (hF:F141 k v0 v1=some r):Sim Tryz.prog GL0 141 [one (.str v0),one (.int .i32 v1)] [] (one (.bool r)) []:=by
  unfold F141 at hF
  by_cases h:v1=65533
  · rw [if_pos h] at hF
    obtain ⟨hl,hF⟩:=Zo hF
    obtain rfl:=Option.some.inj hF
    subst h
    refine Zbw fun w I G vs hs ha=>?_
    obtain ⟨vs,rfl,hb⟩:=ZdH ha;clear ha;have ha:=hb;clear hb
    obtain ⟨vs,rfl,hb⟩:=Zj1 ha;clear ha;have ha:=hb;clear hb
    obtain rfl:=ZdG ha
    refine Calls.imp (ZgJ Tryz.lays151 ⟨v0.toArray⟩ w fun j b hb=>?_) ?_
    · have:=List.all_eq_true.1 hl b (List.mem_of_getElem? (by simpa using hb))
      simpa using this
    · rintro e w' ⟨rfl,hb⟩
      exact ⟨_,rfl,fun _ _ _ _=>⟨_,rfl,.bool _⟩,hb⟩
  · rw [if_neg h] at hF
    exact ZmU k v0 v1 r hF
end Go.Proofs.YthilboheomikjaaGreatDoor
end
section
namespace Go.Proofs.YthilboheomikjaaGreatDoor
open Go.AL
set_option maxRecDepth 100000
structure Zi where
  f_s:List UInt8
  f_at:Int
  f_over:Bool
def Zg (x:Zi):List PV:=[.str x.f_s,.int .i64 x.f_at,.bool x.f_over]
def F97 (k:Nat) (v0:Zi) (v1:List UInt8):Option Bool:=
  (if (0:Int)≤v0.f_at∧(v0.f_at:Int)≤(v0.f_s.length:Int)∧(v0.f_s.length:Int)≤(v0.f_s.length:Int) then (F116 k ((v0.f_s.take (Int.toNat (v0.f_s.length:Int))).drop (Int.toNat v0.f_at)) v1).bind fun y102=>(some y102) else none)
theorem ZdF (k:Nat) (v0:Zi) (v1:List UInt8) (r:Bool) (hF:F97 k v0 v1=some r):Sim Tryz.prog GL0 97 [.val false [.ptr 0 1 0 0],one (.str v1)] [.box (pvL (Zg v0))] (one (.bool r)) [.box (pvL (Zg v0))]:=by
 refine ZB [0] Tryz.func97 rfl kr kr ?_
 show WA _ _ 16 _ _ _
 refine WA.seq ?_
 refine WA.reg [0,1] [0] [] (env':=[(0,.val false [.ptr 0 1 0 0]),(1,one (.str v1))]) (os':=[(0,.box (pvL (Zg v0)))]) (O:=[]) kr (sound _ _) trivial ?_
 refine WA.seq ?_
 obtain ⟨hc101,hF⟩:=Zo hF
 obtain ⟨y102,hy102,hF⟩:=bind_some hF
 refine WA.regD kr [4] [0] [(10,.callR [] (one (.bool y102)))] (env':=[(4,one (.bool y102))]) (os':=[(0,.box (pvL (Zg v0)))]) (O:=[(0:Int)≤v0.f_at,(v0.f_at:Int)≤(v0.f_s.length:Int),(v0.f_s.length:Int)≤(v0.f_s.length:Int),Sim Tryz.prog GL0 116 [one (.str ((v0.f_s.take (Int.toNat (v0.f_s.length:Int))).drop (Int.toNat v0.f_at))),one (.str v1)] [] (one (.bool y102)) [],([]:List Nat).Nodup]) kr kr (sound _ _) ⟨hc101.1,hc101.2.1,hc101.2.2,(ZnS k _ _ _ hy102),(by decide),trivial⟩ ?_
 refine WA.ret ?_
 obtain rfl:=Option.some.inj hF
 exact Zp (one (.bool y102)) [.box (pvL (Zg v0))] kr kr kr kr (by decide) rfl rfl
def F71 (k:Nat) (v0:Zi) (v1:List UInt8):Option (Bool×Zi):=
  (F97 k v0 v1).bind fun y101=>(cond (!y101) ((some (false,v0))) ((((some (true,({ v0 with f_at:=(w64 (v0.f_at+(v1.length:Int))) }:Zi)))))))
theorem Zas (k:Nat) (v0:Zi) (v1:List UInt8) (r:Bool×Zi) (hF:F71 k v0 v1=some r):Sim Tryz.prog GL0 71 [.val false [.ptr 0 1 0 0],one (.str v1)] [.box (pvL (Zg v0))] (one (.bool r.1)) [.box (pvL (Zg r.2))]:=by
 refine ZB [0] Tryz.func71 rfl kr kr ?_
 show WA _ _ 19 _ _ _
 refine WA.seq ?_
 refine WA.reg [0,1] [0] [] (env':=[(0,.val false [.ptr 0 1 0 0]),(1,one (.str v1))]) (os':=[(0,.box (pvL (Zg v0)))]) (O:=[]) kr (sound _ _) trivial ?_
 refine WA.seq ?_
 refine WA.seq ?_
 obtain ⟨y101,hy101,hF⟩:=bind_some hF
 refine WA.reg [0,1,8] [0] [(2,.callR [0] (one (.bool y101)))] (env':=[(0,.val false [.ptr 0 1 0 0]),(1,one (.str v1)),(8,one (.bool (!y101)))]) (os':=[(0,.box (pvL (Zg v0)))]) (O:=[Sim Tryz.prog GL0 97 [.val false [.ptr 0 1 0 0],one (.str v1)] [.box (pvL (Zg v0))] (one (.bool y101)) [.box (pvL (Zg v0))],([0]:List Nat).Nodup]) kr (sound _ _) ⟨(ZdF k _ _ _ hy101),(by decide),trivial⟩ ?_
 refine WA.cond (b:=(!y101)) rfl (fun hb102=>?_) (fun hb102=>?_)
 {
 have hF:=Zk hF hb102
 refine WA.seq ?_
 refine WA.reg [4] [0] [] (env':=[(4,one (.bool false))]) (os':=[(0,.box (pvL (Zg v0)))]) (O:=[]) kr (sound _ _) trivial ?_
 refine WA.ret ?_
 obtain rfl:=Option.some.inj hF
 exact Zp (one (.bool false)) [.box (pvL (Zg v0))] kr kr kr kr (by decide) rfl rfl }
 {
 have hF:=Zj hF hb102
 refine WA.skip ?_
 refine WA.seq ?_
 refine WA.reg [] [0] [] (env':=[]) (os':=[(0,.box (pvL (Zg ({ v0 with f_at:=(w64 (v0.f_at+(v1.length:Int))) }:Zi))))]) (O:=[]) kr (sound _ _) trivial ?_
 refine WA.seq ?_
 refine WA.reg [4] [0] [] (env':=[(4,one (.bool true))]) (os':=[(0,.box (pvL (Zg ({ v0 with f_at:=(w64 (v0.f_at+(v1.length:Int))) }:Zi))))]) (O:=[]) kr (sound _ _) trivial ?_
 refine WA.ret ?_
 obtain rfl:=Option.some.inj hF
 exact Zp (one (.bool true)) [.box (pvL (Zg ({ v0 with f_at:=(w64 (v0.f_at+(v1.length:Int))) }:Zi)))] kr kr kr kr (by decide) rfl rfl }
def Zeh (v0:Zi) (y101:Int×Int) (v103:Bool):Option (Option (Int×Zi)):=
  cond v103 (some none) ((((some (some (y101.1,({ v0 with f_at:=(w64 (v0.f_at+y101.2)) }:Zi)))))))
def F140 (k:Nat) (v0:Zi):Option (Option (Int×Zi)):=
  (F55 k v0.f_s v0.f_at).bind fun y101=>(cond (y101.2 == 0) ((Zeh v0 y101 true)) ((Zeh v0 y101 (decide (y101.1<0)))))
theorem Zc6 (k:Nat) (v0:Zi) (r:Option (Int×Zi)) (hF:F140 k v0=some r):SimP Tryz.prog GL0 badV 140 [.val false [.ptr 0 1 0 0]] [.box (pvL (Zg v0))] (r.map fun r=>(one (.int .i64 r.1),[.box (pvL (Zg r.2))])):=by
 refine Zbk [0] Tryz.func140 rfl kr kr ?_
 show WA _ _ 35 _ _ _
 refine WA.seq ?_
 refine WA.reg [0] [0] [] (env':=[(0,.val false [.ptr 0 1 0 0])]) (os':=[(0,.box (pvL (Zg v0)))]) (O:=[]) kr (sound _ _) trivial ?_
 refine WA.seq ?_
 obtain ⟨y101,hy101,hF⟩:=bind_some hF
 refine WA.regD kr [0,3,4] [0] [(8,.callR [] (.tup [(false,[.pv (.int .i64 y101.1)]),(false,[.pv (.int .i64 y101.2)])]))] (env':=[(0,.val false [.ptr 0 1 0 0]),(3,one (.int .i64 y101.1)),(4,one (.int .i64 y101.2))]) (os':=[(0,.box (pvL (Zg v0)))]) (O:=[Sim Tryz.prog GL0 55 [one (.str v0.f_s),one (.int .i64 v0.f_at)] [] (.tup [(false,[.pv (.int .i64 y101.1)]),(false,[.pv (.int .i64 y101.2)])]) [],([]:List Nat).Nodup]) kr kr (sound _ _) ⟨(ZjR k _ _ _ hy101),(by decide),trivial⟩ ?_
 refine WA.seq ?_
 refine WA.join (fun s_=>∃(v103:Bool),Zl s_.env [0,3,4,22]=[(0,.val false [.ptr 0 1 0 0]),(3,one (.int .i64 y101.1)),(4,one (.int .i64 y101.2)),(22,one (.bool v103))]∧Zl s_.os [0]=[(0,.box (pvL (Zg v0)))]∧Zeh v0 y101 v103=some r) ?_ ?_
 {
 rintro s_ ⟨v103,he,ho,hF⟩
 refine WA.keep _ _ he ho ?_
 clear he ho
 refine WA.cond (b:=v103) rfl (fun hb104=>?_) (fun hb104=>?_)
 {
 have hF:=Zk hF hb104
 refine WA.bad [] (t:=70) (env1:=[]) (os1:=[(0,.box (pvL (Zg v0)))]) (O:=[]) kr (sound _ _) trivial ?_
 obtain rfl:=Option.some.inj hF
 exact ⟨rfl,[(Zg v0)],kr,rfl⟩ }
 {
 have hF:=Zj hF hb104
 refine WA.skip ?_
 refine WA.seq ?_
 refine WA.reg [3] [0] [] (env':=[(3,one (.int .i64 y101.1))]) (os':=[(0,.box (pvL (Zg ({ v0 with f_at:=(w64 (v0.f_at+y101.2)) }:Zi))))]) (O:=[]) kr (sound _ _) trivial ?_
 refine WA.seq ?_
 refine WA.reg [2] [0] [] (env':=[(2,one (.int .i64 y101.1))]) (os':=[(0,.box (pvL (Zg ({ v0 with f_at:=(w64 (v0.f_at+y101.2)) }:Zi))))]) (O:=[]) kr (sound _ _) trivial ?_
 refine WA.ret ?_
 obtain rfl:=Option.some.inj hF
 exact Zp (one (.int .i64 y101.1)) [.box (pvL (Zg ({ v0 with f_at:=(w64 (v0.f_at+y101.2)) }:Zi)))] kr kr kr kr (by decide) rfl rfl } }
 {
 rcases Bool.eq_false_or_eq_true (y101.2 == 0) with hb102 | hb102
 {
 have hF:=Zk hF hb102
 refine WA.reg [0,3,4,22] [0] [(2,.bool true)] (env':=[(0,.val false [.ptr 0 1 0 0]),(3,one (.int .i64 y101.1)),(4,one (.int .i64 y101.2)),(22,one (.bool true))]) (os':=[(0,.box (pvL (Zg v0)))]) (O:=[(y101.2 == 0)=true]) kr (sound _ _) ⟨hb102,trivial⟩ ?_
 exact ⟨true,kr,kr,hF⟩ }
 {
 have hF:=Zj hF hb102
 refine WA.reg [0,3,4,22] [0] [(2,.bool false)] (env':=[(0,.val false [.ptr 0 1 0 0]),(3,one (.int .i64 y101.1)),(4,one (.int .i64 y101.2)),(22,one (.bool (decide (y101.1<0))))]) (os':=[(0,.box (pvL (Zg v0)))]) (O:=[(y101.2 == 0)=false]) kr (sound _ _) ⟨hb102,trivial⟩ ?_
 exact ⟨(decide (y101.1<0)),kr,kr,hF⟩ } }
def Zge (y128:Int) (v130:Zi):Option (Option (Int×Zi)):=
  (some (some (y128,v130)))
def Zb3 (k:Nat) (v0:Zi) (v116:Zi) (v125:Bool):Option (Option (Int×Zi)):=
  cond v125 (some none) ((if (0:Int)≤v0.f_at∧(v0.f_at:Int)≤v116.f_at∧v116.f_at≤(v116.f_s.length:Int) then (F172 k ((v116.f_s.take (Int.toNat v116.f_at)).drop (Int.toNat v0.f_at))).bind fun y128=>(cond v116.f_over ((Zge y128 ({ v116 with f_over:=true }:Zi))) ((Zge y128 ({ v116 with f_over:=(decide (y128 > 20)) }:Zi)))) else none))
def Zb2 (k:Nat) (self2:Zi→Option (Option (Int×Zi))) (v0:Zi) (v116:Zi) (v122:Bool):Option (Option (Int×Zi)):=
  cond v122 ((self2 ({ v116 with f_at:=(w64 (v116.f_at+1)) }:Zi))) ((cond (v116.f_at == v0.f_at) ((Zb3 k v0 v116 true)) ((Zb3 k v0 v116 (decide (v116.f_at > (w64 (v0.f_at+3))))))))
def Zc7 (k:Nat) (self2:Zi→Option (Option (Int×Zi))) (v0:Zi) (v116:Zi):Option (Option (Int×Zi)):=
  cond (decide (v116.f_at<(v116.f_s.length:Int))) (cond (decide (v116.f_at<(w64 (v0.f_at+4)))) ((idxL v116.f_s v116.f_at).bind fun y119=>cond (decide ((y119.toNat:Int)≥48)) ((idxL v116.f_s v116.f_at).bind fun y121=>(Zb2 k self2 v0 v116 (decide ((y121.toNat:Int)≤57)))) ((Zb2 k self2 v0 v116 false))) ((Zb2 k self2 v0 v116 false))) ((Zb2 k self2 v0 v116 false))
def ZaI (k:Nat) (v0:Zi):Nat→Zi→Option (Option (Int×Zi))
  | 0,_=>none
  | m_+1,v116=>Zc7 k (ZaI k v0 m_) v0 v116
def F142 (k:Nat) (v0:Zi):Option (Option (Int×Zi)):=
  ((ZaI k v0 k v0))
theorem Zgf (k:Nat) (v0:Zi) (r:Option (Int×Zi)) (hF:F142 k v0=some r):SimP Tryz.prog GL0 badV 142 [.val false [.ptr 0 1 0 0]] [.box (pvL (Zg v0))] (r.map fun r=>(one (.int .i64 r.1),[.box (pvL (Zg r.2))])):=by
 refine Zbk [0] Tryz.func142 rfl kr kr ?_
 show WA _ _ 103 _ _ _
 refine WA.seq ?_
 refine WA.reg [0] [0] [] (env':=[(0,.val false [.ptr 0 1 0 0])]) (os':=[(0,.box (pvL (Zg v0)))]) (O:=[]) kr (sound _ _) trivial ?_
 refine WA.seq ?_
 refine WA.reg [0,3] [0] [] (env':=[(0,.val false [.ptr 0 1 0 0]),(3,one (.int .i64 v0.f_at))]) (os':=[(0,.box (pvL (Zg v0)))]) (O:=[]) kr (sound _ _) trivial ?_
 refine WA.seq ?_
 refine WA.block ?_
 refine WA.loop (fun m s_=>∃(v116:Zi),Zl s_.env [0,3]=[(0,.val false [.ptr 0 1 0 0]),(3,one (.int .i64 v0.f_at))]∧Zl s_.os [0]=[(0,.box (pvL (Zg v116)))]∧ZaI k v0 m v116=some r) k ⟨v0,kr,kr,hF⟩ ?_
 clear hF
 rintro m2 s_ ⟨v116,he,ho,hF⟩
 refine WA.keep _ _ he ho ?_
 clear he ho
 cases m2 with
 | zero=>cases hF
 | succ m2=>
  obtain ⟨self2,hself2⟩:∃g,g=ZaI k v0 m2:=⟨_,rfl⟩
  have hF:Zc7 k self2 v0 v116=some r:=by first | (rw [hself2];exact hF) | exact hF
  refine WA.seq ?_
  refine WA.join (fun s_=>∃(v122:Bool),Zl s_.env [0,3,52]=[(0,.val false [.ptr 0 1 0 0]),(3,one (.int .i64 v0.f_at)),(52,one (.bool v122))]∧Zl s_.os [0]=[(0,.box (pvL (Zg v116)))]∧Zb2 k self2 v0 v116 v122=some r) ?_ ?_
  {
 rintro s_ ⟨v122,he,ho,hF⟩
 refine WA.keep _ _ he ho ?_
 clear he ho
 refine WA.cond (b:=v122) rfl (fun hb123=>?_) (fun hb123=>?_)
 {
 have hF:=Zk hF hb123
 refine WA.skip ?_
 refine WA.block ?_
 refine WA.reg [0,3] [0] [] (env':=[(0,.val false [.ptr 0 1 0 0]),(3,one (.int .i64 v0.f_at))]) (os':=[(0,.box (pvL (Zg ({ v116 with f_at:=(w64 (v116.f_at+1)) }:Zi))))]) (O:=[]) kr (sound _ _) trivial ?_
 exact ⟨m2,Nat.lt_succ_self _,({ v116 with f_at:=(w64 (v116.f_at+1)) }:Zi),kr,kr,by rw [hself2] at hF;exact hF⟩ }
 {
 have hF:=Zj hF hb123
 refine WA.exit ?_
 refine WA.seq ?_
 refine WA.join (fun s_=>∃(v125:Bool),Zl s_.env [0,3,74]=[(0,.val false [.ptr 0 1 0 0]),(3,one (.int .i64 v0.f_at)),(74,one (.bool v125))]∧Zl s_.os [0]=[(0,.box (pvL (Zg v116)))]∧Zb3 k v0 v116 v125=some r) ?_ ?_
 {
 rintro s_ ⟨v125,he,ho,hF⟩
 refine WA.keep _ _ he ho ?_
 clear he ho
 refine WA.cond (b:=v125) rfl (fun hb126=>?_) (fun hb126=>?_)
 {
 have hF:=Zk hF hb126
 refine WA.bad [] (t:=70) (env1:=[]) (os1:=[(0,.box (pvL (Zg v116)))]) (O:=[]) kr (sound _ _) trivial ?_
 obtain rfl:=Option.some.inj hF
 exact ⟨rfl,[(Zg v116)],kr,rfl⟩ }
 {
 have hF:=Zj hF hb126
 refine WA.skip ?_
 refine WA.seq ?_
 obtain ⟨hc127,hF⟩:=Zo hF
 obtain ⟨y128,hy128,hF⟩:=bind_some hF
 refine WA.regD kr [0,4] [0] [(10,.callR [] (.tup [(false,[.pv (.int .i64 y128)]),(false,[.pv .nilif])]))] (env':=[(0,.val false [.ptr 0 1 0 0]),(4,one (.int .i64 y128))]) (os':=[(0,.box (pvL (Zg v116)))]) (O:=[(0:Int)≤v0.f_at,(v0.f_at:Int)≤v116.f_at,v116.f_at≤(v116.f_s.length:Int),Sim Tryz.prog GL0 172 [one (.str ((v116.f_s.take (Int.toNat v116.f_at)).drop (Int.toNat v0.f_at)))] [] (.tup [(false,[.pv (.int .i64 y128)]),(false,[.pv .nilif])]) [],([]:List Nat).Nodup]) kr kr (sound _ _) ⟨hc127.1,hc127.2.1,hc127.2.2,(Zn7 k _ _ hy128),(by decide),trivial⟩ ?_
 refine WA.join (fun s_=>∃(v130:Zi),Zl s_.env [4]=[(4,one (.int .i64 y128))]∧Zl s_.os [0]=[(0,.box (pvL (Zg v130)))]∧Zge y128 v130=some r) ?_ ?_
 {
 rintro s_ ⟨v130,he,ho,hF⟩
 refine WA.keep _ _ he ho ?_
 clear he ho
 refine WA.seq ?_
 refine WA.reg [2] [0] [] (env':=[(2,one (.int .i64 y128))]) (os':=[(0,.box (pvL (Zg v130)))]) (O:=[]) kr (sound _ _) trivial ?_
 refine WA.ret ?_
 obtain rfl:=Option.some.inj hF
 exact Zp (one (.int .i64 y128)) [.box (pvL (Zg v130))] kr kr kr kr (by decide) rfl rfl }
 {
 rcases Bool.eq_false_or_eq_true v116.f_over with hb129 | hb129
 {
 have hF:=Zk hF hb129
 refine WA.reg [4] [0] [(5,.bool true)] (env':=[(4,one (.int .i64 y128))]) (os':=[(0,.box (pvL (Zg ({ v116 with f_over:=true }:Zi))))]) (O:=[v116.f_over=true]) kr (sound _ _) ⟨hb129,trivial⟩ ?_
 exact ⟨({ v116 with f_over:=true }:Zi),kr,kr,hF⟩ }
 {
 have hF:=Zj hF hb129
 refine WA.reg [4] [0] [(5,.bool false)] (env':=[(4,one (.int .i64 y128))]) (os':=[(0,.box (pvL (Zg ({ v116 with f_over:=(decide (y128 > 20)) }:Zi))))]) (O:=[v116.f_over=false]) kr (sound _ _) ⟨hb129,trivial⟩ ?_
 exact ⟨({ v116 with f_over:=(decide (y128 > 20)) }:Zi),kr,kr,hF⟩ } } } }
 {
 rcases Bool.eq_false_or_eq_true (v116.f_at == v0.f_at) with hb124 | hb124
 {
 have hF:=Zk hF hb124
 refine WA.reg [0,3,74] [0] [(6,.bool true)] (env':=[(0,.val false [.ptr 0 1 0 0]),(3,one (.int .i64 v0.f_at)),(74,one (.bool true))]) (os':=[(0,.box (pvL (Zg v116)))]) (O:=[(v116.f_at == v0.f_at)=true]) kr (sound _ _) ⟨hb124,trivial⟩ ?_
 exact ⟨true,kr,kr,hF⟩ }
 {
 have hF:=Zj hF hb124
 refine WA.reg [0,3,74] [0] [(6,.bool false)] (env':=[(0,.val false [.ptr 0 1 0 0]),(3,one (.int .i64 v0.f_at)),(74,one (.bool (decide (v116.f_at > (w64 (v0.f_at+3))))))]) (os':=[(0,.box (pvL (Zg v116)))]) (O:=[(v116.f_at == v0.f_at)=false]) kr (sound _ _) ⟨hb124,trivial⟩ ?_
 exact ⟨(decide (v116.f_at > (w64 (v0.f_at+3)))),kr,kr,hF⟩ } } } }
  {
 rcases Bool.eq_false_or_eq_true (decide (v116.f_at<(v116.f_s.length:Int))) with hb117 | hb117
 {
 have hF:=Zk hF hb117
 rcases Bool.eq_false_or_eq_true (decide (v116.f_at<(w64 (v0.f_at+4)))) with hb118 | hb118
 {
 have hF:=Zk hF hb118
 obtain ⟨y119,hy119,hF⟩:=bind_some hF
 rcases Bool.eq_false_or_eq_true (decide ((y119.toNat:Int)≥48)) with hb120 | hb120
 {
 have hF:=Zk hF hb120
 obtain ⟨y121,hy121,hF⟩:=bind_some hF
 refine WA.regD kr [0,3,52] [0] [(10,.bool true),(19,.bool true),(28,.num (y119.toNat:Int)),(31,.bool true),(40,.num (y121.toNat:Int))] (env':=[(0,.val false [.ptr 0 1 0 0]),(3,one (.int .i64 v0.f_at)),(52,one (.bool (decide ((y121.toNat:Int)≤57))))]) (os':=[(0,.box (pvL (Zg v116)))]) (O:=[(decide (v116.f_at<(v116.f_s.length:Int)))=true,(decide (v116.f_at<(w64 (v0.f_at+4))))=true,(idxL v116.f_s v116.f_at).map (fun b=>(b.toNat:Int))=some (y119.toNat:Int),(decide ((y119.toNat:Int)≥48))=true,(idxL v116.f_s v116.f_at).map (fun b=>(b.toNat:Int))=some (y121.toNat:Int)]) kr kr (sound _ _) ⟨hb117,hb118,(by rw [hy119];rfl),hb120,(by rw [hy121];rfl),trivial⟩ ?_
 exact ⟨(decide ((y121.toNat:Int)≤57)),kr,kr,hF⟩ }
 {
 have hF:=Zj hF hb120
 refine WA.regD kr [0,3,52] [0] [(10,.bool true),(19,.bool true),(28,.num (y119.toNat:Int)),(31,.bool false)] (env':=[(0,.val false [.ptr 0 1 0 0]),(3,one (.int .i64 v0.f_at)),(52,one (.bool false))]) (os':=[(0,.box (pvL (Zg v116)))]) (O:=[(decide (v116.f_at<(v116.f_s.length:Int)))=true,(decide (v116.f_at<(w64 (v0.f_at+4))))=true,(idxL v116.f_s v116.f_at).map (fun b=>(b.toNat:Int))=some (y119.toNat:Int),(decide ((y119.toNat:Int)≥48))=false]) kr kr (sound _ _) ⟨hb117,hb118,(by rw [hy119];rfl),hb120,trivial⟩ ?_
 exact ⟨false,kr,kr,hF⟩ } }
 {
 have hF:=Zj hF hb118
 refine WA.regD kr [0,3,52] [0] [(10,.bool true),(19,.bool false)] (env':=[(0,.val false [.ptr 0 1 0 0]),(3,one (.int .i64 v0.f_at)),(52,one (.bool false))]) (os':=[(0,.box (pvL (Zg v116)))]) (O:=[(decide (v116.f_at<(v116.f_s.length:Int)))=true,(decide (v116.f_at<(w64 (v0.f_at+4))))=false]) kr kr (sound _ _) ⟨hb117,hb118,trivial⟩ ?_
 exact ⟨false,kr,kr,hF⟩ } }
 {
 have hF:=Zj hF hb117
 refine WA.regD kr [0,3,52] [0] [(10,.bool false)] (env':=[(0,.val false [.ptr 0 1 0 0]),(3,one (.int .i64 v0.f_at)),(52,one (.bool false))]) (os':=[(0,.box (pvL (Zg v116)))]) (O:=[(decide (v116.f_at<(v116.f_s.length:Int)))=false]) kr kr (sound _ _) ⟨hb117,trivial⟩ ?_
 exact ⟨false,kr,kr,hF⟩ } }
def ZaX (k:Nat) (y101:Int×Zi) (v108:Zi) (v109:Int):Option (Option (Int×Int×Zi)):=
  (F71 k v108 ([125]:List UInt8)).bind fun y110=>(cond (!y110.1) (some none) (((some (some (y101.1,v109,y110.2))))))
def F118 (k:Nat) (v0:Zi):Option (Option (Int×Int×Zi)):=
  (orP (F142 k v0) fun y101=>((F71 k y101.2 ([44]:List UInt8)).bind fun y102=>(cond y102.1 ((F97 k y102.2 ([125]:List UInt8)).bind fun y104=>(cond (!y104) (orP (F142 k y102.2) fun y106=>(cond y106.2.f_over ((ZaX k y101 ({ y106.2 with f_over:=true }:Zi) y106.1)) ((ZaX k y101 ({ y106.2 with f_over:=(decide (y106.1<y101.1)) }:Zi) y106.1)))) ((ZaX k y101 y102.2 (-1))))) ((ZaX k y101 y102.2 y101.1)))))
theorem ZkY (k:Nat) (v0:Zi) (r:Option (Int×Int×Zi)) (hF:F118 k v0=some r):SimP Tryz.prog GL0 badV 118 [.val false [.ptr 0 1 0 0]] [.box (pvL (Zg v0))] (r.map fun r=>(.tup [(false,[.pv (.int .i64 r.1)]),(false,[.pv (.int .i64 r.2.1)])],[.box (pvL (Zg r.2.2))])):=by
 refine Zbk [0] Tryz.func118 rfl kr kr ?_
 show WA _ _ 35 _ _ _
 refine WA.seq ?_
 refine WA.reg [0] [0] [] (env':=[(0,.val false [.ptr 0 1 0 0])]) (os':=[(0,.box (pvL (Zg v0)))]) (O:=[]) kr (sound _ _) trivial ?_
 refine WA.seq ?_
 rcases Z7 hF with ⟨hz,hr⟩ | ⟨y101,hy101,hF⟩
 {
 subst hr
 refine WA.regP 1 [0] [] [] badV (f:=142) (args:=[.val false [.ptr 0 1 0 0]]) (os:=[.box (pvL (Zg v0))]) (env1:=[]) (os1:=[(0,.box (pvL (Zg v0)))]) (O:=[]) kr (sound _ _) trivial (by decide) (Zgf k _ _ hz) (fun psl hpsl=>?_)
 obtain ⟨ps,rfl⟩:=ZV hpsl
 exact ⟨rfl,[ps],kr,rfl⟩ }
 {
 refine WA.reg [0,4] [0] [(1,.call [0] (one (.int .i64 y101.1)) [.box (pvL (Zg y101.2))] [])] (env':=[(0,.val false [.ptr 0 1 0 0]),(4,one (.int .i64 y101.1))]) (os':=[(0,.box (pvL (Zg y101.2)))]) (O:=[Sim Tryz.prog GL0 142 [.val false [.ptr 0 1 0 0]] [.box (pvL (Zg v0))] (one (.int .i64 y101.1)) [.box (pvL (Zg y101.2))],([0]:List Nat).Nodup]) kr (sound _ _) ⟨(Zgf k _ _ hy101),(by decide),trivial⟩ ?_
 refine WA.seq ?_
 refine WA.reg [0,4,5] [0] [] (env':=[(0,.val false [.ptr 0 1 0 0]),(4,one (.int .i64 y101.1)),(5,one (.int .i64 y101.1))]) (os':=[(0,.box (pvL (Zg y101.2)))]) (O:=[]) kr (sound _ _) trivial ?_
 refine WA.join (fun s_=>∃(v108:Zi) (v109:Int),Zl s_.env [0,4,5]=[(0,.val false [.ptr 0 1 0 0]),(4,one (.int .i64 y101.1)),(5,one (.int .i64 v109))]∧Zl s_.os [0]=[(0,.box (pvL (Zg v108)))]∧ZaX k y101 v108 v109=some r) ?_ ?_
 {
 rintro s_ ⟨v108,v109,he,ho,hF⟩
 refine WA.keep _ _ he ho ?_
 clear he ho
 refine WA.seq ?_
 refine WA.seq ?_
 obtain ⟨y110,hy110,hF⟩:=bind_some hF
 refine WA.reg [4,5,30] [0] [(1,.call [0] (one (.bool y110.1)) [.box (pvL (Zg y110.2))] [])] (env':=[(4,one (.int .i64 y101.1)),(5,one (.int .i64 v109)),(30,one (.bool (!y110.1)))]) (os':=[(0,.box (pvL (Zg y110.2)))]) (O:=[Sim Tryz.prog GL0 71 [.val false [.ptr 0 1 0 0],one (.str ([125]:List UInt8))] [.box (pvL (Zg v108))] (one (.bool y110.1)) [.box (pvL (Zg y110.2))],([0]:List Nat).Nodup]) kr (sound _ _) ⟨(Zas k _ _ _ hy110),(by decide),trivial⟩ ?_
 refine WA.cond (b:=(!y110.1)) rfl (fun hb111=>?_) (fun hb111=>?_)
 {
 have hF:=Zk hF hb111
 refine WA.bad [] (t:=70) (env1:=[]) (os1:=[(0,.box (pvL (Zg y110.2)))]) (O:=[]) kr (sound _ _) trivial ?_
 obtain rfl:=Option.some.inj hF
 exact ⟨rfl,[(Zg y110.2)],kr,rfl⟩ }
 {
 have hF:=Zj hF hb111
 refine WA.skip ?_
 refine WA.seq ?_
 refine WA.reg [2,3] [0] [] (env':=[(2,one (.int .i64 y101.1)),(3,one (.int .i64 v109))]) (os':=[(0,.box (pvL (Zg y110.2)))]) (O:=[]) kr (sound _ _) trivial ?_
 refine WA.ret ?_
 obtain rfl:=Option.some.inj hF
 exact Zp (.tup [(false,[.pv (.int .i64 y101.1)]),(false,[.pv (.int .i64 v109)])]) [.box (pvL (Zg y110.2))] kr kr kr kr (by decide) rfl rfl } }
 {
 refine WA.seq ?_
 obtain ⟨y102,hy102,hF⟩:=bind_some hF
 refine WA.reg [0,4,5,10] [0] [(1,.call [0] (one (.bool y102.1)) [.box (pvL (Zg y102.2))] [])] (env':=[(0,.val false [.ptr 0 1 0 0]),(4,one (.int .i64 y101.1)),(5,one (.int .i64 y101.1)),(10,one (.bool y102.1))]) (os':=[(0,.box (pvL (Zg y102.2)))]) (O:=[Sim Tryz.prog GL0 71 [.val false [.ptr 0 1 0 0],one (.str ([44]:List UInt8))] [.box (pvL (Zg y101.2))] (one (.bool y102.1)) [.box (pvL (Zg y102.2))],([0]:List Nat).Nodup]) kr (sound _ _) ⟨(Zas k _ _ _ hy102),(by decide),trivial⟩ ?_
 refine WA.cond (b:=y102.1) rfl (fun hb103=>?_) (fun hb103=>?_)
 {
 have hF:=Zk hF hb103
 refine WA.seq ?_
 refine WA.reg [0,4,5] [0] [] (env':=[(0,.val false [.ptr 0 1 0 0]),(4,one (.int .i64 y101.1)),(5,one (.int .i64 (-1)))]) (os':=[(0,.box (pvL (Zg y102.2)))]) (O:=[]) kr (sound _ _) trivial ?_
 refine WA.seq ?_
 obtain ⟨y104,hy104,hF⟩:=bind_some hF
 refine WA.reg [0,4,5,13] [0] [(1,.callR [0] (one (.bool y104)))] (env':=[(0,.val false [.ptr 0 1 0 0]),(4,one (.int .i64 y101.1)),(5,one (.int .i64 (-1))),(13,one (.bool (!y104)))]) (os':=[(0,.box (pvL (Zg y102.2)))]) (O:=[Sim Tryz.prog GL0 97 [.val false [.ptr 0 1 0 0],one (.str ([125]:List UInt8))] [.box (pvL (Zg y102.2))] (one (.bool y104)) [.box (pvL (Zg y102.2))],([0]:List Nat).Nodup]) kr (sound _ _) ⟨(ZdF k _ _ _ hy104),(by decide),trivial⟩ ?_
 refine WA.cond (b:=(!y104)) rfl (fun hb105=>?_) (fun hb105=>?_)
 {
 have hF:=Zk hF hb105
 refine WA.seq ?_
 rcases Z7 hF with ⟨hz,hr⟩ | ⟨y106,hy106,hF⟩
 {
 subst hr
 refine WA.regP 1 [0] [] [] badV (f:=142) (args:=[.val false [.ptr 0 1 0 0]]) (os:=[.box (pvL (Zg y102.2))]) (env1:=[]) (os1:=[(0,.box (pvL (Zg y102.2)))]) (O:=[]) kr (sound _ _) trivial (by decide) (Zgf k _ _ hz) (fun psl hpsl=>?_)
 obtain ⟨ps,rfl⟩:=ZV hpsl
 exact ⟨rfl,[ps],kr,rfl⟩ }
 {
 refine WA.reg [0,4,5] [0] [(1,.call [0] (one (.int .i64 y106.1)) [.box (pvL (Zg y106.2))] [])] (env':=[(0,.val false [.ptr 0 1 0 0]),(4,one (.int .i64 y101.1)),(5,one (.int .i64 y106.1))]) (os':=[(0,.box (pvL (Zg y106.2)))]) (O:=[Sim Tryz.prog GL0 142 [.val false [.ptr 0 1 0 0]] [.box (pvL (Zg y102.2))] (one (.int .i64 y106.1)) [.box (pvL (Zg y106.2))],([0]:List Nat).Nodup]) kr (sound _ _) ⟨(Zgf k _ _ hy106),(by decide),trivial⟩ ?_
 rcases Bool.eq_false_or_eq_true y106.2.f_over with hb107 | hb107
 {
 have hF:=Zk hF hb107
 refine WA.reg [0,4,5] [0] [(5,.bool true)] (env':=[(0,.val false [.ptr 0 1 0 0]),(4,one (.int .i64 y101.1)),(5,one (.int .i64 y106.1))]) (os':=[(0,.box (pvL (Zg ({ y106.2 with f_over:=true }:Zi))))]) (O:=[y106.2.f_over=true]) kr (sound _ _) ⟨hb107,trivial⟩ ?_
 exact ⟨({ y106.2 with f_over:=true }:Zi),y106.1,kr,kr,hF⟩ }
 {
 have hF:=Zj hF hb107
 refine WA.reg [0,4,5] [0] [(5,.bool false)] (env':=[(0,.val false [.ptr 0 1 0 0]),(4,one (.int .i64 y101.1)),(5,one (.int .i64 y106.1))]) (os':=[(0,.box (pvL (Zg ({ y106.2 with f_over:=(decide (y106.1<y101.1)) }:Zi))))]) (O:=[y106.2.f_over=false]) kr (sound _ _) ⟨hb107,trivial⟩ ?_
 exact ⟨({ y106.2 with f_over:=(decide (y106.1<y101.1)) }:Zi),y106.1,kr,kr,hF⟩ } } }
 {
 have hF:=Zj hF hb105
 refine WA.skip ?_
 exact ⟨y102.2,(-1),kr,kr,hF⟩ } }
 {
 have hF:=Zj hF hb103
 refine WA.skip ?_
 exact ⟨y102.2,y101.1,kr,kr,hF⟩ } } }
def Zc5 (y101:Int×Zi) (v109:Int):Option (Option ((List Zb)×Zi)):=
  (some (some (([(⟨v109,v109⟩:Zb)]:List Zb),y101.2)))
def Zeg (y101:Int×Zi) (v107:Bool):Option (Option ((List Zb)×Zi)):=
  cond v107 (some none) ((Zc5 y101 y101.1))
def F139 (k:Nat) (v0:Zi) (v1:List UInt8):Option (Option ((List Zb)×Zi)):=
  (orP (F140 k v0) fun y101=>((cond (y101.1 == 100) ((some (some (([(⟨48,57⟩:Zb)]:List Zb),y101.2)))) ((cond (y101.1 == 110) ((Zc5 y101 10)) ((cond (y101.1 == 116) ((Zc5 y101 9)) (cond (decide (y101.1 > 126)) ((Zeg y101 true)) ((F170 k v1 (IntKind.wrap .u8 y101.1)).bind fun y106=>(Zeg y101 (decide (y106<0))))))))))))
theorem Zgd (k:Nat) (v0:Zi) (v1:List UInt8) (r:Option ((List Zb)×Zi)) (hF:F139 k v0 v1=some r):SimP Tryz.prog GL0 badV 139 [.val false [.ptr 0 1 0 0],one (.str v1)] [.box (pvL (Zg v0))] (r.map fun r=>(.val false [.arr 1 r.1.length],[.box (pvL (Zg r.2)),.arr 2 (r.1.map Za)])):=by
 refine Zbk [0,900] Tryz.func139 rfl kr kr ?_
 show WA _ _ 35 _ _ _
 refine WA.seq ?_
 refine WA.reg [0,1] [0] [(0,.obj 900)] (env':=[(0,.val false [.ptr 0 1 0 0]),(1,one (.str v1))]) (os':=[(0,.box (pvL (Zg v0)))]) (O:=[]) kr (sound _ _) trivial ?_
 refine WA.seq ?_
 rcases Z7 hF with ⟨hz,hr⟩ | ⟨y101,hy101,hF⟩
 {
 subst hr
 refine WA.regP 1 [0] [] [] badV (f:=140) (args:=[.val false [.ptr 0 1 0 0]]) (os:=[.box (pvL (Zg v0))]) (env1:=[]) (os1:=[(0,.box (pvL (Zg v0)))]) (O:=[]) kr (sound _ _) trivial (by decide) (Zc6 k _ _ hz) (fun psl hpsl=>?_)
 obtain ⟨ps,rfl⟩:=ZV hpsl
 exact ⟨rfl,[ps],kr,rfl⟩ }
 {
 refine WA.reg [1,5] [0] [(1,.call [0] (one (.int .i64 y101.1)) [.box (pvL (Zg y101.2))] [])] (env':=[(1,one (.str v1)),(5,one (.int .i64 y101.1))]) (os':=[(0,.box (pvL (Zg y101.2)))]) (O:=[Sim Tryz.prog GL0 140 [.val false [.ptr 0 1 0 0]] [.box (pvL (Zg v0))] (one (.int .i64 y101.1)) [.box (pvL (Zg y101.2))],([0]:List Nat).Nodup]) kr (sound _ _) ⟨(Zc6 k _ _ hy101),(by decide),trivial⟩ ?_
 refine WA.join (fun s_=>∃(v109:Int),Zl s_.env [5]=[(5,one (.int .i64 v109))]∧Zl s_.os [0]=[(0,.box (pvL (Zg y101.2)))]∧Zc5 y101 v109=some r) ?_ ?_
 {
 rintro s_ ⟨v109,he,ho,hF⟩
 refine WA.keep _ _ he ho ?_
 clear he ho
 refine WA.seq ?_
 refine WA.reg [4] [0,900] [(3,.obj 900)] (env':=[(4,.val false [.arr 900 1])]) (os':=[(0,.box (pvL (Zg y101.2))),(900,.arr 2 (([(⟨v109,v109⟩:Zb)]:List Zb).map Za))]) (O:=[]) kr (sound _ _) trivial ?_
 refine WA.ret ?_
 obtain rfl:=Option.some.inj hF
 exact Zp (.val false [.arr 900 1]) [.box (pvL (Zg y101.2)),.arr 2 (([(⟨v109,v109⟩:Zb)]:List Zb).map Za)] kr (by have h0_:1=(([(⟨v109,v109⟩:Zb)]:List Zb):List _).length:=zt;rw [h0_] <;> rfl) kr kr (by decide) rfl rfl }
 {
 refine WA.block ?_
 refine WA.seq ?_
 refine WA.reg [1,5,8] [0] [] (env':=[(1,one (.str v1)),(5,one (.int .i64 y101.1)),(8,one (.bool (y101.1 == 100)))]) (os':=[(0,.box (pvL (Zg y101.2)))]) (O:=[]) kr (sound _ _) trivial ?_
 refine WA.cond (b:=(y101.1 == 100)) rfl (fun hb102=>?_) (fun hb102=>?_)
 {
 have hF:=Zk hF hb102
 refine WA.seq ?_
 refine WA.reg [4] [0,900] [(1,.obj 900)] (env':=[(4,.val false [.arr 900 1])]) (os':=[(0,.box (pvL (Zg y101.2))),(900,.arr 2 (([(⟨48,57⟩:Zb)]:List Zb).map Za))]) (O:=[]) kr (sound _ _) trivial ?_
 refine WA.ret ?_
 obtain rfl:=Option.some.inj hF
 exact Zp (.val false [.arr 900 1]) [.box (pvL (Zg y101.2)),.arr 2 (([(⟨48,57⟩:Zb)]:List Zb).map Za)] kr (by have h0_:1=(([(⟨48,57⟩:Zb)]:List Zb):List _).length:=zt;rw [h0_] <;> rfl) kr kr (by decide) rfl rfl }
 {
 have hF:=Zj hF hb102
 refine WA.seq ?_
 refine WA.reg [1,5,13] [0] [] (env':=[(1,one (.str v1)),(5,one (.int .i64 y101.1)),(13,one (.bool (y101.1 == 110)))]) (os':=[(0,.box (pvL (Zg y101.2)))]) (O:=[]) kr (sound _ _) trivial ?_
 refine WA.cond (b:=(y101.1 == 110)) rfl (fun hb103=>?_) (fun hb103=>?_)
 {
 have hF:=Zk hF hb103
 refine WA.reg [5] [0] [] (env':=[(5,one (.int .i64 10))]) (os':=[(0,.box (pvL (Zg y101.2)))]) (O:=[]) kr (sound _ _) trivial ?_
 exact ⟨10,kr,kr,hF⟩ }
 {
 have hF:=Zj hF hb103
 refine WA.seq ?_
 refine WA.reg [1,5,16] [0] [] (env':=[(1,one (.str v1)),(5,one (.int .i64 y101.1)),(16,one (.bool (y101.1 == 116)))]) (os':=[(0,.box (pvL (Zg y101.2)))]) (O:=[]) kr (sound _ _) trivial ?_
 refine WA.cond (b:=(y101.1 == 116)) rfl (fun hb104=>?_) (fun hb104=>?_)
 {
 have hF:=Zk hF hb104
 refine WA.reg [5] [0] [] (env':=[(5,one (.int .i64 9))]) (os':=[(0,.box (pvL (Zg y101.2)))]) (O:=[]) kr (sound _ _) trivial ?_
 exact ⟨9,kr,kr,hF⟩ }
 {
 have hF:=Zj hF hb104
 refine WA.join (fun s_=>∃(v107:Bool),Zl s_.env [5,19]=[(5,one (.int .i64 y101.1)),(19,one (.bool v107))]∧Zl s_.os [0]=[(0,.box (pvL (Zg y101.2)))]∧Zeg y101 v107=some r) ?_ ?_
 {
 rintro s_ ⟨v107,he,ho,hF⟩
 refine WA.keep _ _ he ho ?_
 clear he ho
 refine WA.cond (b:=v107) rfl (fun hb108=>?_) (fun hb108=>?_)
 {
 have hF:=Zk hF hb108
 refine WA.bad [] (t:=70) (env1:=[]) (os1:=[(0,.box (pvL (Zg y101.2)))]) (O:=[]) kr (sound _ _) trivial ?_
 obtain rfl:=Option.some.inj hF
 exact ⟨rfl,[(Zg y101.2)],kr,rfl⟩ }
 {
 have hF:=Zj hF hb108
 refine WA.skip ?_
 exact ⟨y101.1,kr,kr,hF⟩ } }
 {
 rcases Bool.eq_false_or_eq_true (decide (y101.1 > 126)) with hb105 | hb105
 {
 have hF:=Zk hF hb105
 refine WA.reg [5,19] [0] [(2,.bool true)] (env':=[(5,one (.int .i64 y101.1)),(19,one (.bool true))]) (os':=[(0,.box (pvL (Zg y101.2)))]) (O:=[(decide (y101.1 > 126))=true]) kr (sound _ _) ⟨hb105,trivial⟩ ?_
 exact ⟨true,kr,kr,hF⟩ }
 {
 have hF:=Zj hF hb105
 obtain ⟨y106,hy106,hF⟩:=bind_some hF
 refine WA.reg [5,19] [0] [(2,.bool false),(6,.callR [] (one (.int .i64 y106)))] (env':=[(5,one (.int .i64 y101.1)),(19,one (.bool (decide (y106<0))))]) (os':=[(0,.box (pvL (Zg y101.2)))]) (O:=[(decide (y101.1 > 126))=false,Sim Tryz.prog GL0 170 [one (.str v1),one (.int .u8 (IntKind.wrap .u8 y101.1))] [] (one (.int .i64 y106)) [],([]:List Nat).Nodup]) kr (sound _ _) ⟨hb105,(Zit k _ _ _ hy106),(by decide),trivial⟩ ?_
 exact ⟨(decide (y106<0)),kr,kr,hF⟩ } } } } } } }
def F169 (k:Nat) (v0:Zi):Option (Option ((List Zb)×Zi)):=
  (F71 k v0 ([92]:List UInt8)).bind fun y101=>(cond y101.1 (orP (F139 k y101.2 ([92,46,91,93,40,41,123,125,42,43,63,124,94,36,45,47]:List UInt8)) fun y103=>(some (some (y103.1,y103.2)))) ((orP (F140 k y101.2) fun y104=>(F141 k ([92,91,93,94,45]:List UInt8) (IntKind.wrap .i32 y104.1)).bind fun y105=>(cond y105 (some none) (((some (some (([(⟨y104.1,y104.1⟩:Zb)]:List Zb),y104.2)))))))))
theorem Zgp (k:Nat) (v0:Zi) (r:Option ((List Zb)×Zi)) (hF:F169 k v0=some r):SimP Tryz.prog GL0 badV 169 [.val false [.ptr 0 1 0 0]] [.box (pvL (Zg v0))] (r.map fun r=>(.val false [.arr 1 r.1.length],[.box (pvL (Zg r.2)),.arr 2 (r.1.map Za)])):=by
 refine Zbk [0,900] Tryz.func169 rfl kr kr ?_
 show WA _ _ 19 _ _ _
 refine WA.seq ?_
 refine WA.reg [0] [0] [(0,.obj 900)] (env':=[(0,.val false [.ptr 0 1 0 0])]) (os':=[(0,.box (pvL (Zg v0)))]) (O:=[]) kr (sound _ _) trivial ?_
 refine WA.seq ?_
 refine WA.seq ?_
 obtain ⟨y101,hy101,hF⟩:=bind_some hF
 refine WA.reg [0,5] [0] [(1,.call [0] (one (.bool y101.1)) [.box (pvL (Zg y101.2))] [])] (env':=[(0,.val false [.ptr 0 1 0 0]),(5,one (.bool y101.1))]) (os':=[(0,.box (pvL (Zg y101.2)))]) (O:=[Sim Tryz.prog GL0 71 [.val false [.ptr 0 1 0 0],one (.str ([92]:List UInt8))] [.box (pvL (Zg v0))] (one (.bool y101.1)) [.box (pvL (Zg y101.2))],([0]:List Nat).Nodup]) kr (sound _ _) ⟨(Zas k _ _ _ hy101),(by decide),trivial⟩ ?_
 refine WA.cond (b:=y101.1) rfl (fun hb102=>?_) (fun hb102=>?_)
 {
 have hF:=Zk hF hb102
 refine WA.seq ?_
 rcases Z7 hF with ⟨hz,hr⟩ | ⟨y103,hy103,hF⟩
 {
 subst hr
 refine WA.regP 1 [0] [] [] badV (f:=139) (args:=[.val false [.ptr 0 1 0 0],one (.str ([92,46,91,93,40,41,123,125,42,43,63,124,94,36,45,47]:List UInt8))]) (os:=[.box (pvL (Zg y101.2))]) (env1:=[]) (os1:=[(0,.box (pvL (Zg y101.2)))]) (O:=[]) kr (sound _ _) trivial (by decide) (Zgd k _ _ _ hz) (fun psl hpsl=>?_)
 obtain ⟨ps,rfl⟩:=ZV hpsl
 exact ⟨rfl,[ps],kr,rfl⟩ }
 {
 refine WA.reg [2] [0,900] [(1,.call [0] (.val false [.arr 1 y103.1.length]) [.box (pvL (Zg y103.2)),.arr 2 (y103.1.map Za)] [900])] (env':=[(2,.val false [.arr 900 y103.1.length])]) (os':=[(0,.box (pvL (Zg y103.2))),(900,.arr 2 (y103.1.map Za))]) (O:=[Sim Tryz.prog GL0 139 [.val false [.ptr 0 1 0 0],one (.str ([92,46,91,93,40,41,123,125,42,43,63,124,94,36,45,47]:List UInt8))] [.box (pvL (Zg y101.2))] (.val false [.arr 1 y103.1.length]) [.box (pvL (Zg y103.2)),.arr 2 (y103.1.map Za)],([0]:List Nat).Nodup]) kr (sound _ _) ⟨(Zgd k _ _ _ hy103),(by decide),trivial⟩ ?_
 refine WA.ret ?_
 obtain rfl:=Option.some.inj hF
 exact Zp (.val false [.arr 900 y103.1.length]) [.box (pvL (Zg y103.2)),.arr 2 (y103.1.map Za)] kr kr kr kr (by decide) rfl rfl } }
 {
 have hF:=Zj hF hb102
 refine WA.skip ?_
 refine WA.seq ?_
 rcases Z7 hF with ⟨hz,hr⟩ | ⟨y104,hy104,hF⟩
 {
 subst hr
 refine WA.regP 1 [0] [] [] badV (f:=140) (args:=[.val false [.ptr 0 1 0 0]]) (os:=[.box (pvL (Zg y101.2))]) (env1:=[]) (os1:=[(0,.box (pvL (Zg y101.2)))]) (O:=[]) kr (sound _ _) trivial (by decide) (Zc6 k _ _ hz) (fun psl hpsl=>?_)
 obtain ⟨ps,rfl⟩:=ZV hpsl
 exact ⟨rfl,[ps],kr,rfl⟩ }
 {
 refine WA.reg [3] [0] [(1,.call [0] (one (.int .i64 y104.1)) [.box (pvL (Zg y104.2))] [])] (env':=[(3,one (.int .i64 y104.1))]) (os':=[(0,.box (pvL (Zg y104.2)))]) (O:=[Sim Tryz.prog GL0 140 [.val false [.ptr 0 1 0 0]] [.box (pvL (Zg y101.2))] (one (.int .i64 y104.1)) [.box (pvL (Zg y104.2))],([0]:List Nat).Nodup]) kr (sound _ _) ⟨(Zc6 k _ _ hy104),(by decide),trivial⟩ ?_
 refine WA.seq ?_
 refine WA.seq ?_
 obtain ⟨y105,hy105,hF⟩:=bind_some hF
 refine WA.reg [3,12] [0] [(2,.callR [] (one (.bool y105)))] (env':=[(3,one (.int .i64 y104.1)),(12,one (.bool y105))]) (os':=[(0,.box (pvL (Zg y104.2)))]) (O:=[Sim Tryz.prog GL0 141 [one (.str ([92,91,93,94,45]:List UInt8)),one (.int .i32 (IntKind.wrap .i32 y104.1))] [] (one (.bool y105)) [],([]:List Nat).Nodup]) kr (sound _ _) ⟨(Zk1 k _ _ _ hy105),(by decide),trivial⟩ ?_
 refine WA.cond (b:=y105) rfl (fun hb106=>?_) (fun hb106=>?_)
 {
 have hF:=Zk hF hb106
 refine WA.bad [] (t:=70) (env1:=[]) (os1:=[(0,.box (pvL (Zg y104.2)))]) (O:=[]) kr (sound _ _) trivial ?_
 obtain rfl:=Option.some.inj hF
 exact ⟨rfl,[(Zg y104.2)],kr,rfl⟩ }
 {
 have hF:=Zj hF hb106
 refine WA.skip ?_
 refine WA.seq ?_
 refine WA.reg [2] [0,900] [(3,.obj 900)] (env':=[(2,.val false [.arr 900 1])]) (os':=[(0,.box (pvL (Zg y104.2))),(900,.arr 2 (([(⟨y104.1,y104.1⟩:Zb)]:List Zb).map Za))]) (O:=[]) kr (sound _ _) trivial ?_
 refine WA.ret ?_
 obtain rfl:=Option.some.inj hF
 exact Zp (.val false [.arr 900 1]) [.box (pvL (Zg y104.2)),.arr 2 (([(⟨y104.1,y104.1⟩:Zb)]:List Zb).map Za)] kr (by have h0_:1=(([(⟨y104.1,y104.1⟩:Zb)]:List Zb):List _).length:=zt;rw [h0_] <;> rfl) kr kr (by decide) rfl rfl } } }
end Go.Proofs.YthilboheomikjaaGreatDoor
end
section
namespace Go.Proofs.YthilboheomikjaaGreatDoor
open Go.AL
set_option maxRecDepth 100000
def Zc4 (self5:Zi→(List Zb)→Bool→Option (Option (Ze×Zi))) (v153:List Zb) (v177:Zi) (v178:List Zb):Option (Option (Ze×Zi)):=
  if v153.length+v178.length≤1073741824 then (self5 v177 (v153 ++ v178) false) else none
def Zb1 (self5:Zi→(List Zb)→Bool→Option (Option (Ze×Zi))) (v153:List Zb) (y162:(List Zb)×Zi) (y166:(List Zb)×Zi) (v172:Bool):Option (Option (Ze×Zi)):=
  cond v172 (some none) ((idxL y166.1 0).bind fun y174=>if (0:Int)≤0∧0<(y162.1.length:Int) then (idxL y162.1 0).bind fun y176=>(Zc4 self5 v153 y166.2 (y162.1.set (Int.toNat 0) ({ y176 with f_Hi:=y174.f_Lo }:Zb))) else none)
def Zgc (k:Nat) (v158:Zi) (v186:List Zb):Option (Option (Ze×Zi)):=
  (F58 k v186).bind fun y187=>(some (some (y187,v158)))
def Zbd (k:Nat) (self5:Zi→(List Zb)→Bool→Option (Option (Ze×Zi))) (y101:Bool×Zi) (v153:List Zb) (v158:Zi) (v159:Bool):Option (Option (Ze×Zi)):=
  cond v159 ((F97 k v158 ([92,100]:List UInt8)).bind fun y161=>(orP (F169 k v158) fun y162=>(F71 k y162.2 ([45]:List UInt8)).bind fun y163=>(cond y163.1 ((F97 k y163.2 ([92,100]:List UInt8)).bind fun y165=>(orP (F169 k y163.2) fun y166=>(cond y161 ((Zb1 self5 v153 y162 y166 true)) (cond y165 ((Zb1 self5 v153 y162 y166 true)) ((idxL y166.1 0).bind fun y169=>if (0:Int)≤0∧0<(y162.1.length:Int) then (idxL y162.1 0).bind fun y171=>(Zb1 self5 v153 y162 y166 (decide (y169.f_Lo<y171.f_Lo))) else none))))) ((Zc4 self5 v153 y163.2 y162.1))))) ((F77 k v153).bind fun y181=>(F59 k).bind fun y182=>(F76 k y181 y182).bind fun y183=>((cond y101.1 ((F109 k y183).bind fun y185=>(Zgc k v158 y185)) ((Zgc k v158 y183)))))
def Zc3 (k:Nat) (self5:Zi→(List Zb)→Bool→Option (Option (Ze×Zi))) (y101:Bool×Zi) (v152:Zi) (v153:List Zb) (v155:Bool):Option (Option (Ze×Zi)):=
  cond v155 ((Zbd k self5 y101 v153 v152 true)) ((F71 k v152 ([93]:List UInt8)).bind fun y157=>(Zbd k self5 y101 v153 y157.2 (!y157.1)))
def Zac (k:Nat) (y101:Bool×Zi):Nat→Zi→(List Zb)→Bool→Option (Option (Ze×Zi))
  | 0,_,_,_=>none
  | m_+1,v152,v153,v155=>Zc3 k (Zac k y101 m_) y101 v152 v153 v155
def F138 (k:Nat) (v0:Zi):Option (Option (Ze×Zi)):=
  (F71 k v0 ([94]:List UInt8)).bind fun y101=>(((Zac k y101 k y101.2 ([]:List Zb) true)))
theorem Zk0 (k:Nat) (v0:Zi) (r:Option (Ze×Zi)) (hF:F138 k v0=some r):SimP Tryz.prog GL0 badV 138 [.val false [.ptr 0 1 0 0]] [.box (pvL (Zg v0))] (r.map fun r=>(.val true (pvL (Zd r.1)),[.box (pvL (Zg r.2))])):=by
 refine Zbk [0] Tryz.func138 rfl kr kr ?_
 show WA _ _ 64 _ _ _
 refine WA.seq ?_
 refine WA.reg [0,2] [0,102] [(0,.obj 102)] (env':=[(0,.val false [.ptr 0 1 0 0]),(2,.val false [.ptr 102 1 0 0])]) (os':=[(0,.box (pvL (Zg v0))),(102,.box (pvL (Zd (⟨0,([]:List Zb),([]:List Ze),0,0⟩:Ze))))]) (O:=[]) kr (sound _ _) trivial ?_
 refine WA.seq ?_
 obtain ⟨y101,hy101,hF⟩:=bind_some hF
 refine WA.reg [0,2,3] [0,102] [(1,.call [0] (one (.bool y101.1)) [.box (pvL (Zg y101.2))] [])] (env':=[(0,.val false [.ptr 0 1 0 0]),(2,.val false [.ptr 102 1 0 0]),(3,one (.bool y101.1))]) (os':=[(0,.box (pvL (Zg y101.2))),(102,.box (pvL (Zd (⟨0,([]:List Zb),([]:List Ze),0,0⟩:Ze))))]) (O:=[Sim Tryz.prog GL0 71 [.val false [.ptr 0 1 0 0],one (.str ([94]:List UInt8))] [.box (pvL (Zg v0))] (one (.bool y101.1)) [.box (pvL (Zg y101.2))],([0]:List Nat).Nodup]) kr (sound _ _) ⟨(Zas k _ _ _ hy101),(by decide),trivial⟩ ?_
 refine WA.seq ?_
 refine WA.reg [0,2,3,4] [0,102,104] [(0,.obj 104)] (env':=[(0,.val false [.ptr 0 1 0 0]),(2,.val false [.ptr 102 1 0 0]),(3,one (.bool y101.1)),(4,.val false [.arr 104 0])]) (os':=[(0,.box (pvL (Zg y101.2))),(102,.box (pvL (Zd (⟨0,([]:List Zb),([]:List Ze),0,0⟩:Ze)))),(104,.arr 2 (([]:List Zb).map Za))]) (O:=[]) kr (sound _ _) trivial ?_
 refine WA.seq ?_
 refine WA.seq ?_
 refine WA.reg [0,2,3,4,5] [0,102,104] [] (env':=[(0,.val false [.ptr 0 1 0 0]),(2,.val false [.ptr 102 1 0 0]),(3,one (.bool y101.1)),(4,.val false [.arr 104 0]),(5,one (.bool true))]) (os':=[(0,.box (pvL (Zg y101.2))),(102,.box (pvL (Zd (⟨0,([]:List Zb),([]:List Ze),0,0⟩:Ze)))),(104,.arr 2 (([]:List Zb).map Za))]) (O:=[]) kr (sound _ _) trivial ?_
 refine WA.block ?_
 refine WA.loop (fun m s_=>∃(v152:Zi) (v153:List Zb) (v154:Nat) (v155:Bool),Zl s_.env [0,2,3,4,5]=[(0,.val false [.ptr 0 1 0 0]),(2,.val false [.ptr 102 1 0 0]),(3,one (.bool y101.1)),(4,.val false [.arr 104 v154]),(5,one (.bool v155))]∧Zl s_.os [0,102,104]=[(0,.box (pvL (Zg v152))),(102,.box (pvL (Zd (⟨0,([]:List Zb),([]:List Ze),0,0⟩:Ze)))),(104,.arr 2 (v153.map Za))]∧v154=(v153:List _).length∧Zac k y101 m v152 v153 v155=some r) k ⟨y101.2,([]:List Zb),0,true,kr,kr,zt,hF⟩ ?_
 clear hF
 rintro m5 s_ ⟨v152,v153,v154,v155,he,ho,hn_v154,hF⟩
 refine WA.keep _ _ he ho ?_
 clear he ho
 cases m5 with
 | zero=>cases hF
 | succ m5=>
  obtain ⟨self5,hself5⟩:∃g,g=Zac k y101 m5:=⟨_,rfl⟩
  have hF:Zc3 k self5 y101 v152 v153 v155=some r:=by first | (rw [hself5];exact hF) | exact hF
  refine WA.seq ?_
  refine WA.join (fun s_=>∃(v158:Zi) (v159:Bool),Zl s_.env [0,2,3,4,17]=[(0,.val false [.ptr 0 1 0 0]),(2,.val false [.ptr 102 1 0 0]),(3,one (.bool y101.1)),(4,.val false [.arr 104 v154]),(17,one (.bool v159))]∧Zl s_.os [0,102,104]=[(0,.box (pvL (Zg v158))),(102,.box (pvL (Zd (⟨0,([]:List Zb),([]:List Ze),0,0⟩:Ze)))),(104,.arr 2 (v153.map Za))]∧Zbd k self5 y101 v153 v158 v159=some r) ?_ ?_
  {
 rintro s_ ⟨v158,v159,he,ho,hF⟩
 refine WA.keep _ _ he ho ?_
 clear he ho
 refine WA.cond (b:=v159) rfl (fun hb160=>?_) (fun hb160=>?_)
 {
 have hF:=Zk hF hb160
 refine WA.skip ?_
 refine WA.seq ?_
 refine WA.block ?_
 refine WA.seq ?_
 obtain ⟨y161,hy161,hF⟩:=bind_some hF
 refine WA.reg [0,2,3,4,6] [0,102,104] [(1,.callR [0] (one (.bool y161)))] (env':=[(0,.val false [.ptr 0 1 0 0]),(2,.val false [.ptr 102 1 0 0]),(3,one (.bool y101.1)),(4,.val false [.arr 104 v154]),(6,one (.bool y161))]) (os':=[(0,.box (pvL (Zg v158))),(102,.box (pvL (Zd (⟨0,([]:List Zb),([]:List Ze),0,0⟩:Ze)))),(104,.arr 2 (v153.map Za))]) (O:=[Sim Tryz.prog GL0 97 [.val false [.ptr 0 1 0 0],one (.str ([92,100]:List UInt8))] [.box (pvL (Zg v158))] (one (.bool y161)) [.box (pvL (Zg v158))],([0]:List Nat).Nodup]) kr (sound _ _) ⟨(ZdF k _ _ _ hy161),(by decide),trivial⟩ ?_
 refine WA.seq ?_
 rcases Z7 hF with ⟨hz,hr⟩ | ⟨y162,hy162,hF⟩
 {
 subst hr
 refine WA.regP 1 [0] [] [] badV (f:=169) (args:=[.val false [.ptr 0 1 0 0]]) (os:=[.box (pvL (Zg v158))]) (env1:=[]) (os1:=[(0,.box (pvL (Zg v158))),(102,.box (pvL (Zd (⟨0,([]:List Zb),([]:List Ze),0,0⟩:Ze)))),(104,.arr 2 (v153.map Za))]) (O:=[]) kr (sound _ _) trivial (by decide) (Zgp k _ _ hz) (fun psl hpsl=>?_)
 obtain ⟨ps,rfl⟩:=ZV hpsl
 exact ⟨rfl,[ps],kr,rfl⟩ }
 {
 refine WA.reg [0,2,3,4,6,7] [0,102,104,121] [(1,.call [0] (.val false [.arr 1 y162.1.length]) [.box (pvL (Zg y162.2)),.arr 2 (y162.1.map Za)] [121])] (env':=[(0,.val false [.ptr 0 1 0 0]),(2,.val false [.ptr 102 1 0 0]),(3,one (.bool y101.1)),(4,.val false [.arr 104 v154]),(6,one (.bool y161)),(7,.val false [.arr 121 y162.1.length])]) (os':=[(0,.box (pvL (Zg y162.2))),(102,.box (pvL (Zd (⟨0,([]:List Zb),([]:List Ze),0,0⟩:Ze)))),(104,.arr 2 (v153.map Za)),(121,.arr 2 (y162.1.map Za))]) (O:=[Sim Tryz.prog GL0 169 [.val false [.ptr 0 1 0 0]] [.box (pvL (Zg v158))] (.val false [.arr 1 y162.1.length]) [.box (pvL (Zg y162.2)),.arr 2 (y162.1.map Za)],([0]:List Nat).Nodup]) kr (sound _ _) ⟨(Zgp k _ _ hy162),(by decide),trivial⟩ ?_
 refine WA.join (fun s_=>∃(v177:Zi) (v178:List Zb) (v179:Nat),Zl s_.env [0,2,3,4,7]=[(0,.val false [.ptr 0 1 0 0]),(2,.val false [.ptr 102 1 0 0]),(3,one (.bool y101.1)),(4,.val false [.arr 104 v154]),(7,.val false [.arr 121 v179])]∧Zl s_.os [0,102,104,121]=[(0,.box (pvL (Zg v177))),(102,.box (pvL (Zd (⟨0,([]:List Zb),([]:List Ze),0,0⟩:Ze)))),(104,.arr 2 (v153.map Za)),(121,.arr 2 (v178.map Za))]∧v179=(v178:List _).length∧Zc4 self5 v153 v177 v178=some r) ?_ ?_
 {
 rintro s_ ⟨v177,v178,v179,he,ho,hn_v179,hF⟩
 refine WA.keep _ _ he ho ?_
 clear he ho
 refine WA.freeze 121 7 (s:=2) (n:=v179) (els:=(v178.map Za)) rfl rfl zt ?_
 refine WA.keep [0,2,3,4,7] [0,102,104] (env':=[(0,.val false [.ptr 0 1 0 0]),(2,.val false [.ptr 102 1 0 0]),(3,one (.bool y101.1)),(4,.val false [.arr 104 v154]),(7,one (.sl (v178.map Za)))]) (os':=[(0,.box (pvL (Zg v177))),(102,.box (pvL (Zd (⟨0,([]:List Zb),([]:List Ze),0,0⟩:Ze)))),(104,.arr 2 (v153.map Za))]) kr kr ?_
 obtain ⟨hc180,hF⟩:=Zo hF
 refine WA.rm (α:=Nat×(List (List PV))) (raw:=((v154+(v178.map Za).length),((v153.map Za) ++ (v178.map Za)))) (can:=((v154+v178.length),((v153 ++ v178).map Za))) (fun m_=>([(0,.val false [.ptr 0 1 0 0]),(2,.val false [.ptr 102 1 0 0]),(3,one (.bool y101.1)),(4,.val false [.arr 104 m_.1])],[(0,.box (pvL (Zg v177))),(102,.box (pvL (Zd (⟨0,([]:List Zb),([]:List Ze),0,0⟩:Ze)))),(104,.arr 2 m_.2)],[v154=(v153.map Za).length,(v153.map Za).length+(v178.map Za).length≤1073741824,∀es,es∈(v178.map Za)→es.length=2])) (ZE (by first | (simp only [zl,Zh];done) | (simp only [zl,Zh];omega) | omega) zm) [0,2,3,4] [0,102,104] [] kr (sound _ _) ⟨zt,(by first | exact hc180 | (simp only [List.length_map,Zh];exact hc180)),(ZN v178),trivial⟩ ?_
 refine WA.reg [0,2,3,4,5] [0,102,104] [] (env':=[(0,.val false [.ptr 0 1 0 0]),(2,.val false [.ptr 102 1 0 0]),(3,one (.bool y101.1)),(4,.val false [.arr 104 (v154+v178.length)]),(5,one (.bool false))]) (os':=[(0,.box (pvL (Zg v177))),(102,.box (pvL (Zd (⟨0,([]:List Zb),([]:List Ze),0,0⟩:Ze)))),(104,.arr 2 ((v153 ++ v178).map Za))]) (O:=[]) kr (sound _ _) trivial ?_
 exact ⟨m5,Nat.lt_succ_self _,v177,(v153 ++ v178),(v154+v178.length),false,kr,kr,zt,by rw [hself5] at hF;exact hF⟩ }
 {
 refine WA.seq ?_
 obtain ⟨y163,hy163,hF⟩:=bind_some hF
 refine WA.reg [0,2,3,4,6,7,23] [0,102,104,121] [(1,.call [0] (one (.bool y163.1)) [.box (pvL (Zg y163.2))] [])] (env':=[(0,.val false [.ptr 0 1 0 0]),(2,.val false [.ptr 102 1 0 0]),(3,one (.bool y101.1)),(4,.val false [.arr 104 v154]),(6,one (.bool y161)),(7,.val false [.arr 121 y162.1.length]),(23,one (.bool y163.1))]) (os':=[(0,.box (pvL (Zg y163.2))),(102,.box (pvL (Zd (⟨0,([]:List Zb),([]:List Ze),0,0⟩:Ze)))),(104,.arr 2 (v153.map Za)),(121,.arr 2 (y162.1.map Za))]) (O:=[Sim Tryz.prog GL0 71 [.val false [.ptr 0 1 0 0],one (.str ([45]:List UInt8))] [.box (pvL (Zg y162.2))] (one (.bool y163.1)) [.box (pvL (Zg y163.2))],([0]:List Nat).Nodup]) kr (sound _ _) ⟨(Zas k _ _ _ hy163),(by decide),trivial⟩ ?_
 refine WA.cond (b:=y163.1) rfl (fun hb164=>?_) (fun hb164=>?_)
 {
 have hF:=Zk hF hb164
 refine WA.seq ?_
 obtain ⟨y165,hy165,hF⟩:=bind_some hF
 refine WA.reg [0,2,3,4,6,7,8] [0,102,104,121] [(1,.callR [0] (one (.bool y165)))] (env':=[(0,.val false [.ptr 0 1 0 0]),(2,.val false [.ptr 102 1 0 0]),(3,one (.bool y101.1)),(4,.val false [.arr 104 v154]),(6,one (.bool y161)),(7,.val false [.arr 121 y162.1.length]),(8,one (.bool y165))]) (os':=[(0,.box (pvL (Zg y163.2))),(102,.box (pvL (Zd (⟨0,([]:List Zb),([]:List Ze),0,0⟩:Ze)))),(104,.arr 2 (v153.map Za)),(121,.arr 2 (y162.1.map Za))]) (O:=[Sim Tryz.prog GL0 97 [.val false [.ptr 0 1 0 0],one (.str ([92,100]:List UInt8))] [.box (pvL (Zg y163.2))] (one (.bool y165)) [.box (pvL (Zg y163.2))],([0]:List Nat).Nodup]) kr (sound _ _) ⟨(ZdF k _ _ _ hy165),(by decide),trivial⟩ ?_
 refine WA.seq ?_
 rcases Z7 hF with ⟨hz,hr⟩ | ⟨y166,hy166,hF⟩
 {
 subst hr
 refine WA.regP 1 [0] [] [] badV (f:=169) (args:=[.val false [.ptr 0 1 0 0]]) (os:=[.box (pvL (Zg y163.2))]) (env1:=[]) (os1:=[(0,.box (pvL (Zg y163.2))),(102,.box (pvL (Zd (⟨0,([]:List Zb),([]:List Ze),0,0⟩:Ze)))),(104,.arr 2 (v153.map Za)),(121,.arr 2 (y162.1.map Za))]) (O:=[]) kr (sound _ _) trivial (by decide) (Zgp k _ _ hz) (fun psl hpsl=>?_)
 obtain ⟨ps,rfl⟩:=ZV hpsl
 exact ⟨rfl,[ps],kr,rfl⟩ }
 {
 refine WA.reg [0,2,3,4,6,7,8,9] [0,102,104,121] [(1,.call [0] (one (.sl (y166.1.map Za))) [.box (pvL (Zg y166.2))] [])] (env':=[(0,.val false [.ptr 0 1 0 0]),(2,.val false [.ptr 102 1 0 0]),(3,one (.bool y101.1)),(4,.val false [.arr 104 v154]),(6,one (.bool y161)),(7,.val false [.arr 121 y162.1.length]),(8,one (.bool y165)),(9,one (.sl (y166.1.map Za)))]) (os':=[(0,.box (pvL (Zg y166.2))),(102,.box (pvL (Zd (⟨0,([]:List Zb),([]:List Ze),0,0⟩:Ze)))),(104,.arr 2 (v153.map Za)),(121,.arr 2 (y162.1.map Za))]) (O:=[Sim Tryz.prog GL0 169 [.val false [.ptr 0 1 0 0]] [.box (pvL (Zg y163.2))] (one (.sl (y166.1.map Za))) [.box (pvL (Zg y166.2))],([0]:List Nat).Nodup]) kr (sound _ _) ⟨(Zlw (os':=[.box (pvL (Zg y166.2))]) (m:=1) rfl (Nat.le_refl _) (List.length_map _).symm (Zgp k _ _ hy166)),(by decide),trivial⟩ ?_
 refine WA.seq ?_
 refine WA.join (fun s_=>∃(v172:Bool),Zl s_.env [0,2,3,4,7,9,42]=[(0,.val false [.ptr 0 1 0 0]),(2,.val false [.ptr 102 1 0 0]),(3,one (.bool y101.1)),(4,.val false [.arr 104 v154]),(7,.val false [.arr 121 y162.1.length]),(9,one (.sl (y166.1.map Za))),(42,one (.bool v172))]∧Zl s_.os [0,102,104,121]=[(0,.box (pvL (Zg y166.2))),(102,.box (pvL (Zd (⟨0,([]:List Zb),([]:List Ze),0,0⟩:Ze)))),(104,.arr 2 (v153.map Za)),(121,.arr 2 (y162.1.map Za))]∧Zb1 self5 v153 y162 y166 v172=some r) ?_ ?_
 {
 rintro s_ ⟨v172,he,ho,hF⟩
 refine WA.keep _ _ he ho ?_
 clear he ho
 refine WA.cond (b:=v172) rfl (fun hb173=>?_) (fun hb173=>?_)
 {
 have hF:=Zk hF hb173
 refine WA.bad [] (t:=70) (env1:=[]) (os1:=[(0,.box (pvL (Zg y166.2))),(102,.box (pvL (Zd (⟨0,([]:List Zb),([]:List Ze),0,0⟩:Ze)))),(104,.arr 2 (v153.map Za)),(121,.arr 2 (y162.1.map Za))]) (O:=[]) kr (sound _ _) trivial ?_
 obtain rfl:=Option.some.inj hF
 exact ⟨rfl,[(Zg y166.2)],kr,rfl⟩ }
 {
 have hF:=Zj hF hb173
 refine WA.skip ?_
 obtain ⟨y174,hy174,hF⟩:=bind_some hF
 obtain ⟨hc175,hF⟩:=Zo hF
 obtain ⟨y176,hy176,hF⟩:=bind_some hF
 refine WA.rm (α:=(List (List PV))) (raw:=((y162.1.map Za).set (Int.toNat 0) (Za ({ y176 with f_Hi:=y174.f_Lo }:Zb)))) (can:=((y162.1.set (Int.toNat 0) ({ y176 with f_Hi:=y174.f_Lo }:Zb)).map Za)) (fun m_=>([(0,.val false [.ptr 0 1 0 0]),(2,.val false [.ptr 102 1 0 0]),(3,one (.bool y101.1)),(4,.val false [.arr 104 v154]),(7,.val false [.arr 121 y162.1.length])],[(0,.box (pvL (Zg y166.2))),(102,.box (pvL (Zd (⟨0,([]:List Zb),([]:List Ze),0,0⟩:Ze)))),(104,.arr 2 (v153.map Za)),(121,.arr 2 m_)],[idxL (y166.1.map Za) 0=some (Za y174),y162.1.length=(y162.1.map Za).length,(0:Int)≤0,0<((y162.1.length:Nat):Int),y162.1.length=(y162.1.map Za).length,0<y162.1.length,y162.1.length=(y162.1.map Za).length,(y162.1.map Za)[Int.toNat 0]?=some (Za y176)])) (zm) [0,2,3,4,7] [0,102,104,121] [(2,.cells (Za y174)),(7,.cells (Za y176))] kr (sound _ _) ⟨(Zs _ hy174),zt,hc175.1,(by have h_:=hc175.2;(try simp only [zl,Zh] at h_ ⊢);omega),zt,(by omega),zt,(Zr (Zs _ hy176)),trivial⟩ ?_
 exact ⟨y166.2,(y162.1.set (Int.toNat 0) ({ y176 with f_Hi:=y174.f_Lo }:Zb)),y162.1.length,kr,kr,zt,hF⟩ } }
 {
 rcases Bool.eq_false_or_eq_true y161 with hb167 | hb167
 {
 have hF:=Zk hF hb167
 refine WA.regD kr [0,2,3,4,7,9,42] [0,102,104,121] [(1,.bool true)] (env':=[(0,.val false [.ptr 0 1 0 0]),(2,.val false [.ptr 102 1 0 0]),(3,one (.bool y101.1)),(4,.val false [.arr 104 v154]),(7,.val false [.arr 121 y162.1.length]),(9,one (.sl (y166.1.map Za))),(42,one (.bool true))]) (os':=[(0,.box (pvL (Zg y166.2))),(102,.box (pvL (Zd (⟨0,([]:List Zb),([]:List Ze),0,0⟩:Ze)))),(104,.arr 2 (v153.map Za)),(121,.arr 2 (y162.1.map Za))]) (O:=[y161=true]) kr kr (sound _ _) ⟨hb167,trivial⟩ ?_
 exact ⟨true,kr,kr,hF⟩ }
 {
 have hF:=Zj hF hb167
 rcases Bool.eq_false_or_eq_true y165 with hb168 | hb168
 {
 have hF:=Zk hF hb168
 refine WA.regD kr [0,2,3,4,7,9,42] [0,102,104,121] [(1,.bool false),(4,.bool true)] (env':=[(0,.val false [.ptr 0 1 0 0]),(2,.val false [.ptr 102 1 0 0]),(3,one (.bool y101.1)),(4,.val false [.arr 104 v154]),(7,.val false [.arr 121 y162.1.length]),(9,one (.sl (y166.1.map Za))),(42,one (.bool true))]) (os':=[(0,.box (pvL (Zg y166.2))),(102,.box (pvL (Zd (⟨0,([]:List Zb),([]:List Ze),0,0⟩:Ze)))),(104,.arr 2 (v153.map Za)),(121,.arr 2 (y162.1.map Za))]) (O:=[y161=false,y165=true]) kr kr (sound _ _) ⟨hb167,hb168,trivial⟩ ?_
 exact ⟨true,kr,kr,hF⟩ }
 {
 have hF:=Zj hF hb168
 obtain ⟨y169,hy169,hF⟩:=bind_some hF
 obtain ⟨hc170,hF⟩:=Zo hF
 obtain ⟨y171,hy171,hF⟩:=bind_some hF
 refine WA.regD kr [0,2,3,4,7,9,42] [0,102,104,121] [(1,.bool false),(4,.bool false),(6,.cells (Za y169)),(12,.cells (Za y171))] (env':=[(0,.val false [.ptr 0 1 0 0]),(2,.val false [.ptr 102 1 0 0]),(3,one (.bool y101.1)),(4,.val false [.arr 104 v154]),(7,.val false [.arr 121 y162.1.length]),(9,one (.sl (y166.1.map Za))),(42,one (.bool (decide (y169.f_Lo<y171.f_Lo))))]) (os':=[(0,.box (pvL (Zg y166.2))),(102,.box (pvL (Zd (⟨0,([]:List Zb),([]:List Ze),0,0⟩:Ze)))),(104,.arr 2 (v153.map Za)),(121,.arr 2 (y162.1.map Za))]) (O:=[y161=false,y165=false,idxL (y166.1.map Za) 0=some (Za y169),y162.1.length=(y162.1.map Za).length,(0:Int)≤0,0<((y162.1.length:Nat):Int),y162.1.length=(y162.1.map Za).length,0<y162.1.length,y162.1.length=(y162.1.map Za).length,(y162.1.map Za)[Int.toNat 0]?=some (Za y171)]) kr kr (sound _ _) ⟨hb167,hb168,(Zs _ hy169),zt,hc170.1,(by have h_:=hc170.2;(try simp only [zl,Zh] at h_ ⊢);omega),zt,(by omega),zt,(Zr (Zs _ hy171)),trivial⟩ ?_
 exact ⟨(decide (y169.f_Lo<y171.f_Lo)),kr,kr,hF⟩ } } } } }
 {
 have hF:=Zj hF hb164
 refine WA.skip ?_
 exact ⟨y163.2,y162.1,y162.1.length,kr,kr,zt,hF⟩ } } } }
 {
 have hF:=Zj hF hb160
 refine WA.exit ?_
 refine WA.seq ?_
 refine WA.freeze 104 4 (s:=2) (n:=v154) (els:=(v153.map Za)) rfl rfl zt ?_
 refine WA.keep [2,3,4] [0,102] (env':=[(2,.val false [.ptr 102 1 0 0]),(3,one (.bool y101.1)),(4,one (.sl (v153.map Za)))]) (os':=[(0,.box (pvL (Zg v158))),(102,.box (pvL (Zd (⟨0,([]:List Zb),([]:List Ze),0,0⟩:Ze))))]) kr kr ?_
 obtain ⟨y181,hy181,hF⟩:=bind_some hF
 obtain ⟨y182,hy182,hF⟩:=bind_some hF
 obtain ⟨y183,hy183,hF⟩:=bind_some hF
 refine WA.reg [2,3,4] [0,102] [(1,.callR [] (one (.sl (y181.map Za)))),(2,.callR [] (one (.sl (y182.map Za)))),(3,.callR [] (one (.sl (y183.map Za))))] (env':=[(2,.val false [.ptr 102 1 0 0]),(3,one (.bool y101.1)),(4,one (.sl (y183.map Za)))]) (os':=[(0,.box (pvL (Zg v158))),(102,.box (pvL (Zd (⟨0,([]:List Zb),([]:List Ze),0,0⟩:Ze))))]) (O:=[Sim Tryz.prog GL0 77 [one (.sl (v153.map Za))] [] (one (.sl (y181.map Za))) [],([]:List Nat).Nodup,Sim Tryz.prog GL0 59 [] [] (one (.sl (y182.map Za))) [],([]:List Nat).Nodup,Sim Tryz.prog GL0 76 [one (.sl (y181.map Za)),one (.sl (y182.map Za))] [] (one (.sl (y183.map Za))) [],([]:List Nat).Nodup]) kr (sound _ _) ⟨(ZhI k _ _ hy181),(by decide),(Zfy k _ hy182),(by decide),(ZjT k _ _ _ hy183),(by decide),trivial⟩ ?_
 refine WA.join (fun s_=>∃(v186:List Zb),Zl s_.env [2,4]=[(2,.val false [.ptr 102 1 0 0]),(4,one (.sl (v186.map Za)))]∧Zl s_.os [0,102]=[(0,.box (pvL (Zg v158))),(102,.box (pvL (Zd (⟨0,([]:List Zb),([]:List Ze),0,0⟩:Ze))))]∧Zgc k v158 v186=some r) ?_ ?_
 {
 rintro s_ ⟨v186,he,ho,hF⟩
 refine WA.keep _ _ he ho ?_
 clear he ho
 refine WA.seq ?_
 obtain ⟨y187,hy187,hF⟩:=bind_some hF
 refine WA.reg [2] [0,102] [(1,.callR [] (.val true (pvL (Zd y187))))] (env':=[(2,.val false [.ptr 102 1 0 0])]) (os':=[(0,.box (pvL (Zg v158))),(102,.box (pvL (Zd y187)))]) (O:=[Sim Tryz.prog GL0 58 [one (.sl (v186.map Za))] [] (.val true (pvL (Zd y187))) [],([]:List Nat).Nodup]) kr (sound _ _) ⟨(ZeA k _ _ hy187),(by decide),trivial⟩ ?_
 refine WA.ret ?_
 obtain rfl:=Option.some.inj hF
 exact Zp (.val true (pvL (Zd y187))) [.box (pvL (Zg v158))] kr kr kr kr (by decide) rfl rfl }
 {
 refine WA.seq ?_
 refine WA.reg [2,4,59] [0,102] [] (env':=[(2,.val false [.ptr 102 1 0 0]),(4,one (.sl (y183.map Za))),(59,one (.bool y101.1))]) (os':=[(0,.box (pvL (Zg v158))),(102,.box (pvL (Zd (⟨0,([]:List Zb),([]:List Ze),0,0⟩:Ze))))]) (O:=[]) kr (sound _ _) trivial ?_
 refine WA.cond (b:=y101.1) rfl (fun hb184=>?_) (fun hb184=>?_)
 {
 have hF:=Zk hF hb184
 obtain ⟨y185,hy185,hF⟩:=bind_some hF
 refine WA.reg [2,4] [0,102] [(1,.callR [] (one (.sl (y185.map Za))))] (env':=[(2,.val false [.ptr 102 1 0 0]),(4,one (.sl (y185.map Za)))]) (os':=[(0,.box (pvL (Zg v158))),(102,.box (pvL (Zd (⟨0,([]:List Zb),([]:List Ze),0,0⟩:Ze))))]) (O:=[Sim Tryz.prog GL0 109 [one (.sl (y183.map Za))] [] (one (.sl (y185.map Za))) [],([]:List Nat).Nodup]) kr (sound _ _) ⟨(ZnQ k _ _ hy185),(by decide),trivial⟩ ?_
 exact ⟨y185,kr,kr,hF⟩ }
 {
 have hF:=Zj hF hb184
 refine WA.skip ?_
 exact ⟨y183,kr,kr,hF⟩ } } } }
  {
 rcases Bool.eq_false_or_eq_true v155 with hb156 | hb156
 {
 have hF:=Zk hF hb156
 refine WA.reg [0,2,3,4,17] [0,102,104] [(1,.bool true)] (env':=[(0,.val false [.ptr 0 1 0 0]),(2,.val false [.ptr 102 1 0 0]),(3,one (.bool y101.1)),(4,.val false [.arr 104 v154]),(17,one (.bool true))]) (os':=[(0,.box (pvL (Zg v152))),(102,.box (pvL (Zd (⟨0,([]:List Zb),([]:List Ze),0,0⟩:Ze)))),(104,.arr 2 (v153.map Za))]) (O:=[v155=true]) kr (sound _ _) ⟨hb156,trivial⟩ ?_
 exact ⟨v152,true,kr,kr,hF⟩ }
 {
 have hF:=Zj hF hb156
 obtain ⟨y157,hy157,hF⟩:=bind_some hF
 refine WA.reg [0,2,3,4,17] [0,102,104] [(1,.bool false),(3,.call [0] (one (.bool y157.1)) [.box (pvL (Zg y157.2))] [])] (env':=[(0,.val false [.ptr 0 1 0 0]),(2,.val false [.ptr 102 1 0 0]),(3,one (.bool y101.1)),(4,.val false [.arr 104 v154]),(17,one (.bool (!y157.1)))]) (os':=[(0,.box (pvL (Zg y157.2))),(102,.box (pvL (Zd (⟨0,([]:List Zb),([]:List Ze),0,0⟩:Ze)))),(104,.arr 2 (v153.map Za))]) (O:=[v155=false,Sim Tryz.prog GL0 71 [.val false [.ptr 0 1 0 0],one (.str ([93]:List UInt8))] [.box (pvL (Zg v152))] (one (.bool y157.1)) [.box (pvL (Zg y157.2))],([0]:List Nat).Nodup]) kr (sound _ _) ⟨hb156,(Zas k _ _ _ hy157),(by decide),trivial⟩ ?_
 exact ⟨y157.2,(!y157.1),kr,kr,hF⟩ } }
def F117 (R48:Zi→Option (Option (Ze×Zi))) (k:Nat) (v0:Zi):Option (Option (Ze×Zi)):=
  (F71 k v0 ([40]:List UInt8)).bind fun y101=>(cond y101.1 (orP (R48 y101.2) fun y103=>(F71 k y103.2 ([41]:List UInt8)).bind fun y104=>(cond (!y104.1) (some none) (((some (some (y103.1,y104.2))))))) ((F71 k y101.2 ([91]:List UInt8)).bind fun y106=>(cond y106.1 (orP (F138 k y106.2) fun y108=>(some (some (y108.1,y108.2)))) ((F71 k y106.2 ([46]:List UInt8)).bind fun y109=>(cond y109.1 ((F59 k).bind fun y111=>(F58 k y111).bind fun y112=>(some (some (y112,y109.2)))) ((F71 k y109.2 ([92]:List UInt8)).bind fun y113=>(cond y113.1 (orP (F139 k y113.2 ([92,46,91,93,40,41,123,125,42,43,63,124,94,36,45,47]:List UInt8)) fun y115=>(F58 k y115.1).bind fun y116=>(some (some (y116,y115.2)))) ((orP (F140 k y113.2) fun y117=>(F141 k ([92,46,91,93,40,41,123,125,42,43,63,124,94,36]:List UInt8) (IntKind.wrap .i32 y117.1)).bind fun y118=>(cond y118 (some none) ((F58 k ([(⟨y117.1,y117.1⟩:Zb)]:List Zb)).bind fun y120=>(some (some (y120,y117.2))))))))))))))
theorem ZkX (R48:Zi→Option (Option (Ze×Zi))) (IH48:∀(v0:Zi) (r:Option (Ze×Zi)),R48 v0=some r→SimP Tryz.prog GL0 badV 48 [.val false [.ptr 0 1 0 0]] [.box (pvL (Zg v0))] (r.map fun r=>(.val true (pvL (Zd r.1)),[.box (pvL (Zg r.2))]))) (k:Nat) (v0:Zi) (r:Option (Ze×Zi)) (hF:F117 R48 k v0=some r):SimP Tryz.prog GL0 badV 117 [.val false [.ptr 0 1 0 0]] [.box (pvL (Zg v0))] (r.map fun r=>(.val true (pvL (Zd r.1)),[.box (pvL (Zg r.2))])):=by
 refine Zbk [0] Tryz.func117 rfl kr kr ?_
 show WA _ _ 44 _ _ _
 refine WA.seq ?_
 refine WA.reg [0,2] [0,102] [(0,.obj 102)] (env':=[(0,.val false [.ptr 0 1 0 0]),(2,.val false [.ptr 102 1 0 0])]) (os':=[(0,.box (pvL (Zg v0))),(102,.box (pvL (Zd (⟨0,([]:List Zb),([]:List Ze),0,0⟩:Ze))))]) (O:=[]) kr (sound _ _) trivial ?_
 refine WA.seq ?_
 refine WA.block ?_
 refine WA.seq ?_
 obtain ⟨y101,hy101,hF⟩:=bind_some hF
 refine WA.reg [0,2,5] [0,102] [(1,.call [0] (one (.bool y101.1)) [.box (pvL (Zg y101.2))] [])] (env':=[(0,.val false [.ptr 0 1 0 0]),(2,.val false [.ptr 102 1 0 0]),(5,one (.bool y101.1))]) (os':=[(0,.box (pvL (Zg y101.2))),(102,.box (pvL (Zd (⟨0,([]:List Zb),([]:List Ze),0,0⟩:Ze))))]) (O:=[Sim Tryz.prog GL0 71 [.val false [.ptr 0 1 0 0],one (.str ([40]:List UInt8))] [.box (pvL (Zg v0))] (one (.bool y101.1)) [.box (pvL (Zg y101.2))],([0]:List Nat).Nodup]) kr (sound _ _) ⟨(Zas k _ _ _ hy101),(by decide),trivial⟩ ?_
 refine WA.cond (b:=y101.1) rfl (fun hb102=>?_) (fun hb102=>?_)
 {
 have hF:=Zk hF hb102
 refine WA.seq ?_
 rcases Z7 hF with ⟨hz,hr⟩ | ⟨y103,hy103,hF⟩
 {
 subst hr
 refine WA.regP 1 [0] [] [] badV (f:=48) (args:=[.val false [.ptr 0 1 0 0]]) (os:=[.box (pvL (Zg y101.2))]) (env1:=[]) (os1:=[(0,.box (pvL (Zg y101.2))),(102,.box (pvL (Zd (⟨0,([]:List Zb),([]:List Ze),0,0⟩:Ze))))]) (O:=[]) kr (sound _ _) trivial (by decide) (IH48 _ _ hz) (fun psl hpsl=>?_)
 obtain ⟨ps,rfl⟩:=ZV hpsl
 exact ⟨rfl,[ps],kr,rfl⟩ }
 {
 refine WA.reg [0,2,3] [0,102,103] [(1,.call [0] (.val true (pvL (Zd y103.1))) [.box (pvL (Zg y103.2))] []),(2,.obj 103)] (env':=[(0,.val false [.ptr 0 1 0 0]),(2,.val false [.ptr 102 1 0 0]),(3,.val false [.ptr 103 1 0 0])]) (os':=[(0,.box (pvL (Zg y103.2))),(102,.box (pvL (Zd (⟨0,([]:List Zb),([]:List Ze),0,0⟩:Ze)))),(103,.box (pvL (Zd y103.1)))]) (O:=[Sim Tryz.prog GL0 48 [.val false [.ptr 0 1 0 0]] [.box (pvL (Zg y101.2))] (.val true (pvL (Zd y103.1))) [.box (pvL (Zg y103.2))],([0]:List Nat).Nodup]) kr (sound _ _) ⟨(IH48 _ _ hy103),(by decide),trivial⟩ ?_
 refine WA.seq ?_
 refine WA.seq ?_
 obtain ⟨y104,hy104,hF⟩:=bind_some hF
 refine WA.reg [2,3,12] [0,102,103] [(1,.call [0] (one (.bool y104.1)) [.box (pvL (Zg y104.2))] [])] (env':=[(2,.val false [.ptr 102 1 0 0]),(3,.val false [.ptr 103 1 0 0]),(12,one (.bool (!y104.1)))]) (os':=[(0,.box (pvL (Zg y104.2))),(102,.box (pvL (Zd (⟨0,([]:List Zb),([]:List Ze),0,0⟩:Ze)))),(103,.box (pvL (Zd y103.1)))]) (O:=[Sim Tryz.prog GL0 71 [.val false [.ptr 0 1 0 0],one (.str ([41]:List UInt8))] [.box (pvL (Zg y103.2))] (one (.bool y104.1)) [.box (pvL (Zg y104.2))],([0]:List Nat).Nodup]) kr (sound _ _) ⟨(Zas k _ _ _ hy104),(by decide),trivial⟩ ?_
 refine WA.cond (b:=(!y104.1)) rfl (fun hb105=>?_) (fun hb105=>?_)
 {
 have hF:=Zk hF hb105
 refine WA.bad [] (t:=70) (env1:=[]) (os1:=[(0,.box (pvL (Zg y104.2))),(102,.box (pvL (Zd (⟨0,([]:List Zb),([]:List Ze),0,0⟩:Ze)))),(103,.box (pvL (Zd y103.1)))]) (O:=[]) kr (sound _ _) trivial ?_
 obtain rfl:=Option.some.inj hF
 exact ⟨rfl,[(Zg y104.2)],kr,rfl⟩ }
 {
 have hF:=Zj hF hb105
 refine WA.skip ?_
 refine WA.seq ?_
 refine WA.reg [2] [0,102] [] (env':=[(2,.val false [.ptr 102 1 0 0])]) (os':=[(0,.box (pvL (Zg y104.2))),(102,.box (pvL (Zd y103.1)))]) (O:=[]) kr (sound _ _) trivial ?_
 refine WA.ret ?_
 obtain rfl:=Option.some.inj hF
 exact Zp (.val true (pvL (Zd y103.1))) [.box (pvL (Zg y104.2))] kr kr kr kr (by decide) rfl rfl } } }
 {
 have hF:=Zj hF hb102
 refine WA.seq ?_
 obtain ⟨y106,hy106,hF⟩:=bind_some hF
 refine WA.reg [0,2,16] [0,102] [(1,.call [0] (one (.bool y106.1)) [.box (pvL (Zg y106.2))] [])] (env':=[(0,.val false [.ptr 0 1 0 0]),(2,.val false [.ptr 102 1 0 0]),(16,one (.bool y106.1))]) (os':=[(0,.box (pvL (Zg y106.2))),(102,.box (pvL (Zd (⟨0,([]:List Zb),([]:List Ze),0,0⟩:Ze))))]) (O:=[Sim Tryz.prog GL0 71 [.val false [.ptr 0 1 0 0],one (.str ([91]:List UInt8))] [.box (pvL (Zg y101.2))] (one (.bool y106.1)) [.box (pvL (Zg y106.2))],([0]:List Nat).Nodup]) kr (sound _ _) ⟨(Zas k _ _ _ hy106),(by decide),trivial⟩ ?_
 refine WA.cond (b:=y106.1) rfl (fun hb107=>?_) (fun hb107=>?_)
 {
 have hF:=Zk hF hb107
 refine WA.seq ?_
 rcases Z7 hF with ⟨hz,hr⟩ | ⟨y108,hy108,hF⟩
 {
 subst hr
 refine WA.regP 1 [0] [] [] badV (f:=138) (args:=[.val false [.ptr 0 1 0 0]]) (os:=[.box (pvL (Zg y106.2))]) (env1:=[]) (os1:=[(0,.box (pvL (Zg y106.2))),(102,.box (pvL (Zd (⟨0,([]:List Zb),([]:List Ze),0,0⟩:Ze))))]) (O:=[]) kr (sound _ _) trivial (by decide) (Zk0 k _ _ hz) (fun psl hpsl=>?_)
 obtain ⟨ps,rfl⟩:=ZV hpsl
 exact ⟨rfl,[ps],kr,rfl⟩ }
 {
 refine WA.reg [2] [0,102] [(1,.call [0] (.val true (pvL (Zd y108.1))) [.box (pvL (Zg y108.2))] [])] (env':=[(2,.val false [.ptr 102 1 0 0])]) (os':=[(0,.box (pvL (Zg y108.2))),(102,.box (pvL (Zd y108.1)))]) (O:=[Sim Tryz.prog GL0 138 [.val false [.ptr 0 1 0 0]] [.box (pvL (Zg y106.2))] (.val true (pvL (Zd y108.1))) [.box (pvL (Zg y108.2))],([0]:List Nat).Nodup]) kr (sound _ _) ⟨(Zk0 k _ _ hy108),(by decide),trivial⟩ ?_
 refine WA.ret ?_
 obtain rfl:=Option.some.inj hF
 exact Zp (.val true (pvL (Zd y108.1))) [.box (pvL (Zg y108.2))] kr kr kr kr (by decide) rfl rfl } }
 {
 have hF:=Zj hF hb107
 refine WA.seq ?_
 obtain ⟨y109,hy109,hF⟩:=bind_some hF
 refine WA.reg [0,2,21] [0,102] [(1,.call [0] (one (.bool y109.1)) [.box (pvL (Zg y109.2))] [])] (env':=[(0,.val false [.ptr 0 1 0 0]),(2,.val false [.ptr 102 1 0 0]),(21,one (.bool y109.1))]) (os':=[(0,.box (pvL (Zg y109.2))),(102,.box (pvL (Zd (⟨0,([]:List Zb),([]:List Ze),0,0⟩:Ze))))]) (O:=[Sim Tryz.prog GL0 71 [.val false [.ptr 0 1 0 0],one (.str ([46]:List UInt8))] [.box (pvL (Zg y106.2))] (one (.bool y109.1)) [.box (pvL (Zg y109.2))],([0]:List Nat).Nodup]) kr (sound _ _) ⟨(Zas k _ _ _ hy109),(by decide),trivial⟩ ?_
 refine WA.cond (b:=y109.1) rfl (fun hb110=>?_) (fun hb110=>?_)
 {
 have hF:=Zk hF hb110
 refine WA.seq ?_
 obtain ⟨y111,hy111,hF⟩:=bind_some hF
 obtain ⟨y112,hy112,hF⟩:=bind_some hF
 refine WA.reg [2] [0,102] [(0,.callR [] (one (.sl (y111.map Za)))),(1,.callR [] (.val true (pvL (Zd y112))))] (env':=[(2,.val false [.ptr 102 1 0 0])]) (os':=[(0,.box (pvL (Zg y109.2))),(102,.box (pvL (Zd y112)))]) (O:=[Sim Tryz.prog GL0 59 [] [] (one (.sl (y111.map Za))) [],([]:List Nat).Nodup,Sim Tryz.prog GL0 58 [one (.sl (y111.map Za))] [] (.val true (pvL (Zd y112))) [],([]:List Nat).Nodup]) kr (sound _ _) ⟨(Zfy k _ hy111),(by decide),(ZeA k _ _ hy112),(by decide),trivial⟩ ?_
 refine WA.ret ?_
 obtain rfl:=Option.some.inj hF
 exact Zp (.val true (pvL (Zd y112))) [.box (pvL (Zg y109.2))] kr kr kr kr (by decide) rfl rfl }
 {
 have hF:=Zj hF hb110
 refine WA.seq ?_
 obtain ⟨y113,hy113,hF⟩:=bind_some hF
 refine WA.reg [0,2,26] [0,102] [(1,.call [0] (one (.bool y113.1)) [.box (pvL (Zg y113.2))] [])] (env':=[(0,.val false [.ptr 0 1 0 0]),(2,.val false [.ptr 102 1 0 0]),(26,one (.bool y113.1))]) (os':=[(0,.box (pvL (Zg y113.2))),(102,.box (pvL (Zd (⟨0,([]:List Zb),([]:List Ze),0,0⟩:Ze))))]) (O:=[Sim Tryz.prog GL0 71 [.val false [.ptr 0 1 0 0],one (.str ([92]:List UInt8))] [.box (pvL (Zg y109.2))] (one (.bool y113.1)) [.box (pvL (Zg y113.2))],([0]:List Nat).Nodup]) kr (sound _ _) ⟨(Zas k _ _ _ hy113),(by decide),trivial⟩ ?_
 refine WA.cond (b:=y113.1) rfl (fun hb114=>?_) (fun hb114=>?_)
 {
 have hF:=Zk hF hb114
 refine WA.seq ?_
 rcases Z7 hF with ⟨hz,hr⟩ | ⟨y115,hy115,hF⟩
 {
 subst hr
 refine WA.regP 1 [0] [] [] badV (f:=139) (args:=[.val false [.ptr 0 1 0 0],one (.str ([92,46,91,93,40,41,123,125,42,43,63,124,94,36,45,47]:List UInt8))]) (os:=[.box (pvL (Zg y113.2))]) (env1:=[]) (os1:=[(0,.box (pvL (Zg y113.2))),(102,.box (pvL (Zd (⟨0,([]:List Zb),([]:List Ze),0,0⟩:Ze))))]) (O:=[]) kr (sound _ _) trivial (by decide) (Zgd k _ _ _ hz) (fun psl hpsl=>?_)
 obtain ⟨ps,rfl⟩:=ZV hpsl
 exact ⟨rfl,[ps],kr,rfl⟩ }
 {
 obtain ⟨y116,hy116,hF⟩:=bind_some hF
 refine WA.reg [2] [0,102] [(1,.call [0] (one (.sl (y115.1.map Za))) [.box (pvL (Zg y115.2))] []),(2,.callR [] (.val true (pvL (Zd y116))))] (env':=[(2,.val false [.ptr 102 1 0 0])]) (os':=[(0,.box (pvL (Zg y115.2))),(102,.box (pvL (Zd y116)))]) (O:=[Sim Tryz.prog GL0 139 [.val false [.ptr 0 1 0 0],one (.str ([92,46,91,93,40,41,123,125,42,43,63,124,94,36,45,47]:List UInt8))] [.box (pvL (Zg y113.2))] (one (.sl (y115.1.map Za))) [.box (pvL (Zg y115.2))],([0]:List Nat).Nodup,Sim Tryz.prog GL0 58 [one (.sl (y115.1.map Za))] [] (.val true (pvL (Zd y116))) [],([]:List Nat).Nodup]) kr (sound _ _) ⟨(Zlw (os':=[.box (pvL (Zg y115.2))]) (m:=1) rfl (Nat.le_refl _) (List.length_map _).symm (Zgd k _ _ _ hy115)),(by decide),(ZeA k _ _ hy116),(by decide),trivial⟩ ?_
 refine WA.ret ?_
 obtain rfl:=Option.some.inj hF
 exact Zp (.val true (pvL (Zd y116))) [.box (pvL (Zg y115.2))] kr kr kr kr (by decide) rfl rfl } }
 {
 have hF:=Zj hF hb114
 refine WA.skip ?_
 refine WA.seq ?_
 rcases Z7 hF with ⟨hz,hr⟩ | ⟨y117,hy117,hF⟩
 {
 subst hr
 refine WA.regP 1 [0] [] [] badV (f:=140) (args:=[.val false [.ptr 0 1 0 0]]) (os:=[.box (pvL (Zg y113.2))]) (env1:=[]) (os1:=[(0,.box (pvL (Zg y113.2))),(102,.box (pvL (Zd (⟨0,([]:List Zb),([]:List Ze),0,0⟩:Ze))))]) (O:=[]) kr (sound _ _) trivial (by decide) (Zc6 k _ _ hz) (fun psl hpsl=>?_)
 obtain ⟨ps,rfl⟩:=ZV hpsl
 exact ⟨rfl,[ps],kr,rfl⟩ }
 {
 refine WA.reg [2,4] [0,102] [(1,.call [0] (one (.int .i64 y117.1)) [.box (pvL (Zg y117.2))] [])] (env':=[(2,.val false [.ptr 102 1 0 0]),(4,one (.int .i64 y117.1))]) (os':=[(0,.box (pvL (Zg y117.2))),(102,.box (pvL (Zd (⟨0,([]:List Zb),([]:List Ze),0,0⟩:Ze))))]) (O:=[Sim Tryz.prog GL0 140 [.val false [.ptr 0 1 0 0]] [.box (pvL (Zg y113.2))] (one (.int .i64 y117.1)) [.box (pvL (Zg y117.2))],([0]:List Nat).Nodup]) kr (sound _ _) ⟨(Zc6 k _ _ hy117),(by decide),trivial⟩ ?_
 refine WA.seq ?_
 refine WA.seq ?_
 obtain ⟨y118,hy118,hF⟩:=bind_some hF
 refine WA.reg [2,4,36] [0,102] [(2,.callR [] (one (.bool y118)))] (env':=[(2,.val false [.ptr 102 1 0 0]),(4,one (.int .i64 y117.1)),(36,one (.bool y118))]) (os':=[(0,.box (pvL (Zg y117.2))),(102,.box (pvL (Zd (⟨0,([]:List Zb),([]:List Ze),0,0⟩:Ze))))]) (O:=[Sim Tryz.prog GL0 141 [one (.str ([92,46,91,93,40,41,123,125,42,43,63,124,94,36]:List UInt8)),one (.int .i32 (IntKind.wrap .i32 y117.1))] [] (one (.bool y118)) [],([]:List Nat).Nodup]) kr (sound _ _) ⟨(Zk1 k _ _ _ hy118),(by decide),trivial⟩ ?_
 refine WA.cond (b:=y118) rfl (fun hb119=>?_) (fun hb119=>?_)
 {
 have hF:=Zk hF hb119
 refine WA.bad [] (t:=70) (env1:=[]) (os1:=[(0,.box (pvL (Zg y117.2))),(102,.box (pvL (Zd (⟨0,([]:List Zb),([]:List Ze),0,0⟩:Ze))))]) (O:=[]) kr (sound _ _) trivial ?_
 obtain rfl:=Option.some.inj hF
 exact ⟨rfl,[(Zg y117.2)],kr,rfl⟩ }
 {
 have hF:=Zj hF hb119
 refine WA.skip ?_
 refine WA.seq ?_
 obtain ⟨y120,hy120,hF⟩:=bind_some hF
 refine WA.reg [2] [0,102] [(4,.callR [] (.val true (pvL (Zd y120))))] (env':=[(2,.val false [.ptr 102 1 0 0])]) (os':=[(0,.box (pvL (Zg y117.2))),(102,.box (pvL (Zd y120)))]) (O:=[Sim Tryz.prog GL0 58 [one (.sl (([(⟨y117.1,y117.1⟩:Zb)]:List Zb).map Za))] [] (.val true (pvL (Zd y120))) [],([]:List Nat).Nodup]) kr (sound _ _) ⟨(ZeA k _ _ hy120),(by decide),trivial⟩ ?_
 refine WA.ret ?_
 obtain rfl:=Option.some.inj hF
 exact Zp (.val true (pvL (Zd y120))) [.box (pvL (Zg y117.2))] kr kr kr kr (by decide) rfl rfl } } } } } }
def ZeF (y101:Ze×Zi) (v111:Zi) (v112:Int) (v113:Int):Option (Option (Ze×Zi)):=
  (some (some ((⟨4,([]:List Zb),([y101.1]:List Ze),v112,v113⟩:Ze),v111)))
def F98 (R48:Zi→Option (Option (Ze×Zi))) (k:Nat) (v0:Zi):Option (Option (Ze×Zi)):=
  (orP (F117 R48 k v0) fun y101=>((F71 k y101.2 ([42]:List UInt8)).bind fun y102=>(cond y102.1 ((ZeF y101 y102.2 0 (-1))) ((F71 k y102.2 ([43]:List UInt8)).bind fun y104=>(cond y104.1 ((ZeF y101 y104.2 1 (-1))) ((F71 k y104.2 ([63]:List UInt8)).bind fun y106=>(cond y106.1 ((ZeF y101 y106.2 0 1)) ((F71 k y106.2 ([123]:List UInt8)).bind fun y108=>(cond y108.1 (orP (F118 k y108.2) fun y110=>(ZeF y101 y110.2.2 y110.1 y110.2.1)) ((some (some (y101.1,y108.2)))))))))))))
theorem Zmg (R48:Zi→Option (Option (Ze×Zi))) (IH48:∀(v0:Zi) (r:Option (Ze×Zi)),R48 v0=some r→SimP Tryz.prog GL0 badV 48 [.val false [.ptr 0 1 0 0]] [.box (pvL (Zg v0))] (r.map fun r=>(.val true (pvL (Zd r.1)),[.box (pvL (Zg r.2))]))) (k:Nat) (v0:Zi) (r:Option (Ze×Zi)) (hF:F98 R48 k v0=some r):SimP Tryz.prog GL0 badV 98 [.val false [.ptr 0 1 0 0]] [.box (pvL (Zg v0))] (r.map fun r=>(.val true (pvL (Zd r.1)),[.box (pvL (Zg r.2))])):=by
 refine Zbk [0] Tryz.func98 rfl kr kr ?_
 show WA _ _ 31 _ _ _
 refine WA.seq ?_
 refine WA.reg [0,2] [0,102] [(0,.obj 102)] (env':=[(0,.val false [.ptr 0 1 0 0]),(2,.val false [.ptr 102 1 0 0])]) (os':=[(0,.box (pvL (Zg v0))),(102,.box (pvL (Zd (⟨0,([]:List Zb),([]:List Ze),0,0⟩:Ze))))]) (O:=[]) kr (sound _ _) trivial ?_
 refine WA.seq ?_
 rcases Z7 hF with ⟨hz,hr⟩ | ⟨y101,hy101,hF⟩
 {
 subst hr
 refine WA.regP 1 [0] [] [] badV (f:=117) (args:=[.val false [.ptr 0 1 0 0]]) (os:=[.box (pvL (Zg v0))]) (env1:=[]) (os1:=[(0,.box (pvL (Zg v0))),(102,.box (pvL (Zd (⟨0,([]:List Zb),([]:List Ze),0,0⟩:Ze))))]) (O:=[]) kr (sound _ _) trivial (by decide) (ZkX R48 IH48 k _ _ hz) (fun psl hpsl=>?_)
 obtain ⟨ps,rfl⟩:=ZV hpsl
 exact ⟨rfl,[ps],kr,rfl⟩ }
 {
 refine WA.reg [0,2,3] [0,102,103] [(1,.call [0] (.val true (pvL (Zd y101.1))) [.box (pvL (Zg y101.2))] []),(2,.obj 103)] (env':=[(0,.val false [.ptr 0 1 0 0]),(2,.val false [.ptr 102 1 0 0]),(3,.val false [.ptr 103 1 0 0])]) (os':=[(0,.box (pvL (Zg y101.2))),(102,.box (pvL (Zd (⟨0,([]:List Zb),([]:List Ze),0,0⟩:Ze)))),(103,.box (pvL (Zd y101.1)))]) (O:=[Sim Tryz.prog GL0 117 [.val false [.ptr 0 1 0 0]] [.box (pvL (Zg v0))] (.val true (pvL (Zd y101.1))) [.box (pvL (Zg y101.2))],([0]:List Nat).Nodup]) kr (sound _ _) ⟨(ZkX R48 IH48 k _ _ hy101),(by decide),trivial⟩ ?_
 refine WA.seq ?_
 refine WA.reg [0,2,3,4,5] [0,102,103] [] (env':=[(0,.val false [.ptr 0 1 0 0]),(2,.val false [.ptr 102 1 0 0]),(3,.val false [.ptr 103 1 0 0]),(4,one (.int .i64 0)),(5,one (.int .i64 (-1)))]) (os':=[(0,.box (pvL (Zg y101.2))),(102,.box (pvL (Zd (⟨0,([]:List Zb),([]:List Ze),0,0⟩:Ze)))),(103,.box (pvL (Zd y101.1)))]) (O:=[]) kr (sound _ _) trivial ?_
 refine WA.join (fun s_=>∃(v111:Zi) (v112:Int) (v113:Int),Zl s_.env [2,3,4,5]=[(2,.val false [.ptr 102 1 0 0]),(3,.val false [.ptr 103 1 0 0]),(4,one (.int .i64 v112)),(5,one (.int .i64 v113))]∧Zl s_.os [0,102,103]=[(0,.box (pvL (Zg v111))),(102,.box (pvL (Zd (⟨0,([]:List Zb),([]:List Ze),0,0⟩:Ze)))),(103,.box (pvL (Zd y101.1)))]∧ZeF y101 v111 v112 v113=some r) ?_ ?_
 {
 rintro s_ ⟨v111,v112,v113,he,ho,hF⟩
 refine WA.keep _ _ he ho ?_
 clear he ho
 refine WA.seq ?_
 refine WA.rm (α:=(List (List PV))) (raw:=[(Zd y101.1)]) (can:=(Zm ([y101.1]:List Ze))) (fun m_=>([(2,.val false [.ptr 102 1 0 0])],[(0,.box (pvL (Zg v111))),(102,.box (pvL ([.int .i64 4] ++ [.sl (([]:List Zb).map Za)] ++ [.sl m_] ++ [.int .i64 v112] ++ [.int .i64 v113])))],[])) (zm) [2] [0,102] [] kr (sound _ _) trivial ?_
 refine WA.ret ?_
 obtain rfl:=Option.some.inj hF
 exact Zp (.val true (pvL (Zd (⟨4,([]:List Zb),([y101.1]:List Ze),v112,v113⟩:Ze)))) [.box (pvL (Zg v111))] kr kr kr kr (by decide) rfl rfl }
 {
 refine WA.block ?_
 refine WA.seq ?_
 obtain ⟨y102,hy102,hF⟩:=bind_some hF
 refine WA.reg [0,2,3,4,5,9] [0,102,103] [(1,.call [0] (one (.bool y102.1)) [.box (pvL (Zg y102.2))] [])] (env':=[(0,.val false [.ptr 0 1 0 0]),(2,.val false [.ptr 102 1 0 0]),(3,.val false [.ptr 103 1 0 0]),(4,one (.int .i64 0)),(5,one (.int .i64 (-1))),(9,one (.bool y102.1))]) (os':=[(0,.box (pvL (Zg y102.2))),(102,.box (pvL (Zd (⟨0,([]:List Zb),([]:List Ze),0,0⟩:Ze)))),(103,.box (pvL (Zd y101.1)))]) (O:=[Sim Tryz.prog GL0 71 [.val false [.ptr 0 1 0 0],one (.str ([42]:List UInt8))] [.box (pvL (Zg y101.2))] (one (.bool y102.1)) [.box (pvL (Zg y102.2))],([0]:List Nat).Nodup]) kr (sound _ _) ⟨(Zas k _ _ _ hy102),(by decide),trivial⟩ ?_
 refine WA.cond (b:=y102.1) rfl (fun hb103=>?_) (fun hb103=>?_)
 {
 have hF:=Zk hF hb103
 refine WA.skip ?_
 exact ⟨y102.2,0,(-1),kr,kr,hF⟩ }
 {
 have hF:=Zj hF hb103
 refine WA.seq ?_
 obtain ⟨y104,hy104,hF⟩:=bind_some hF
 refine WA.reg [0,2,3,4,5,12] [0,102,103] [(1,.call [0] (one (.bool y104.1)) [.box (pvL (Zg y104.2))] [])] (env':=[(0,.val false [.ptr 0 1 0 0]),(2,.val false [.ptr 102 1 0 0]),(3,.val false [.ptr 103 1 0 0]),(4,one (.int .i64 0)),(5,one (.int .i64 (-1))),(12,one (.bool y104.1))]) (os':=[(0,.box (pvL (Zg y104.2))),(102,.box (pvL (Zd (⟨0,([]:List Zb),([]:List Ze),0,0⟩:Ze)))),(103,.box (pvL (Zd y101.1)))]) (O:=[Sim Tryz.prog GL0 71 [.val false [.ptr 0 1 0 0],one (.str ([43]:List UInt8))] [.box (pvL (Zg y102.2))] (one (.bool y104.1)) [.box (pvL (Zg y104.2))],([0]:List Nat).Nodup]) kr (sound _ _) ⟨(Zas k _ _ _ hy104),(by decide),trivial⟩ ?_
 refine WA.cond (b:=y104.1) rfl (fun hb105=>?_) (fun hb105=>?_)
 {
 have hF:=Zk hF hb105
 refine WA.reg [2,3,4,5] [0,102,103] [] (env':=[(2,.val false [.ptr 102 1 0 0]),(3,.val false [.ptr 103 1 0 0]),(4,one (.int .i64 1)),(5,one (.int .i64 (-1)))]) (os':=[(0,.box (pvL (Zg y104.2))),(102,.box (pvL (Zd (⟨0,([]:List Zb),([]:List Ze),0,0⟩:Ze)))),(103,.box (pvL (Zd y101.1)))]) (O:=[]) kr (sound _ _) trivial ?_
 exact ⟨y104.2,1,(-1),kr,kr,hF⟩ }
 {
 have hF:=Zj hF hb105
 refine WA.seq ?_
 obtain ⟨y106,hy106,hF⟩:=bind_some hF
 refine WA.reg [0,2,3,4,15] [0,102,103] [(1,.call [0] (one (.bool y106.1)) [.box (pvL (Zg y106.2))] [])] (env':=[(0,.val false [.ptr 0 1 0 0]),(2,.val false [.ptr 102 1 0 0]),(3,.val false [.ptr 103 1 0 0]),(4,one (.int .i64 0)),(15,one (.bool y106.1))]) (os':=[(0,.box (pvL (Zg y106.2))),(102,.box (pvL (Zd (⟨0,([]:List Zb),([]:List Ze),0,0⟩:Ze)))),(103,.box (pvL (Zd y101.1)))]) (O:=[Sim Tryz.prog GL0 71 [.val false [.ptr 0 1 0 0],one (.str ([63]:List UInt8))] [.box (pvL (Zg y104.2))] (one (.bool y106.1)) [.box (pvL (Zg y106.2))],([0]:List Nat).Nodup]) kr (sound _ _) ⟨(Zas k _ _ _ hy106),(by decide),trivial⟩ ?_
 refine WA.cond (b:=y106.1) rfl (fun hb107=>?_) (fun hb107=>?_)
 {
 have hF:=Zk hF hb107
 refine WA.reg [2,3,4,5] [0,102,103] [] (env':=[(2,.val false [.ptr 102 1 0 0]),(3,.val false [.ptr 103 1 0 0]),(4,one (.int .i64 0)),(5,one (.int .i64 1))]) (os':=[(0,.box (pvL (Zg y106.2))),(102,.box (pvL (Zd (⟨0,([]:List Zb),([]:List Ze),0,0⟩:Ze)))),(103,.box (pvL (Zd y101.1)))]) (O:=[]) kr (sound _ _) trivial ?_
 exact ⟨y106.2,0,1,kr,kr,hF⟩ }
 {
 have hF:=Zj hF hb107
 refine WA.seq ?_
 obtain ⟨y108,hy108,hF⟩:=bind_some hF
 refine WA.reg [0,2,3,18] [0,102,103] [(1,.call [0] (one (.bool y108.1)) [.box (pvL (Zg y108.2))] [])] (env':=[(0,.val false [.ptr 0 1 0 0]),(2,.val false [.ptr 102 1 0 0]),(3,.val false [.ptr 103 1 0 0]),(18,one (.bool y108.1))]) (os':=[(0,.box (pvL (Zg y108.2))),(102,.box (pvL (Zd (⟨0,([]:List Zb),([]:List Ze),0,0⟩:Ze)))),(103,.box (pvL (Zd y101.1)))]) (O:=[Sim Tryz.prog GL0 71 [.val false [.ptr 0 1 0 0],one (.str ([123]:List UInt8))] [.box (pvL (Zg y106.2))] (one (.bool y108.1)) [.box (pvL (Zg y108.2))],([0]:List Nat).Nodup]) kr (sound _ _) ⟨(Zas k _ _ _ hy108),(by decide),trivial⟩ ?_
 refine WA.cond (b:=y108.1) rfl (fun hb109=>?_) (fun hb109=>?_)
 {
 have hF:=Zk hF hb109
 rcases Z7 hF with ⟨hz,hr⟩ | ⟨y110,hy110,hF⟩
 {
 subst hr
 refine WA.regP 1 [0] [] [] badV (f:=118) (args:=[.val false [.ptr 0 1 0 0]]) (os:=[.box (pvL (Zg y108.2))]) (env1:=[]) (os1:=[(0,.box (pvL (Zg y108.2))),(102,.box (pvL (Zd (⟨0,([]:List Zb),([]:List Ze),0,0⟩:Ze)))),(103,.box (pvL (Zd y101.1)))]) (O:=[]) kr (sound _ _) trivial (by decide) (ZkY k _ _ hz) (fun psl hpsl=>?_)
 obtain ⟨ps,rfl⟩:=ZV hpsl
 exact ⟨rfl,[ps],kr,rfl⟩ }
 {
 refine WA.reg [2,3,4,5] [0,102,103] [(1,.call [0] (.tup [(false,[.pv (.int .i64 y110.1)]),(false,[.pv (.int .i64 y110.2.1)])]) [.box (pvL (Zg y110.2.2))] [])] (env':=[(2,.val false [.ptr 102 1 0 0]),(3,.val false [.ptr 103 1 0 0]),(4,one (.int .i64 y110.1)),(5,one (.int .i64 y110.2.1))]) (os':=[(0,.box (pvL (Zg y110.2.2))),(102,.box (pvL (Zd (⟨0,([]:List Zb),([]:List Ze),0,0⟩:Ze)))),(103,.box (pvL (Zd y101.1)))]) (O:=[Sim Tryz.prog GL0 118 [.val false [.ptr 0 1 0 0]] [.box (pvL (Zg y108.2))] (.tup [(false,[.pv (.int .i64 y110.1)]),(false,[.pv (.int .i64 y110.2.1)])]) [.box (pvL (Zg y110.2.2))],([0]:List Nat).Nodup]) kr (sound _ _) ⟨(ZkY k _ _ hy110),(by decide),trivial⟩ ?_
 exact ⟨y110.2.2,y110.1,y110.2.1,kr,kr,hF⟩ } }
 {
 have hF:=Zj hF hb109
 refine WA.seq ?_
 refine WA.reg [2] [0,102] [] (env':=[(2,.val false [.ptr 102 1 0 0])]) (os':=[(0,.box (pvL (Zg y108.2))),(102,.box (pvL (Zd y101.1)))]) (O:=[]) kr (sound _ _) trivial ?_
 refine WA.ret ?_
 obtain rfl:=Option.some.inj hF
 exact Zp (.val true (pvL (Zd y101.1))) [.box (pvL (Zg y108.2))] kr kr kr kr (by decide) rfl rfl } } } } } }
def ZdE (R48:Zi→Option (Option (Ze×Zi))) (k:Nat) (self2:Zi→(List Ze)→Option (Option (Ze×Zi))) (v120:Zi) (v121:List Ze) (v127:Bool):Option (Option (Ze×Zi)):=
  cond v127 ((orP (F98 R48 k v120) fun y129=>if v121.length+([y129.1]:List Ze).length≤1073741824 then self2 y129.2 (v121 ++ ([y129.1]:List Ze)) else none)) (((cond ((v121.length:Int) == 1) (if (0:Int)≤0∧0<(v121.length:Int) then (idxL v121 0).bind fun y133=>(some (some (y133,v120))) else none) (((some (some ((⟨2,([]:List Zb),v121,0,0⟩:Ze),v120))))))))
def ZeC (R48:Zi→Option (Option (Ze×Zi))) (k:Nat) (self2:Zi→(List Ze)→Option (Option (Ze×Zi))) (v120:Zi) (v121:List Ze):Option (Option (Ze×Zi)):=
  cond (decide (v120.f_at<(v120.f_s.length:Int))) ((F97 k v120 ([124]:List UInt8)).bind fun y124=>cond (!y124) ((F97 k v120 ([41]:List UInt8)).bind fun y126=>(ZdE R48 k self2 v120 v121 (!y126))) ((ZdE R48 k self2 v120 v121 false))) ((ZdE R48 k self2 v120 v121 false))
def ZcL (R48:Zi→Option (Option (Ze×Zi))) (k:Nat):Nat→Zi→(List Ze)→Option (Option (Ze×Zi))
  | 0,_,_=>none
  | m_+1,v120,v121=>ZeC R48 k (ZcL R48 k m_) v120 v121
def F70 (R48:Zi→Option (Option (Ze×Zi))) (k:Nat) (v0:Zi):Option (Option (Ze×Zi)):=
  ((ZcL R48 k k v0 ([]:List Ze)))
theorem ZhG (R48:Zi→Option (Option (Ze×Zi))) (IH48:∀(v0:Zi) (r:Option (Ze×Zi)),R48 v0=some r→SimP Tryz.prog GL0 badV 48 [.val false [.ptr 0 1 0 0]] [.box (pvL (Zg v0))] (r.map fun r=>(.val true (pvL (Zd r.1)),[.box (pvL (Zg r.2))]))) (k:Nat) (v0:Zi) (r:Option (Ze×Zi)) (hF:F70 R48 k v0=some r):SimP Tryz.prog GL0 badV 70 [.val false [.ptr 0 1 0 0]] [.box (pvL (Zg v0))] (r.map fun r=>(.val true (pvL (Zd r.1)),[.box (pvL (Zg r.2))])):=by
 refine Zbk [0] Tryz.func70 rfl kr kr ?_
 show WA _ _ 37 _ _ _
 refine WA.seq ?_
 refine WA.reg [0,2] [0,102] [(0,.obj 102)] (env':=[(0,.val false [.ptr 0 1 0 0]),(2,.val false [.ptr 102 1 0 0])]) (os':=[(0,.box (pvL (Zg v0))),(102,.box (pvL (Zd (⟨0,([]:List Zb),([]:List Ze),0,0⟩:Ze))))]) (O:=[]) kr (sound _ _) trivial ?_
 refine WA.seq ?_
 refine WA.reg [0,2,3] [0,102,103] [(0,.obj 103)] (env':=[(0,.val false [.ptr 0 1 0 0]),(2,.val false [.ptr 102 1 0 0]),(3,.val false [.arr 103 0])]) (os':=[(0,.box (pvL (Zg v0))),(102,.box (pvL (Zd (⟨0,([]:List Zb),([]:List Ze),0,0⟩:Ze)))),(103,.arr 5 (Zm ([]:List Ze)))]) (O:=[]) kr (sound _ _) trivial ?_
 refine WA.seq ?_
 refine WA.block ?_
 refine WA.loop (fun m s_=>∃(v120:Zi) (v121:List Ze) (v122:Nat),Zl s_.env [0,2,3]=[(0,.val false [.ptr 0 1 0 0]),(2,.val false [.ptr 102 1 0 0]),(3,.val false [.arr 103 v122])]∧Zl s_.os [0,102,103]=[(0,.box (pvL (Zg v120))),(102,.box (pvL (Zd (⟨0,([]:List Zb),([]:List Ze),0,0⟩:Ze)))),(103,.arr 5 (Zm v121))]∧v122=(v121:List _).length∧ZcL R48 k m v120 v121=some r) k ⟨v0,([]:List Ze),0,kr,kr,zt,hF⟩ ?_
 clear hF
 rintro m2 s_ ⟨v120,v121,v122,he,ho,hn_v122,hF⟩
 refine WA.keep _ _ he ho ?_
 clear he ho
 cases m2 with
 | zero=>cases hF
 | succ m2=>
  obtain ⟨self2,hself2⟩:∃g,g=ZcL R48 k m2:=⟨_,rfl⟩
  have hF:ZeC R48 k self2 v120 v121=some r:=by first | (rw [hself2];exact hF) | exact hF
  refine WA.seq ?_
  refine WA.join (fun s_=>∃(v127:Bool),Zl s_.env [0,2,3,23]=[(0,.val false [.ptr 0 1 0 0]),(2,.val false [.ptr 102 1 0 0]),(3,.val false [.arr 103 v122]),(23,one (.bool v127))]∧Zl s_.os [0,102,103]=[(0,.box (pvL (Zg v120))),(102,.box (pvL (Zd (⟨0,([]:List Zb),([]:List Ze),0,0⟩:Ze)))),(103,.arr 5 (Zm v121))]∧ZdE R48 k self2 v120 v121 v127=some r) ?_ ?_
  {
 rintro s_ ⟨v127,he,ho,hF⟩
 refine WA.keep _ _ he ho ?_
 clear he ho
 refine WA.cond (b:=v127) rfl (fun hb128=>?_) (fun hb128=>?_)
 {
 have hF:=Zk hF hb128
 refine WA.skip ?_
 refine WA.block ?_
 rcases Z7 hF with ⟨hz,hr⟩ | ⟨y129,hy129,hF⟩
 {
 subst hr
 refine WA.regP 2 [0] [] [] badV (f:=98) (args:=[.val false [.ptr 0 1 0 0]]) (os:=[.box (pvL (Zg v120))]) (env1:=[]) (os1:=[(0,.box (pvL (Zg v120))),(102,.box (pvL (Zd (⟨0,([]:List Zb),([]:List Ze),0,0⟩:Ze)))),(103,.arr 5 (Zm v121))]) (O:=[]) kr (sound _ _) trivial (by decide) (Zmg R48 IH48 k _ _ hz) (fun psl hpsl=>?_)
 obtain ⟨ps,rfl⟩:=ZV hpsl
 exact ⟨rfl,[ps],kr,rfl⟩ }
 {
 obtain ⟨hc130,hF⟩:=Zo hF
 refine WA.rm (α:=(List (List PV))×(List (List PV))) (raw:=(((Zm v121) ++ ([(Zd y129.1)])),[(Zd y129.1)])) (can:=((Zm (v121 ++ ([y129.1]:List Ze))),(Zm ([y129.1]:List Ze)))) (fun m_=>([(0,.val false [.ptr 0 1 0 0]),(2,.val false [.ptr 102 1 0 0]),(3,.val false [.arr 103 (v122+1)])],[(0,.box (pvL (Zg y129.2))),(102,.box (pvL (Zd (⟨0,([]:List Zb),([]:List Ze),0,0⟩:Ze)))),(103,.arr 5 m_.1)],[Sim Tryz.prog GL0 98 [.val false [.ptr 0 1 0 0]] [.box (pvL (Zg v120))] (.val true (pvL (Zd y129.1))) [.box (pvL (Zg y129.2))],([0]:List Nat).Nodup,v122=(Zm v121).length,(Zm v121).length+m_.2.length≤1073741824,∀es,es∈m_.2→es.length=5])) (ZE zm zm) [0,2,3] [0,102,103] [(2,.call [0] (.val true (pvL (Zd y129.1))) [.box (pvL (Zg y129.2))] [])] kr (sound _ _) ⟨(Zmg R48 IH48 k _ _ hy129),(by decide),zt,(by first | exact hc130 | (simp only [List.length_map,Zh];exact hc130)),(Zci ([y129.1]:List Ze)),trivial⟩ ?_
 exact ⟨m2,Nat.lt_succ_self _,y129.2,(v121 ++ ([y129.1]:List Ze)),(v122+1),kr,kr,zt,by rw [hself2] at hF;exact hF⟩ } }
 {
 have hF:=Zj hF hb128
 refine WA.exit ?_
 refine WA.seq ?_
 refine WA.seq ?_
 refine WA.rm (α:=Int) (raw:=((v122:Nat):Int)) (can:=(v121.length:Int)) (fun m_=>([(2,.val false [.ptr 102 1 0 0]),(3,.val false [.arr 103 v122]),(31,one (.bool (m_ == 1)))],[(0,.box (pvL (Zg v120))),(102,.box (pvL (Zd (⟨0,([]:List Zb),([]:List Ze),0,0⟩:Ze)))),(103,.arr 5 (Zm v121))],[])) ((by first | (simp only [zl,Zh];done) | (simp only [zl,Zh];omega) | omega)) [2,3,31] [0,102,103] [] kr (sound _ _) trivial ?_
 refine WA.cond (b:=((v121.length:Int) == 1)) rfl (fun hb131=>?_) (fun hb131=>?_)
 {
 have hF:=Zk hF hb131
 refine WA.seq ?_
 obtain ⟨hc132,hF⟩:=Zo hF
 obtain ⟨y133,hy133,hF⟩:=bind_some hF
 refine WA.reg [2] [0,102] [(2,.cells (Zd y133))] (env':=[(2,.val false [.ptr 102 1 0 0])]) (os':=[(0,.box (pvL (Zg v120))),(102,.box (pvL (Zd y133)))]) (O:=[v122=(Zm v121).length,(0:Int)≤0,0<((v122:Nat):Int),v122=(Zm v121).length,(Zm v121)[Int.toNat 0]?=some (Zd y133)]) kr (sound _ _) ⟨zt,hc132.1,(by have h_:=hc132.2;(try simp only [zl,Zh] at h_ ⊢);omega),zt,(Zr (ZR hy133)),trivial⟩ ?_
 refine WA.ret ?_
 obtain rfl:=Option.some.inj hF
 exact Zp (.val true (pvL (Zd y133))) [.box (pvL (Zg v120))] kr kr kr kr (by decide) rfl rfl }
 {
 have hF:=Zj hF hb131
 refine WA.skip ?_
 refine WA.seq ?_
 refine WA.freeze 103 3 (s:=5) (n:=v122) (els:=(Zm v121)) rfl rfl zt ?_
 refine WA.keep [2,3] [0,102] (env':=[(2,.val false [.ptr 102 1 0 0]),(3,one (.sl (Zm v121)))]) (os':=[(0,.box (pvL (Zg v120))),(102,.box (pvL (Zd (⟨0,([]:List Zb),([]:List Ze),0,0⟩:Ze))))]) kr kr ?_
 refine WA.reg [2] [0,102] [] (env':=[(2,.val false [.ptr 102 1 0 0])]) (os':=[(0,.box (pvL (Zg v120))),(102,.box (pvL (Zd (⟨2,([]:List Zb),v121,0,0⟩:Ze))))]) (O:=[]) kr (sound _ _) trivial ?_
 refine WA.ret ?_
 obtain rfl:=Option.some.inj hF
 exact Zp (.val true (pvL (Zd (⟨2,([]:List Zb),v121,0,0⟩:Ze)))) [.box (pvL (Zg v120))] kr kr kr kr (by decide) rfl rfl } } }
  {
 rcases Bool.eq_false_or_eq_true (decide (v120.f_at<(v120.f_s.length:Int))) with hb123 | hb123
 {
 have hF:=Zk hF hb123
 obtain ⟨y124,hy124,hF⟩:=bind_some hF
 rcases Bool.eq_false_or_eq_true (!y124) with hb125 | hb125
 {
 have hF:=Zk hF hb125
 obtain ⟨y126,hy126,hF⟩:=bind_some hF
 refine WA.regD kr [0,2,3,23] [0,102,103] [(10,.bool true),(12,.callR [0] (one (.bool y124))),(15,.bool true),(17,.callR [0] (one (.bool y126)))] (env':=[(0,.val false [.ptr 0 1 0 0]),(2,.val false [.ptr 102 1 0 0]),(3,.val false [.arr 103 v122]),(23,one (.bool (!y126)))]) (os':=[(0,.box (pvL (Zg v120))),(102,.box (pvL (Zd (⟨0,([]:List Zb),([]:List Ze),0,0⟩:Ze)))),(103,.arr 5 (Zm v121))]) (O:=[(decide (v120.f_at<(v120.f_s.length:Int)))=true,Sim Tryz.prog GL0 97 [.val false [.ptr 0 1 0 0],one (.str ([124]:List UInt8))] [.box (pvL (Zg v120))] (one (.bool y124)) [.box (pvL (Zg v120))],([0]:List Nat).Nodup,(!y124)=true,Sim Tryz.prog GL0 97 [.val false [.ptr 0 1 0 0],one (.str ([41]:List UInt8))] [.box (pvL (Zg v120))] (one (.bool y126)) [.box (pvL (Zg v120))],([0]:List Nat).Nodup]) kr kr (sound _ _) ⟨hb123,(ZdF k _ _ _ hy124),(by decide),hb125,(ZdF k _ _ _ hy126),(by decide),trivial⟩ ?_
 exact ⟨(!y126),kr,kr,hF⟩ }
 {
 have hF:=Zj hF hb125
 refine WA.regD kr [0,2,3,23] [0,102,103] [(10,.bool true),(12,.callR [0] (one (.bool y124))),(15,.bool false),(17,.callR [] (.tup []))] (env':=[(0,.val false [.ptr 0 1 0 0]),(2,.val false [.ptr 102 1 0 0]),(3,.val false [.arr 103 v122]),(23,one (.bool false))]) (os':=[(0,.box (pvL (Zg v120))),(102,.box (pvL (Zd (⟨0,([]:List Zb),([]:List Ze),0,0⟩:Ze)))),(103,.arr 5 (Zm v121))]) (O:=[(decide (v120.f_at<(v120.f_s.length:Int)))=true,Sim Tryz.prog GL0 97 [.val false [.ptr 0 1 0 0],one (.str ([124]:List UInt8))] [.box (pvL (Zg v120))] (one (.bool y124)) [.box (pvL (Zg v120))],([0]:List Nat).Nodup,(!y124)=false]) kr kr (sound _ _) ⟨hb123,(ZdF k _ _ _ hy124),(by decide),hb125,trivial⟩ ?_
 exact ⟨false,kr,kr,hF⟩ } }
 {
 have hF:=Zj hF hb123
 refine WA.regD kr [0,2,3,23] [0,102,103] [(10,.bool false),(12,.callR [] (.tup [])),(17,.callR [] (.tup []))] (env':=[(0,.val false [.ptr 0 1 0 0]),(2,.val false [.ptr 102 1 0 0]),(3,.val false [.arr 103 v122]),(23,one (.bool false))]) (os':=[(0,.box (pvL (Zg v120))),(102,.box (pvL (Zd (⟨0,([]:List Zb),([]:List Ze),0,0⟩:Ze)))),(103,.arr 5 (Zm v121))]) (O:=[(decide (v120.f_at<(v120.f_s.length:Int)))=false]) kr kr (sound _ _) ⟨hb123,trivial⟩ ?_
 exact ⟨false,kr,kr,hF⟩ } }
def Zey (R48:Zi→Option (Option (Ze×Zi))) (k:Nat) (self0:Zi→(List Ze)→Option (Option (Ze×Zi))) (v113:Zi) (v114:List Ze):Option (Option (Ze×Zi)):=
  (F71 k v113 ([124]:List UInt8)).bind fun y116=>(cond y116.1 ((orP (F70 R48 k y116.2) fun y118=>if v114.length+([y118.1]:List Ze).length≤1073741824 then self0 y118.2 (v114 ++ ([y118.1]:List Ze)) else none)) (((cond ((v114.length:Int) == 1) (if (0:Int)≤0∧0<(v114.length:Int) then (idxL v114 0).bind fun y122=>(some (some (y122,y116.2))) else none) (((some (some ((⟨3,([]:List Zb),v114,0,0⟩:Ze),y116.2)))))))))
def ZdD (R48:Zi→Option (Option (Ze×Zi))) (k:Nat):Nat→Zi→(List Ze)→Option (Option (Ze×Zi))
  | 0,_,_=>none
  | m_+1,v113,v114=>Zey R48 k (ZdD R48 k m_) v113 v114
def Zgu (R48:Zi→Option (Option (Ze×Zi))) (k:Nat) (v0:Zi):Option (Option (Ze×Zi)):=
  (orP (F70 R48 k v0) fun y101=>(ZdD R48 k k y101.2 ([y101.1]:List Ze)))
theorem ZmZ (R48:Zi→Option (Option (Ze×Zi))) (IH48:∀(v0:Zi) (r:Option (Ze×Zi)),R48 v0=some r→SimP Tryz.prog GL0 badV 48 [.val false [.ptr 0 1 0 0]] [.box (pvL (Zg v0))] (r.map fun r=>(.val true (pvL (Zd r.1)),[.box (pvL (Zg r.2))]))) (k:Nat) (v0:Zi) (r:Option (Ze×Zi)) (hF:Zgu R48 k v0=some r):SimP Tryz.prog GL0 badV 48 [.val false [.ptr 0 1 0 0]] [.box (pvL (Zg v0))] (r.map fun r=>(.val true (pvL (Zd r.1)),[.box (pvL (Zg r.2))])):=by
 refine Zbk [0] Tryz.func48 rfl kr kr ?_
 show WA _ _ 22 _ _ _
 refine WA.seq ?_
 refine WA.reg [0,2] [0,102] [(0,.obj 102)] (env':=[(0,.val false [.ptr 0 1 0 0]),(2,.val false [.ptr 102 1 0 0])]) (os':=[(0,.box (pvL (Zg v0))),(102,.box (pvL (Zd (⟨0,([]:List Zb),([]:List Ze),0,0⟩:Ze))))]) (O:=[]) kr (sound _ _) trivial ?_
 refine WA.seq ?_
 rcases Z7 hF with ⟨hz,hr⟩ | ⟨y101,hy101,hF⟩
 {
 subst hr
 refine WA.regP 1 [0] [] [] badV (f:=70) (args:=[.val false [.ptr 0 1 0 0]]) (os:=[.box (pvL (Zg v0))]) (env1:=[]) (os1:=[(0,.box (pvL (Zg v0))),(102,.box (pvL (Zd (⟨0,([]:List Zb),([]:List Ze),0,0⟩:Ze))))]) (O:=[]) kr (sound _ _) trivial (by decide) (ZhG R48 IH48 k _ _ hz) (fun psl hpsl=>?_)
 obtain ⟨ps,rfl⟩:=ZV hpsl
 exact ⟨rfl,[ps],kr,rfl⟩ }
 {
 refine WA.rm (α:=(List (List PV))) (raw:=[(Zd y101.1)]) (can:=(Zm ([y101.1]:List Ze))) (fun m_=>([(0,.val false [.ptr 0 1 0 0]),(2,.val false [.ptr 102 1 0 0]),(3,.val false [.arr 106 1])],[(0,.box (pvL (Zg y101.2))),(102,.box (pvL (Zd (⟨0,([]:List Zb),([]:List Ze),0,0⟩:Ze)))),(106,.arr 5 m_)],[Sim Tryz.prog GL0 70 [.val false [.ptr 0 1 0 0]] [.box (pvL (Zg v0))] (.val true (pvL (Zd y101.1))) [.box (pvL (Zg y101.2))],([0]:List Nat).Nodup])) (zm) [0,2,3] [0,102,106] [(1,.call [0] (.val true (pvL (Zd y101.1))) [.box (pvL (Zg y101.2))] []),(2,.obj 106)] kr (sound _ _) ⟨(ZhG R48 IH48 k _ _ hy101),(by decide),trivial⟩ ?_
 refine WA.seq ?_
 refine WA.block ?_
 refine WA.loop (fun m s_=>∃(v113:Zi) (v114:List Ze) (v115:Nat),Zl s_.env [0,2,3]=[(0,.val false [.ptr 0 1 0 0]),(2,.val false [.ptr 102 1 0 0]),(3,.val false [.arr 106 v115])]∧Zl s_.os [0,102,106]=[(0,.box (pvL (Zg v113))),(102,.box (pvL (Zd (⟨0,([]:List Zb),([]:List Ze),0,0⟩:Ze)))),(106,.arr 5 (Zm v114))]∧v115=(v114:List _).length∧ZdD R48 k m v113 v114=some r) k ⟨y101.2,([y101.1]:List Ze),1,kr,kr,zt,hF⟩ ?_
 clear hF
 rintro m0 s_ ⟨v113,v114,v115,he,ho,hn_v115,hF⟩
 refine WA.keep _ _ he ho ?_
 clear he ho
 cases m0 with
 | zero=>cases hF
 | succ m0=>
  obtain ⟨self0,hself0⟩:∃g,g=ZdD R48 k m0:=⟨_,rfl⟩
  have hF:Zey R48 k self0 v113 v114=some r:=by first | (rw [hself0];exact hF) | exact hF
  refine WA.seq ?_
  refine WA.seq ?_
  obtain ⟨y116,hy116,hF⟩:=bind_some hF
  refine WA.reg [0,2,3,8] [0,102,106] [(1,.call [0] (one (.bool y116.1)) [.box (pvL (Zg y116.2))] [])] (env':=[(0,.val false [.ptr 0 1 0 0]),(2,.val false [.ptr 102 1 0 0]),(3,.val false [.arr 106 v115]),(8,one (.bool y116.1))]) (os':=[(0,.box (pvL (Zg y116.2))),(102,.box (pvL (Zd (⟨0,([]:List Zb),([]:List Ze),0,0⟩:Ze)))),(106,.arr 5 (Zm v114))]) (O:=[Sim Tryz.prog GL0 71 [.val false [.ptr 0 1 0 0],one (.str ([124]:List UInt8))] [.box (pvL (Zg v113))] (one (.bool y116.1)) [.box (pvL (Zg y116.2))],([0]:List Nat).Nodup]) kr (sound _ _) ⟨(Zas k _ _ _ hy116),(by decide),trivial⟩ ?_
  refine WA.cond (b:=y116.1) rfl (fun hb117=>?_) (fun hb117=>?_)
  {
 have hF:=Zk hF hb117
 refine WA.skip ?_
 refine WA.block ?_
 rcases Z7 hF with ⟨hz,hr⟩ | ⟨y118,hy118,hF⟩
 {
 subst hr
 refine WA.regP 2 [0] [] [] badV (f:=70) (args:=[.val false [.ptr 0 1 0 0]]) (os:=[.box (pvL (Zg y116.2))]) (env1:=[]) (os1:=[(0,.box (pvL (Zg y116.2))),(102,.box (pvL (Zd (⟨0,([]:List Zb),([]:List Ze),0,0⟩:Ze)))),(106,.arr 5 (Zm v114))]) (O:=[]) kr (sound _ _) trivial (by decide) (ZhG R48 IH48 k _ _ hz) (fun psl hpsl=>?_)
 obtain ⟨ps,rfl⟩:=ZV hpsl
 exact ⟨rfl,[ps],kr,rfl⟩ }
 {
 obtain ⟨hc119,hF⟩:=Zo hF
 refine WA.rm (α:=(List (List PV))×(List (List PV))) (raw:=(((Zm v114) ++ ([(Zd y118.1)])),[(Zd y118.1)])) (can:=((Zm (v114 ++ ([y118.1]:List Ze))),(Zm ([y118.1]:List Ze)))) (fun m_=>([(0,.val false [.ptr 0 1 0 0]),(2,.val false [.ptr 102 1 0 0]),(3,.val false [.arr 106 (v115+1)])],[(0,.box (pvL (Zg y118.2))),(102,.box (pvL (Zd (⟨0,([]:List Zb),([]:List Ze),0,0⟩:Ze)))),(106,.arr 5 m_.1)],[Sim Tryz.prog GL0 70 [.val false [.ptr 0 1 0 0]] [.box (pvL (Zg y116.2))] (.val true (pvL (Zd y118.1))) [.box (pvL (Zg y118.2))],([0]:List Nat).Nodup,v115=(Zm v114).length,(Zm v114).length+m_.2.length≤1073741824,∀es,es∈m_.2→es.length=5])) (ZE zm zm) [0,2,3] [0,102,106] [(2,.call [0] (.val true (pvL (Zd y118.1))) [.box (pvL (Zg y118.2))] [])] kr (sound _ _) ⟨(ZhG R48 IH48 k _ _ hy118),(by decide),zt,(by first | exact hc119 | (simp only [List.length_map,Zh];exact hc119)),(Zci ([y118.1]:List Ze)),trivial⟩ ?_
 exact ⟨m0,Nat.lt_succ_self _,y118.2,(v114 ++ ([y118.1]:List Ze)),(v115+1),kr,kr,zt,by rw [hself0] at hF;exact hF⟩ } }
  {
 have hF:=Zj hF hb117
 refine WA.exit ?_
 refine WA.seq ?_
 refine WA.seq ?_
 refine WA.rm (α:=Int) (raw:=((v115:Nat):Int)) (can:=(v114.length:Int)) (fun m_=>([(2,.val false [.ptr 102 1 0 0]),(3,.val false [.arr 106 v115]),(16,one (.bool (m_ == 1)))],[(0,.box (pvL (Zg y116.2))),(102,.box (pvL (Zd (⟨0,([]:List Zb),([]:List Ze),0,0⟩:Ze)))),(106,.arr 5 (Zm v114))],[])) ((by first | (simp only [zl,Zh];done) | (simp only [zl,Zh];omega) | omega)) [2,3,16] [0,102,106] [] kr (sound _ _) trivial ?_
 refine WA.cond (b:=((v114.length:Int) == 1)) rfl (fun hb120=>?_) (fun hb120=>?_)
 {
 have hF:=Zk hF hb120
 refine WA.seq ?_
 obtain ⟨hc121,hF⟩:=Zo hF
 obtain ⟨y122,hy122,hF⟩:=bind_some hF
 refine WA.reg [2] [0,102] [(2,.cells (Zd y122))] (env':=[(2,.val false [.ptr 102 1 0 0])]) (os':=[(0,.box (pvL (Zg y116.2))),(102,.box (pvL (Zd y122)))]) (O:=[v115=(Zm v114).length,(0:Int)≤0,0<((v115:Nat):Int),v115=(Zm v114).length,(Zm v114)[Int.toNat 0]?=some (Zd y122)]) kr (sound _ _) ⟨zt,hc121.1,(by have h_:=hc121.2;(try simp only [zl,Zh] at h_ ⊢);omega),zt,(Zr (ZR hy122)),trivial⟩ ?_
 refine WA.ret ?_
 obtain rfl:=Option.some.inj hF
 exact Zp (.val true (pvL (Zd y122))) [.box (pvL (Zg y116.2))] kr kr kr kr (by decide) rfl rfl }
 {
 have hF:=Zj hF hb120
 refine WA.skip ?_
 refine WA.seq ?_
 refine WA.freeze 106 3 (s:=5) (n:=v115) (els:=(Zm v114)) rfl rfl zt ?_
 refine WA.keep [2,3] [0,102] (env':=[(2,.val false [.ptr 102 1 0 0]),(3,one (.sl (Zm v114)))]) (os':=[(0,.box (pvL (Zg y116.2))),(102,.box (pvL (Zd (⟨0,([]:List Zb),([]:List Ze),0,0⟩:Ze))))]) kr kr ?_
 refine WA.reg [2] [0,102] [] (env':=[(2,.val false [.ptr 102 1 0 0])]) (os':=[(0,.box (pvL (Zg y116.2))),(102,.box (pvL (Zd (⟨3,([]:List Zb),v114,0,0⟩:Ze))))]) (O:=[]) kr (sound _ _) trivial ?_
 refine WA.ret ?_
 obtain rfl:=Option.some.inj hF
 exact Zp (.val true (pvL (Zd (⟨3,([]:List Zb),v114,0,0⟩:Ze)))) [.box (pvL (Zg y116.2))] kr kr kr kr (by decide) rfl rfl } } }
def F48:Nat→Zi→Option (Option (Ze×Zi))
  | 0,_=>none
  | k+1,v0=>Zgu (F48 k) k v0
theorem ZjO:∀(k:Nat),∀(v0:Zi) (r:Option (Ze×Zi)),F48 k v0=some r→SimP Tryz.prog GL0 badV 48 [.val false [.ptr 0 1 0 0]] [.box (pvL (Zg v0))] (r.map fun r=>(.val true (pvL (Zd r.1)),[.box (pvL (Zg r.2))]))
  | 0=>fun _ _ hF=>by cases hF
  | k+1=>fun v0 r hF=>ZmZ (F48 k) (ZjO k) k v0 r hF
end Go.Proofs.YthilboheomikjaaGreatDoor
end
section
namespace Go.Proofs.YthilboheomikjaaGreatDoor
open Go.AL Go.RowKit
set_option maxRecDepth 100000
theorem ZlB (w:World):(Instr.typeAssert .nilIface 20 70 true).run Tryz.prog w = .ok (.tuple #[.agg #[],.bool false]) w:=by kernel_rfl
theorem ZlA (w:World):(Instr.typeAssert badV 20 70 true).run Tryz.prog w = .ok (.tuple #[.agg #[],.bool true]) w:=by kernel_rfl
theorem ZlF (p q:Addr) (w:World) :
    CallsD Tryz.prog 47 #[.pointer (some p),.pointer (some q)] .returning w fun e u' w'=>e = .returned (.tuple #[])∧u' = .returning∧w'=w.alloc (.cells #[] 70):=by
  refine callsD_of_wpS Tryz.func47 rfl fun c₀ cs hu=>?_
  apply wpS_seq
  apply wpS_region
  simp [wpOpsS,go_sem,recoverD,hu,Tryz.ntmps47,Exit.thenS,ZlB,Oper.upon,Act.put]
  apply wpS_seq
  apply wpS_region
  simp [wpOpsS,go_sem,Exit.thenS,Oper.upon,Act.put]
  refine wpS_cond (t:=false) (by simp [Act.eval,Array.replicate]) ?_
  simp only [Bool.false_eq_true,if_false]
  refine wpS_of_wp (wp_skip ?_)
  cases c₀
  simp_all [bodyPostS,results,Tryz.results47,Exit.thenS]
theorem Zmk (p q:Addr) (w:World) (w1 w2:World) (h1:(Instr.storeAt 35 (.pointer (some p)) (.agg #[.int .i64 0,.slice none 0 0,.slice none 0 0,.int .i64 0,.int .i64 0])).run Tryz.prog (w.alloc (.cells #[] 70)) = .ok () w1)
    (h2:(Instr.storeAt 3 (.pointer (some q)) (.int .i64 3)).run Tryz.prog w1 = .ok () w2) :
    CallsD Tryz.prog 47 #[.pointer (some p),.pointer (some q)] (.panicking (ZdR badV)) w fun e u' w'=>e = .returned (.tuple #[])∧u' = .panicking [{ v:=badV,recovered:=true }]∧w'=w2:=by
  refine callsD_of_wpS Tryz.func47 rfl fun c₀ cs hu=>?_
  apply wpS_seq
  apply wpS_region
  have hb:badV = .iface 70 (.agg #[]):=rfl
  simp [wpOpsS,go_sem,recoverD,hu,Tryz.ntmps47,Exit.thenS,ZlA,Oper.upon,Act.put,ZdR]
  apply wpS_seq
  apply wpS_region
  simp [wpOpsS,go_sem,Exit.thenS,Oper.upon,Act.put]
  refine wpS_cond (t:=true) (by simp [Act.eval,Array.replicate]) ?_
  simp only [if_true]
  have hbld:∀W:World,(Instr.build 35 #[]).run Tryz.prog W = .ok (.agg #[.int .i64 0,.slice none 0 0,.slice none 0 0,.int .i64 0,.int .i64 0]) W:=fun W=>by kernel_rfl
  apply wpS_region
  simp [wpOpsS,execOp,Exit.thenS,Oper.upon,Act.put,hbld,Act.eval,h1,h2,Region.wanted,Array.replicate,show List.range 3=[0,1,2] from rfl]
  exact ⟨rfl,_,rfl,.tuple #[],by simp [results,Tryz.results47],rfl,rfl,rfl⟩
end Go.Proofs.YthilboheomikjaaGreatDoor
end
section
namespace Go.Proofs.YthilboheomikjaaGreatDoor
open Go.AL Go.RowKit
set_option maxRecDepth 100000
def zRe:Ze:=⟨0,[],[],0,0⟩
def Zjy (k:Nat) (s:List UInt8) (p:Ze) (r:Zi):Option (Ze×Int):=
  cond r.f_over (some (zRe,8)) ((F32 k p).bind fun n=>cond (decide (n > 200)) (some (zRe,8)) ((F50 k p).bind fun d=>cond (decide (d > 14)) (some (zRe,8)) (some (p,0))))
def Zhp (k:Nat) (s:List UInt8) (p:Ze) (r:Zi):Option (Ze×Int):=
  cond (decide (r.f_at<(s.length:Int))) (some (zRe,3)) ((F49 k s).bind fun b=>cond b (Zjy k s p r) (some (zRe,3)))
def Zjz (k:Nat) (s:List UInt8):Option (Ze×Int):=(F48 k ⟨s,0,false⟩).bind fun y=>match y with
  | none=>some (zRe,3)
  | some (p,r)=>Zhp k s p r
def F27 (k:Nat) (s:List UInt8):Option (Ze×Int):=cond (decide ((s.length:Int) > 400)) (some (zRe,8)) (Zjz k s)
def ptrs:List (Nat×AT):=[(2,.val false [.ptr 0 1 0 0]),(3,.val false [.ptr 1 1 0 0])]
def FR (res:Ze×Int):Exit→S→Prop
  | .ret,s=>Zl s.env [2,3]=ptrs∧Zl s.os [0,1]=[(0,.box (pvL (Zd res.1))),(1,.box (pvL [.int .i64 res.2]))]
  | .panic ch,s=>ch=ZdR badV∧res=(zRe,3)∧Zl s.env [2,3]=ptrs∧∃(p:Ze) (n:Int),Zl s.os [0,1]=[(0,.box (pvL (Zd p))),(1,.box (pvL [.int .i64 n]))]
  | _,_=>False
def ZdQ:Option Code→Option Code
  | some (.seq _ (.seq _ (.seq _ c)))=>some c
  | _=>none
def Zpc:Option Code→Code
  | some (.seq _ (.seq _ (.seq (.seq _ (.cond _ c _)) _)))=>c
  | _=>.skip
def Zpe:Option Code→Code
  | some (.seq _ (.seq _ (.seq _ c)))=>c
  | _=>.skip
def Zpg:Option Code→Code
  | some (.seq _ (.seq _ (.seq _ (.seq (.seq _ (.cond _ c _)) _))))=>c
  | _=>.skip
def ZoW:Option Code→Code
  | some (.seq _ (.seq _ (.seq _ (.seq (.seq _ c) _))))=>c
  | _=>.skip
def ZnI:Option Code→Code
  | some (.seq _ (.seq _ (.seq _ (.seq _ c))))=>c
  | _=>.skip
theorem Zou (k:Nat) (s:List UInt8) (res:Ze×Int) (hF:Zjz k s=some res) (c:Code) (hc:ZdQ Tryz.f27.body=some c) :
    WA Tryz.prog GL0 45 c ⟨(0,one (.str s)) :: ptrs,[(0,.box (pvL (Zd zRe))),(1,.box (pvL [.int .i64 0]))]⟩ (FR res):=by
  cases hc
  refine WA.seq ?_
  refine WA.reg [0,2,3,4] [0,1,112] [(2,.obj 112)] (env':=(0,one (.str s)) :: ptrs ++ [(4,.val false [.ptr 112 1 0 0])]) (os':=[(0,.box (pvL (Zd zRe))),(1,.box (pvL [.int .i64 0])),(112,.box (pvL (Zg ⟨s,0,false⟩)))]) (O:=[]) (by kernel_rfl) (sound _ _) trivial ?_
  refine WA.seq ?_
  obtain ⟨y,hy,hF⟩:=bind_some hF
  cases y with
  | none=>
    obtain rfl:=Option.some.inj hF
    refine WA.regP 1 [112] [2,3] [] badV (f:=48) (args:=[.val false [.ptr 0 1 0 0]]) (os:=[.box (pvL (Zg ⟨s,0,false⟩))]) (env1:=ptrs) (os1:=[(0,.box (pvL (Zd zRe))),(1,.box (pvL [.int .i64 0])),(112,.box (pvL (Zg ⟨s,0,false⟩)))]) (O:=[]) (by kernel_rfl) (sound _ _) trivial (by decide) (ZjO k _ _ hy) (fun psl hpsl=>?_)
    obtain ⟨ps,rfl⟩:=ZV hpsl
    exact ⟨rfl,rfl,by kernel_rfl,zRe,0,by kernel_rfl⟩
  | some y=>
    obtain ⟨p,r⟩:=y
    have hF:Zhp k s p r=some res:=hF
    refine WA.reg [0,2,3,4] [0,1,112] [(1,.call [112] (.val true (pvL (Zd p))) [.box (pvL (Zg r))] [])] (env':=(0,one (.str s)) :: ptrs ++ [(4,.val false [.ptr 112 1 0 0])]) (os':=[(0,.box (pvL (Zd p))),(1,.box (pvL [.int .i64 0])),(112,.box (pvL (Zg r)))]) (O:=[Sim Tryz.prog GL0 48 [.val false [.ptr 0 1 0 0]] [.box (pvL (Zg ⟨s,0,false⟩))] (.val true (pvL (Zd p))) [.box (pvL (Zg r))],([112]:List Nat).Nodup]) (by kernel_rfl) (sound _ _) ⟨ZjO k _ _ hy,by decide,trivial⟩ ?_
    refine WA.seq ?_
    refine WA.seq ?_
    have hbad:some (zRe,3)=some res→WA Tryz.prog GL0 45 (Zpc (ZdQ Tryz.f27.body)) ⟨ptrs ++ [(4,.val false [.ptr 112 1 0 0])],[(0,.box (pvL (Zd p))),(1,.box (pvL [.int .i64 0])),(112,.box (pvL (Zg r)))]⟩ (FR res):=fun hF=>by
      obtain rfl:=Option.some.inj hF
      show WA Tryz.prog GL0 45 (.region 7 _ _) _ _
      refine WA.bad [2,3] (t:=70) (env1:=ptrs) (os1:=[(0,.box (pvL (Zd p))),(1,.box (pvL [.int .i64 0])),(112,.box (pvL (Zg r)))]) (O:=[]) (by kernel_rfl) (sound _ _) trivial ?_
      exact ⟨rfl,rfl,by kernel_rfl,p,0,by kernel_rfl⟩
    have hrest:Zjy k s p r=some res→WA Tryz.prog GL0 45 (Zpe (ZdQ Tryz.f27.body)) ⟨ptrs ++ [(4,.val false [.ptr 112 1 0 0])],[(0,.box (pvL (Zd p))),(1,.box (pvL [.int .i64 0])),(112,.box (pvL (Zg r)))]⟩ (FR res):=fun hF=>by
      have hlim:some (zRe,8)=some res→WA Tryz.prog GL0 45 (Zpg (ZdQ Tryz.f27.body)) ⟨ptrs,[(0,.box (pvL (Zd p))),(1,.box (pvL [.int .i64 0]))]⟩ (FR res):=fun hF=>by
        obtain rfl:=Option.some.inj hF
        show WA Tryz.prog GL0 45 (.seq (.region 9 _ _) .ret) _ _
        refine WA.seq ?_
        refine WA.reg [2,3] [0,1] [] (env':=ptrs) (os':=[(0,.box (pvL (Zd zRe))),(1,.box (pvL [.int .i64 8]))]) (O:=[]) (by kernel_rfl) (sound _ _) trivial ?_
        refine WA.ret ?_
        exact ⟨by kernel_rfl,by kernel_rfl⟩
      have hend:some (p,0)=some res→WA Tryz.prog GL0 45 (ZnI (ZdQ Tryz.f27.body)) ⟨ptrs,[(0,.box (pvL (Zd p))),(1,.box (pvL [.int .i64 0]))]⟩ (FR res):=fun hF=>by
        obtain rfl:=Option.some.inj hF
        show WA Tryz.prog GL0 45 (.seq (.region 10 _ _) .ret) _ _
        refine WA.seq ?_
        refine WA.reg [2,3] [0,1] [] (env':=ptrs) (os':=[(0,.box (pvL (Zd p))),(1,.box (pvL [.int .i64 0]))]) (O:=[]) (by kernel_rfl) (sound _ _) trivial ?_
        refine WA.ret ?_
        exact ⟨by kernel_rfl,by kernel_rfl⟩
      have hB:∀b:Bool,(b=true→some (zRe,8)=some res)→(b=false→some (p,0)=some res)→WA Tryz.prog GL0 45 (ZoW (ZdQ Tryz.f27.body)) ⟨ptrs ++ [(42,one (.bool b))],[(0,.box (pvL (Zd p))),(1,.box (pvL [.int .i64 0]))]⟩ (Then Tryz.prog GL0 45 (ZnI (ZdQ Tryz.f27.body)) (FR res)):=fun b h1 h2=>by
        show WA Tryz.prog GL0 45 (.cond (.tmp 42) _ _) _ _
        refine WA.cond (b:=b) rfl (fun hb=>?_) (fun hb=>?_)
        · refine WA.keep [2,3] [0,1] (env':=ptrs) (os':=[(0,.box (pvL (Zd p))),(1,.box (pvL [.int .i64 0]))]) (by kernel_rfl) (by kernel_rfl) ?_
          exact (hlim (h1 hb)).mono fun e s h=>by cases e <;> first | exact h | exact h.elim
        · refine WA.skip ?_
          refine WA.keep [2,3] [0,1] (env':=ptrs) (os':=[(0,.box (pvL (Zd p))),(1,.box (pvL [.int .i64 0]))]) (by kernel_rfl) (by kernel_rfl) ?_
          exact hend (h2 hb)
      show WA Tryz.prog GL0 45 (.seq (.seq (.region 8 _ _) _) _) _ _
      refine WA.seq (WA.seq ?_)
      unfold Zjy at hF
      rcases Bool.eq_false_or_eq_true r.f_over with hb | hb
      · have hF:=Zk hF hb
        refine WA.reg [2,3,42] [0,1] [(4,.bool true)] (env':=ptrs ++ [(42,one (.bool true))]) (os':=[(0,.box (pvL (Zd p))),(1,.box (pvL [.int .i64 0]))]) (O:=[r.f_over=true]) (by kernel_rfl) (sound _ _) ⟨hb,trivial⟩ ?_
        exact hB true (fun _=>hF) (fun h=>by cases h)
      · have hF:=Zj hF hb
        obtain ⟨n,hn,hF⟩:=bind_some hF
        rcases Bool.eq_false_or_eq_true (decide (n > 200)) with hb2 | hb2
        · have hF:=Zk hF hb2
          refine WA.reg [2,3,42] [0,1] [(4,.bool false),(6,.callR [] (one (.int .i64 n))),(9,.bool true)] (env':=ptrs ++ [(42,one (.bool true))]) (os':=[(0,.box (pvL (Zd p))),(1,.box (pvL [.int .i64 0]))]) (O:=[r.f_over=false,Sim Tryz.prog GL0 32 [.val true (pvL (Zd p))] [] (one (.int .i64 n)) [],([]:List Nat).Nodup,decide (n > 200)=true]) (by kernel_rfl) (sound _ _) ⟨hb,Zhs k _ _ hn,by decide,hb2,trivial⟩ ?_
          exact hB true (fun _=>hF) (fun h=>by cases h)
        · have hF:=Zj hF hb2
          obtain ⟨d,hd,hF⟩:=bind_some hF
          refine WA.reg [2,3,42] [0,1] [(4,.bool false),(6,.callR [] (one (.int .i64 n))),(9,.bool false),(11,.callR [] (one (.int .i64 d)))] (env':=ptrs ++ [(42,one (.bool (decide (d > 14))))]) (os':=[(0,.box (pvL (Zd p))),(1,.box (pvL [.int .i64 0]))]) (O:=[r.f_over=false,Sim Tryz.prog GL0 32 [.val true (pvL (Zd p))] [] (one (.int .i64 n)) [],([]:List Nat).Nodup,decide (n > 200)=false,Sim Tryz.prog GL0 50 [.val true (pvL (Zd p))] [] (one (.int .i64 d)) [],([]:List Nat).Nodup]) (by kernel_rfl) (sound _ _) ⟨hb,Zhs k _ _ hn,by decide,hb2,Zl3 k _ _ hd,by decide,trivial⟩ ?_
          exact hB (decide (d > 14)) (fun h=>Zk hF h) (fun h=>Zj hF h)
    unfold Zhp at hF
    rcases Bool.eq_false_or_eq_true (decide (r.f_at<(s.length:Int))) with hb | hb
    · have hF:=Zk hF hb
      refine WA.reg [2,3,4,26] [0,1,112] [(7,.bool true)] (env':=ptrs ++ [(4,.val false [.ptr 112 1 0 0]),(26,one (.bool true))]) (os':=[(0,.box (pvL (Zd p))),(1,.box (pvL [.int .i64 0])),(112,.box (pvL (Zg r)))]) (O:=[decide (r.f_at<(s.length:Int))=true]) (by kernel_rfl) (sound _ _) ⟨hb,trivial⟩ ?_
      refine WA.cond (b:=true) rfl (fun _=>?_) (fun h=>by cases h)
      refine WA.keep [2,3,4] [0,1,112] (env':=ptrs ++ [(4,.val false [.ptr 112 1 0 0])]) (os':=[(0,.box (pvL (Zd p))),(1,.box (pvL [.int .i64 0])),(112,.box (pvL (Zg r)))]) (by kernel_rfl) (by kernel_rfl) ?_
      exact (hbad hF).mono fun e s h=>by cases e <;> first | exact h | exact h.elim
    · have hF:=Zj hF hb
      obtain ⟨y,hy,hF⟩:=bind_some hF
      refine WA.reg [2,3,4,26] [0,1,112] [(7,.bool false),(9,.callR [] (one (.bool y)))] (env':=ptrs ++ [(4,.val false [.ptr 112 1 0 0]),(26,one (.bool (!y)))]) (os':=[(0,.box (pvL (Zd p))),(1,.box (pvL [.int .i64 0])),(112,.box (pvL (Zg r)))]) (O:=[decide (r.f_at<(s.length:Int))=false,Sim Tryz.prog GL0 49 [one (.str s)] [] (one (.bool y)) [],([]:List Nat).Nodup]) (by kernel_rfl) (sound _ _) ⟨hb,Zhy k _ _ hy,by decide,trivial⟩ ?_
      refine WA.cond (b:=!y) rfl (fun hy'=>?_) (fun hy'=>?_)
      · have hF:=Zj hF (by simpa using hy')
        refine WA.keep [2,3,4] [0,1,112] (env':=ptrs ++ [(4,.val false [.ptr 112 1 0 0])]) (os':=[(0,.box (pvL (Zd p))),(1,.box (pvL [.int .i64 0])),(112,.box (pvL (Zg r)))]) (by kernel_rfl) (by kernel_rfl) ?_
        exact (hbad hF).mono fun e s h=>by cases e <;> first | exact h | exact h.elim
      · have hF:=Zk hF (by simpa using hy')
        refine WA.skip ?_
        refine WA.keep [2,3,4] [0,1,112] (env':=ptrs ++ [(4,.val false [.ptr 112 1 0 0])]) (os':=[(0,.box (pvL (Zd p))),(1,.box (pvL [.int .i64 0])),(112,.box (pvL (Zg r)))]) (by kernel_rfl) (by kernel_rfl) ?_
        exact hrest hF
end Go.Proofs.YthilboheomikjaaGreatDoor
end
section
namespace Go.Proofs.YthilboheomikjaaGreatDoor
open Go.AL
set_option maxRecDepth 100000
abbrev os27 (p:Ze) (n:Int):Objs:=[(0,.box (pvL (Zd p))),(1,.box (pvL [.int .i64 n]))]
abbrev ZaW (p:Ze) (n:Int):Objs:=[(102,.box (pvL (Zd p))),(103,.box (pvL [.int .i64 n]))]
def Zch:List (Nat×AT):=[(2,.val false [.ptr 102 1 0 0]),(3,.val false [.ptr 103 1 0 0])]
def G01 (G:Nat→Option Nat):Nat→Option Nat:=fun k=>([102,103][k]?).bind G
theorem ZiJ {w0 w:World} {I0 I:Nat→Prop} {G0 G:Nat→Option Nat} {os0:Objs} {D:List Deferred} {a:Act} {p:Ze} {n:Int} (h1:Ext w0 w I0 I (Mine G0 os0) (Mine G (os27 p n))) (hh:∀k,I0 k→w.heap[k]?=w0.heap[k]?)
    (h3:Sr GL0 w I G (os27 p n)) (h4:Fr D w I G (Go.AL.shape (os27 p n)) 45 a ptrs) :
    ∃v,(results Tryz.f27 a.tmps).run Tryz.prog w = .ok v w∧∃v' I' G',Ending.returned v = .returned v'∧Ext w0 w I0 I' (Mine G0 os0) (Mine G' (ZC []))∧Sr GL0 w I' G' (ZC [])∧
      ATr w I' G' (Go.AL.shape (ZC [])) (.tup [(true,pvL (Zd p)),(false,[.pv (.int .i64 n)])]) v'∧ZJ (· < 0) w0 w I0 I' G0 G' (Go.AL.shape os0) (Go.AL.shape (ZC [])):=by
  obtain ⟨v,hv,hr⟩:=Zky (fn:=Tryz.f27) (st:=⟨ptrs,os27 p n⟩) (x:=.tup [(true,pvL (Zd p)),(false,[.pv (.int .i64 n)])]) h3 h4 (by kernel_rfl)
  obtain ⟨s1,k1⟩:=h3.sub (os':=ZC []) fun k o h=>by rw [ZH] at h;simp at h
  refine ⟨v,hv,v,I,G,rfl,⟨h1.size,h1.os,h1.tape,h1.output,h1.keep,h1.imm,h1.inew,fun k ⟨id,o,q1,q2⟩=>by rw [ZH] at q1;simp at q1⟩,s1,?_,⟨hh,h1.imm,fun id s m h=>absurd h (Nat.not_lt_zero _)⟩⟩
  exact hr.mono (R:=ZhO) (ZcG (fun _ _=>rfl) fun _ h=>h) ⟨⟨trivial,trivial,trivial,trivial,trivial,trivial⟩,⟨trivial,trivial⟩,trivial⟩
theorem to01 {D:List Deferred} {w:World} {I:Nat→Prop} {G:Nat→Option Nat} {a:Act} {p:Ze} {n:Int} (h3:Sr GL0 w I G (ZaW p n)) (h4:Fr D w I G (Go.AL.shape (ZaW p n)) 45 a Zch) :
    Sr GL0 w I (G01 G) (os27 p n)∧Fr D w I (G01 G) (Go.AL.shape (os27 p n)) 45 a ptrs∧∀k,Mine (G01 G) (os27 p n) k↔Mine G (ZaW p n) k:=by
  have hr:=h3.ren (st:=⟨[],ZaW p n⟩) (ids:=[102,103]) (os:=[.box (pvL (Zd p)),.box (pvL [.int .i64 n])]) ⟨_,rfl,rfl⟩ (by decide) rfl
  refine ⟨hr,⟨h4.size,h4.defers,fun t x hx=>?_⟩,fun k=>⟨fun ⟨id,o,q1,q2⟩=>?_,fun ⟨id,o,q1,q2⟩=>?_⟩⟩
  · simp only [ptrs,Zz] at hx
    split at hx
    · rename_i e;subst e;cases hx
      obtain ⟨q1,q2⟩:=h4.slot 2 _ rfl
      obtain ⟨r1,r2⟩:=ZD q2
      exact ⟨q1,_,rfl,r1,fun s m h=>r2 s m h⟩
    · split at hx
      · rename_i e;subst e;cases hx
        obtain ⟨q1,q2⟩:=h4.slot 3 _ rfl
        obtain ⟨r1,r2⟩:=ZD q2
        exact ⟨q1,_,rfl,r1,fun s m h=>r2 s m h⟩
      · cases hx
  · simp only [os27,Zz] at q1
    split at q1
    · rename_i e;subst e;exact ⟨102,_,rfl,q2⟩
    · split at q1
      · rename_i e;subst e;exact ⟨103,_,rfl,q2⟩
      · cases q1
  · simp only [ZaW,Zz] at q1
    split at q1
    · rename_i e;subst e;exact ⟨0,_,rfl,q2⟩
    · split at q1
      · rename_i e;subst e;exact ⟨1,_,rfl,q2⟩
      · cases q1
theorem Zi7 {l:List (Nat×AT)} (hl:l=ptrs∨l=Zch) {s:List UInt8} {t:Nat} {x:AT} (h:Go.AL.look l t=some x):Go.AL.look ((0,one (.str s)) :: l) t=some x:=by
  rw [Zz]
  split
  · rename_i e;subst e;rcases hl with rfl | rfl <;> cases h
  · exact h
theorem Zpj {D:List Deferred} {w:World} {I:Nat→Prop} {G:Nat→Option Nat} {a:Act} {p:Ze} {n:Int} {s:List UInt8} (h3:Sr GL0 w I G (ZaW p n)) (h4:Fr D w I G (Go.AL.shape (ZaW p n)) 45 a ((0,one (.str s)) :: Zch)) :
    Sr GL0 w I (G01 G) (os27 p n)∧Fr D w I (G01 G) (Go.AL.shape (os27 p n)) 45 a ((0,one (.str s)) :: ptrs)∧∀k,Mine (G01 G) (os27 p n) k↔Mine G (ZaW p n) k:=by
  obtain ⟨q1,q2,q3⟩:=to01 h3 ⟨h4.size,h4.defers,fun t x hx=>h4.slot t x (Zi7 (.inr rfl) hx)⟩
  refine ⟨q1,⟨q2.size,q2.defers,fun t x hx=>?_⟩,q3⟩
  rw [Zz] at hx
  split at hx
  · rename_i e;subst e;cases hx
    obtain ⟨r1,r2⟩:=h4.slot 0 _ rfl
    exact ⟨r1,r2.mono (ZcG (fun _ _=>rfl) fun _ h=>h) ⟨trivial,trivial⟩⟩
  · exact q2.slot t x hx
theorem ZnK {D:List Deferred} {w:World} {I:Nat→Prop} {G:Nat→Option Nat} {a:Act} {p:Ze} {n:Int} (h3:Sr GL0 w I G (os27 p n)) (h4:Fr D w I G (Go.AL.shape (os27 p n)) 45 a ptrs) :
    ∃b c,G 0=some b∧G 1=some c∧a.tmps.getD 2 undef = .pointer (some ⟨b,0,none⟩)∧a.tmps.getD 3 undef = .pointer (some ⟨c,0,none⟩):=by
  obtain ⟨_,q2⟩:=h4.slot 2 _ rfl
  obtain ⟨_,q3⟩:=h4.slot 3 _ rfl
  have r2:=((ZD q2).2 _ _ rfl).2 rfl
  have r3:=((ZD q3).2 _ _ rfl).2 rfl
  cases hb:G 0 with
  | none=>have:=h3.none_ 0 _ rfl hb;simp [Obj.els] at this
  | some b=>
    cases hc:G 1 with
    | none=>have:=h3.none_ 1 _ rfl hc;simp [Obj.els] at this
    | some c=>exact ⟨b,c,rfl,rfl,r2 b hb,r3 c hc⟩
def Zo8:Option Code→Code
  | some (.seq a _)=>a
  | _=>.skip
def Zo2:Option Code→Code
  | some (.seq _ (.seq b _))=>b
  | _=>.skip
def Zof:Option Code→Code
  | some (.seq _ (.seq _ (.seq c _)))=>c
  | _=>.skip
def FA (s:List UInt8):Exit→S→Prop
  | .normal,st=>st=⟨(0,one (.str s)) :: Zch,ZaW zRe 0⟩
  | _,_=>False
def FB (k:Nat) (s:List UInt8) (res:Ze×Int):Exit→S→Prop
  | .normal,st=>st=⟨(0,one (.str s)) :: Zch,ZaW zRe 0⟩∧Zjz k s=some res
  | .ret,st=>st=⟨Zch,ZaW res.1 res.2⟩
  | _,_=>False
theorem Zot (s:List UInt8):WA Tryz.prog GL0 45 (Zo8 Tryz.f27.body) ⟨[(0,one (.str s))],[]⟩ (FA s):=by
  show WA Tryz.prog GL0 45 (.region 0 _ _) _ _
  exact WA.reg [0,2,3] [102,103] [(0,.obj 102),(1,.obj 103)] (env':=(0,one (.str s)) :: Zch) (os':=ZaW zRe 0) (O:=[]) (by kernel_rfl) (sound _ _) trivial rfl
theorem Zon (k:Nat) (s:List UInt8) (res:Ze×Int) (hF:F27 k s=some res) :
    WA Tryz.prog GL0 45 (Zo2 Tryz.f27.body) ⟨(0,one (.str s)) :: Zch,ZaW zRe 0⟩ (FB k s res):=by
  show WA Tryz.prog GL0 45 (.seq _ (.cond (.tmp 7) _ _)) _ _
  refine WA.seq ?_
  refine WA.reg [0,2,3,7] [102,103] [] (env':=(0,one (.str s)) :: Zch ++ [(7,one (.bool (decide ((s.length:Int) > 400))))]) (os':=ZaW zRe 0) (O:=[]) (by kernel_rfl) (sound _ _) trivial ?_
  refine WA.cond (b:=decide ((s.length:Int) > 400)) rfl (fun hb=>?_) (fun hb=>?_)
  · have hF:=Zk hF hb
    obtain rfl:=Option.some.inj hF
    refine WA.seq ?_
    refine WA.reg [2,3] [102,103] [] (env':=Zch) (os':=ZaW zRe 8) (O:=[]) (by kernel_rfl) (sound _ _) trivial ?_
    refine WA.ret ?_
    rfl
  · have hF:=Zj hF hb
    refine WA.keep [0,2,3] [102,103] (env':=(0,one (.str s)) :: Zch) (os':=ZaW zRe 0) (by kernel_rfl) (by kernel_rfl) ?_
    refine WA.skip ?_
    exact ⟨rfl,hF⟩
def defd (x y:Value):Deferred:=⟨.fn (.func 47) #[x,y],#[]⟩
theorem Znb {a:Act} {w:World} {Q:Exit→Act→World→Prop} (ha:a.defers=[]) (h:Q .normal { tmps:=(a.tmps.setIfInBounds 9 (.func (.func 47) #[] #[a.tmps.getD 2 undef,a.tmps.getD 3 undef])),defers:=[defd (a.tmps.getD 2 undef) (a.tmps.getD 3 undef)] } w) (hs:a.tmps.size=45) :
    (Zof Tryz.f27.body).wp Tryz.prog Q a w:=by
  show (Code.region 3 _ _).wp _ _ _ _
  refine wp_region_list ?_
  obtain ⟨tm,df⟩:=a
  simp only at ha hs h;subst ha
  simp only [wpList,Region.wanted]
  refine .inl ?_
  simp only [Oper.wp,execOp]
  have e1:Sem.run Tryz.prog (do
        let x ←Instr.makeFunc (Fn.func 47) (Array.map (Act.eval { tmps:=tm,defers:=[] }) #[]) (Array.map (Act.eval { tmps:=tm,defers:=[] }) #[Operand.tmp 2,Operand.tmp 3])
        pure (Next.value x)) w = .ok (.value (.func (.func 47) #[] #[tm.getD 2 undef,tm.getD 3 undef])) w:=by simp [Instr.makeFunc,Act.eval]
  rw [e1,Oper.upon_value,if_pos trivial]
  refine .inl ?_
  have h9:(tm.setIfInBounds 9 (Value.func (Fn.func 47) #[] #[tm.getD 2 undef,tm.getD 3 undef])).getD 9 undef=Value.func (Fn.func 47) #[] #[tm.getD 2 undef,tm.getD 3 undef]:=by
    rw [Array.getD_eq_getD_getElem?,Array.getElem?_setIfInBounds];simp [hs]
  have e2:Sem.run Tryz.prog (do
        let x ←resolve (Act.eval { tmps:=tm.setIfInBounds 9 (Value.func (Fn.func 47) #[] #[tm.getD 2 undef,tm.getD 3 undef]),defers:=[] }) { callee:=Callee.value (Operand.tmp 9),args:=#[],argTypes:=#[] } 0
        pure (Next.defer x)) w = .ok (.defer (defd (tm.getD 2 undef) (tm.getD 3 undef))) w:=by
    simp only [resolve,Act.eval,h9,Deferred.ofValue]
    simp [defd]
  simp only [Act.put]
  rw [e2,Oper.upon_defer]
  exact h
theorem Zho (k:Nat) (s:List UInt8) (res:Ze×Int) (hF:F27 k s=some res) :
    Sim Tryz.prog GL0 27 [one (.str s)] [] (.tup [(true,pvL (Zd res.1)),(false,[.pv (.int .i64 res.2)])]) []:=by
  intro w I G vs hs ha
  obtain ⟨v,_,rfl,hv,rfl⟩:=ha
  refine calls_of_wp_defers Tryz.func27 rfl ?_
  refine wp_seq (wp_mono (Zot s [] w I G (ZC []) w I G _ (.refl _ _ _) (.refl _ _ _ _ _) hs ?_) ?_)
  · refine ⟨by simp [Tryz.ntmps27],rfl,fun t x hx=>?_⟩
    simp only [Zz] at hx
    split at hx
    · rename_i e;subst e;cases hx
      refine ⟨by omega,?_⟩
      rw [Array.getD_eq_getD_getElem?,Array.getElem?_append_left (by simp)]
      exact hv
    · cases hx
  rintro e a1 w1 ⟨I1,G1,s1,e1,k1,r1,f1,q1⟩
  cases e with
  | normal=>
    cases q1
    refine wp_seq (wp_mono (Zon k s res hF [] w I G (ZC []) w1 I1 G1 a1 e1 k1 r1 f1) ?_)
    rintro e a2 w2 ⟨I2,G2,s2,e2,k2,r2,f2,q2⟩
    cases e with
    | normal=>
      obtain ⟨rfl,hF2⟩:=q2
      obtain ⟨r3,f3,m3⟩:=Zpj r2 f2
      obtain ⟨b,c,gb,gc,vb,vc⟩:=ZnK r3 ⟨f3.size,f3.defers,fun t x hx=>f3.slot t x (Zi7 (.inl rfl) hx)⟩
      refine wp_seq (Znb f2.defers ?_ f2.size)
      rw [vb,vc]
      refine wp_mono (Zou k s res hF2 _ rfl [defd (.pointer (some ⟨b,0,none⟩)) (.pointer (some ⟨c,0,none⟩))] w2 I2 (G01 G2) (os27 zRe 0) w2 I2 (G01 G2) _ (.refl _ _ _) (.refl _ _ _ _ _) r3 ⟨by simp [f3.size],rfl,fun t x hx=>?_⟩) ?_
      · obtain ⟨x1,x2⟩:=f3.slot t x hx
        have ht:t≠9:=fun e=>by subst e;cases hx
        refine ⟨x1,?_⟩
        rw [Array.getD_eq_getD_getElem?] at x2 ⊢
        rw [Array.getElem?_setIfInBounds,if_neg (fun e=>ht e.symm)];exact x2
      have gl:∀{w4 I4 G4} {p:Ze} {n:Int},Ext w2 w4 I2 I4 (Mine (G01 G2) (os27 zRe 0)) (Mine G4 (os27 p n))→
          Ext w w4 I I4 (Mine G (ZC [])) (Mine G4 (os27 p n)):=fun e4=>
        ⟨Nat.le_trans e2.size e4.size,e4.os.trans e2.os,e4.tape.trans e2.tape,e4.output.trans e2.output,fun k h h'=>by
            rw [e4.keep k (Nat.lt_of_lt_of_le h e2.size) (fun h2=>((e2.mnew k ((m3 k).1 h2)).elim h' (fun h3=>by omega))),e2.keep k h h'],
          fun k h=>e4.imm k (e2.imm k h),fun k h=>by
            rcases e4.inew k h with h | h | h
            · exact e2.inew k h
            · exact (e2.mnew k ((m3 k).1 h)).elim (fun h=>.inr (.inl h)) (fun h=>.inr (.inr h))
            · exact .inr (.inr (Nat.le_trans e2.size h)),
          fun k h=>(e4.mnew k h).elim (fun h=>(e2.mnew k ((m3 k).1 h)).elim .inl .inr) (fun h=>.inr (Nat.le_trans e2.size h))⟩
      rintro e a4 w4 ⟨I4,G4,⟨env4,os4⟩,e4,k4,r4,f4,q4⟩
      have sub:∀{p:Ze} {n:Int},Zl env4 [2,3]=ptrs→Zl os4 [0,1]=os27 p n→Sr GL0 w4 I4 G4 (os27 p n)∧Fr [defd (.pointer (some ⟨b,0,none⟩)) (.pointer (some ⟨c,0,none⟩))] w4 I4 G4 (Go.AL.shape (os27 p n)) 45 a4 ptrs∧
          Ext w2 w4 I2 I4 (Mine (G01 G2) (os27 zRe 0)) (Mine G4 (os27 p n))∧G4 0=some b∧G4 1=some c:=fun {p n} he ho=>by
        have hl:∀k o,Go.AL.look (os27 p n) k=some o→Go.AL.look os4 k=some o:=fun k o h=>by rw [←ho] at h;exact ZU h
        obtain ⟨r5,k5⟩:=r4.sub (os':=os27 p n) hl
        refine ⟨r5,⟨f4.size,f4.defers,fun t x hx=>?_⟩,⟨e4.size,e4.os,e4.tape,e4.output,e4.keep,e4.imm,e4.inew,fun k ⟨id,o,q1,q2⟩=>e4.mnew k ⟨id,o,hl id o q1,q2⟩⟩,?_,?_⟩
        · rw [←he] at hx
          obtain ⟨x1,x2⟩:=f4.slot t x (ZU hx)
          exact ⟨x1,x2.mono k5 (AT.refs_any x)⟩
        · obtain ⟨m0,j1,j2,j3⟩:=(k4.trans (k5.weaken fun _ _=>trivial)).objs 0 _ _ (by omega) rfl
          cases j1
          rw [(j3 rfl).1];exact gb
        · obtain ⟨m0,j1,j2,j3⟩:=(k4.trans (k5.weaken fun _ _=>trivial)).objs 1 _ _ (by omega) rfl
          cases j1
          rw [(j3 rfl).1];exact gc
      have inv:∀w,(Go.invoke (defd (.pointer (some ⟨b,0,none⟩)) (.pointer (some ⟨c,0,none⟩))).target #[]).run Tryz.prog w = .ok (.enter 47 #[.pointer (some ⟨b,0,none⟩),.pointer (some ⟨c,0,none⟩)]) w:=fun w=>by kernel_rfl
      have hh:∀k,I k→w4.heap[k]?=w.heap[k]?:=fun k hk=>by rw [k4.heap k (k2.imm k hk),k2.heap k hk]
      cases e with
      | ret=>
        obtain ⟨he,ho⟩:=q4
        obtain ⟨r5,f5,e5,g0,g1⟩:=sub he ho
        show Leaves _ _ _ _ a4.defers _ _
        rw [f5.defers]
        refine ⟨by simp,_,_,47,_,rfl,inv w4,fun c0 cs hm=>?_⟩
        obtain ⟨e',u',w',fr,⟨rfl,rfl,rfl⟩,hc⟩:=ZlF ⟨b,0,none⟩ ⟨c,0,none⟩ w4 c0 cs hm
        refine ⟨_,_,_,_,?_,hc⟩
        obtain ⟨p1,p2,p3⟩:=r5.imm (.cells #[] 70)
        exact ZiJ (gl (e5.trans p3)) (fun k hk=>by rw [p2.heap k (e4.imm k (e2.imm k hk)),hh k hk]) p1 ⟨f5.size,f5.defers,fun t x hx=>⟨(f5.slot t x hx).1,(f5.slot t x hx).2.mono p2 (AT.refs_any x)⟩⟩
      | panic ch=>
        obtain ⟨rfl,rfl,he,p,n,ho⟩:=q4
        obtain ⟨r5,f5,e5,g0,g1⟩:=sub he ho
        show Leaves _ _ _ _ a4.defers _ _
        rw [f5.defers]
        refine ⟨by simp,_,_,47,_,rfl,inv w4,fun c0 cs hm=>?_⟩
        obtain ⟨p1,p2,p3⟩:=r5.imm (.cells #[] 70)
        have f6:Fr _ _ _ G4 (Go.AL.shape (os27 p n)) 45 a4 ptrs:=⟨f5.size,f5.defers,fun t x hx=>⟨(f5.slot t x hx).1,(f5.slot t x hx).2.mono p2 (AT.refs_any x)⟩⟩
        obtain ⟨b',c',gb',gc',vb',vc'⟩:=ZnK p1 f6
        rw [g0] at gb';cases gb'
        rw [g1] at gc';cases gc'
        have hx0:=(f6.slot 2 _ rfl).2
        have hx1:=(f6.slot 3 _ rfl).2
        rw [vb'] at hx0;rw [vc'] at hx1
        obtain ⟨_,w6,G6,st6,x6,s6,mv6⟩:=Zhe (P:=Tryz.prog) (st:=⟨[],os27 p n⟩) (t:=35) (x:=.val false [.ptr 0 1 0 0]) (y:=.val true (pvL (Zd zRe))) (h:=none) (z:=.tup []) (os':=os27 zRe n) (O:=[]) (by kernel_rfl) trivial p1 hx0
          (v:=.agg #[.int .i64 0,.slice none 0 0,.slice none 0 0,.int .i64 0,.int .i64 0]) ⟨_,rfl,_,_,rfl,PVr.int _ _,_,_,rfl,PVr.sl0 _ _,_,_,rfl,PVr.sl0 _ _,_,_,rfl,PVr.int _ _,_,_,rfl,PVr.int _ _,rfl⟩
        have hx1':=hx1.mono mv6.keeps ⟨show (1:Nat)<100 by omega,trivial⟩
        obtain ⟨_,w7,G7,st7,x7,s7,mv7⟩:=Zhe (P:=Tryz.prog) (st:=⟨[],os27 zRe n⟩) (t:=3) (x:=.val false [.ptr 1 1 0 0]) (y:=one (.int .i64 3)) (h:=none) (z:=.tup []) (os':=os27 zRe 3) (O:=[]) (by kernel_rfl) trivial s6 hx1'
          (v:=.int .i64 3) ⟨_,rfl,PVr.int _ _⟩
        obtain ⟨e',u',w',fr,⟨rfl,rfl,rfl⟩,hc⟩:=Zmk ⟨b,0,none⟩ ⟨c,0,none⟩ w4 w6 w7 st6 st7 c0 cs hm
        refine ⟨_,_,_,_,?_,hc⟩
        have k7:=mv6.keeps.trans mv7.keeps
        refine ZiJ (p:=zRe) (n:=3) (gl (e5.trans (p3.trans (x6.trans x7)))) (fun k hk=>?_) s7 ⟨f6.size,f6.defers,fun t x hx=>⟨(f6.slot t x hx).1,?_⟩⟩
        · have h4:=e4.imm k (e2.imm k hk)
          rw [k7.heap k (p2.imm k h4),p2.heap k h4,hh k hk]
        · refine (f6.slot t x hx).2.mono k7 ?_
          simp only [ptrs,Zz] at hx
          split at hx
          · cases hx;exact ⟨show (0:Nat)<100 by omega,trivial⟩
          · split at hx
            · cases hx;exact ⟨show (1:Nat)<100 by omega,trivial⟩
            · cases hx
      | _=>exact q4.elim
    | ret=>
      cases q2
      obtain ⟨r3,f3,m3⟩:=to01 r2 f2
      show Leaves _ _ _ _ a2.defers _ _
      rw [f2.defers]
      refine ZiJ ⟨e2.size,e2.os,e2.tape,e2.output,e2.keep,e2.imm,e2.inew,fun k h=>e2.mnew k ((m3 k).1 h)⟩ k2.heap r3 f3
    | _=>exact q2.elim
  | _=>exact q1.elim
end Go.Proofs.YthilboheomikjaaGreatDoor
end
section
namespace Go.Proofs.YthilboheomikjaaGreatDoor
open Go.AL
set_option maxRecDepth 100000
def Zba (v122:Bool):Option Bool:=
  some v122
def F26 (k:Nat):Option Bool:=
  (F27 k ([97,123,50,125]:List UInt8)).bind fun y101=>(F27 k ([97,42,42]:List UInt8)).bind fun y102=>(F27 k ([97,123,50,49,125]:List UInt8)).bind fun y103=>(cond (y101.2 == 0) (cond (y101.1.f_Kind == 4) (cond (y101.1.f_Min == 2) (cond (y101.1.f_Max == 2) (cond (y102.2 == 3) (cond (y103.2 == 8) ((F31 k y101.1 ([97,97]:List UInt8)).bind fun y110=>cond y110 ((F31 k y101.1 ([97]:List UInt8)).bind fun y112=>cond (!y112) ((F34 k).bind fun y114=>(F31 k y114 ([120,195,169]:List UInt8)).bind fun y115=>cond y115 ((F33 k ([97,46,98]:List UInt8)).bind fun y117=>(F31 k y117 ([97,46,98]:List UInt8)).bind fun y118=>cond y118 ((F33 k ([97,46,98]:List UInt8)).bind fun y120=>(F31 k y120 ([97,120,98]:List UInt8)).bind fun y121=>(Zba (!y121))) ((Zba false))) ((Zba false))) ((Zba false))) ((Zba false))) ((Zba false))) ((Zba false))) ((Zba false))) ((Zba false))) ((Zba false))) ((Zba false)))
theorem Zhn (k:Nat) (r:Bool) (hF:F26 k=some r):Sim Tryz.prog GL0 26 [] [] (one (.bool r)) []:=by
 refine ZB [] Tryz.func26 rfl kr kr ?_
 show WA _ _ 66 _ _ _
 refine WA.seq ?_
 refine WA.reg [] [] [] (env':=[]) (os':=[]) (O:=[]) kr (sound _ _) trivial ?_
 refine WA.seq ?_
 obtain ⟨y101,hy101,hF⟩:=bind_some hF
 refine WA.reg [1,2] [101] [(0,.callR [] (.tup [(true,pvL (Zd y101.1)),(false,[.pv (.int .i64 y101.2)])])),(4,.obj 101)] (env':=[(1,.val false [.ptr 101 1 0 0]),(2,one (.int .i64 y101.2))]) (os':=[(101,.box (pvL (Zd y101.1)))]) (O:=[Sim Tryz.prog GL0 27 [one (.str ([97,123,50,125]:List UInt8))] [] (.tup [(true,pvL (Zd y101.1)),(false,[.pv (.int .i64 y101.2)])]) [],([]:List Nat).Nodup]) kr (sound _ _) ⟨(Zho k _ _ hy101),(by decide),trivial⟩ ?_
 refine WA.seq ?_
 obtain ⟨y102,hy102,hF⟩:=bind_some hF
 refine WA.reg [1,2,4] [101] [(0,.callR [] (.tup [(true,pvL (Zd y102.1)),(false,[.pv (.int .i64 y102.2)])])),(4,.obj 103)] (env':=[(1,.val false [.ptr 101 1 0 0]),(2,one (.int .i64 y101.2)),(4,one (.int .i64 y102.2))]) (os':=[(101,.box (pvL (Zd y101.1)))]) (O:=[Sim Tryz.prog GL0 27 [one (.str ([97,42,42]:List UInt8))] [] (.tup [(true,pvL (Zd y102.1)),(false,[.pv (.int .i64 y102.2)])]) [],([]:List Nat).Nodup]) kr (sound _ _) ⟨(Zho k _ _ hy102),(by decide),trivial⟩ ?_
 refine WA.seq ?_
 obtain ⟨y103,hy103,hF⟩:=bind_some hF
 refine WA.reg [1,2,4,6] [101] [(0,.callR [] (.tup [(true,pvL (Zd y103.1)),(false,[.pv (.int .i64 y103.2)])])),(4,.obj 105)] (env':=[(1,.val false [.ptr 101 1 0 0]),(2,one (.int .i64 y101.2)),(4,one (.int .i64 y102.2)),(6,one (.int .i64 y103.2))]) (os':=[(101,.box (pvL (Zd y101.1)))]) (O:=[Sim Tryz.prog GL0 27 [one (.str ([97,123,50,49,125]:List UInt8))] [] (.tup [(true,pvL (Zd y103.1)),(false,[.pv (.int .i64 y103.2)])]) [],([]:List Nat).Nodup]) kr (sound _ _) ⟨(Zho k _ _ hy103),(by decide),trivial⟩ ?_
 refine WA.join (fun s_=>∃(v122:Bool),Zl s_.env [0]=[(0,one (.bool v122))]∧Zl s_.os []=[]∧Zba v122=some r) ?_ ?_
 {
 rintro s_ ⟨v122,he,ho,hF⟩
 refine WA.keep _ _ he ho ?_
 clear he ho
 refine WA.ret ?_
 obtain rfl:=Option.some.inj hF
 exact Zp (one (.bool v122)) [] kr kr kr kr (by decide) rfl rfl }
 {
 rcases Bool.eq_false_or_eq_true (y101.2 == 0) with hb104 | hb104
 {
 have hF:=Zk hF hb104
 rcases Bool.eq_false_or_eq_true (y101.1.f_Kind == 4) with hb105 | hb105
 {
 have hF:=Zk hF hb105
 rcases Bool.eq_false_or_eq_true (y101.1.f_Min == 2) with hb106 | hb106
 {
 have hF:=Zk hF hb106
 rcases Bool.eq_false_or_eq_true (y101.1.f_Max == 2) with hb107 | hb107
 {
 have hF:=Zk hF hb107
 rcases Bool.eq_false_or_eq_true (y102.2 == 3) with hb108 | hb108
 {
 have hF:=Zk hF hb108
 rcases Bool.eq_false_or_eq_true (y103.2 == 8) with hb109 | hb109
 {
 have hF:=Zk hF hb109
 obtain ⟨y110,hy110,hF⟩:=bind_some hF
 rcases Bool.eq_false_or_eq_true y110 with hb111 | hb111
 {
 have hF:=Zk hF hb111
 obtain ⟨y112,hy112,hF⟩:=bind_some hF
 rcases Bool.eq_false_or_eq_true (!y112) with hb113 | hb113
 {
 have hF:=Zk hF hb113
 obtain ⟨y114,hy114,hF⟩:=bind_some hF
 obtain ⟨y115,hy115,hF⟩:=bind_some hF
 rcases Bool.eq_false_or_eq_true y115 with hb116 | hb116
 {
 have hF:=Zk hF hb116
 obtain ⟨y117,hy117,hF⟩:=bind_some hF
 obtain ⟨y118,hy118,hF⟩:=bind_some hF
 rcases Bool.eq_false_or_eq_true y118 with hb119 | hb119
 {
 have hF:=Zk hF hb119
 obtain ⟨y120,hy120,hF⟩:=bind_some hF
 obtain ⟨y121,hy121,hF⟩:=bind_some hF
 refine WA.reg [0] [] [(2,.bool true),(7,.bool true),(12,.bool true),(17,.bool true),(21,.bool true),(25,.bool true),(27,.callR [] (one (.bool y110))),(29,.bool true),(31,.callR [] (one (.bool y112))),(34,.bool true),(35,.callR [] (.val true (pvL (Zd y114)))),(36,.callR [] (one (.bool y115))),(38,.bool true),(39,.callR [] (.val true (pvL (Zd y117)))),(40,.callR [] (one (.bool y118))),(42,.bool true),(43,.callR [] (.val true (pvL (Zd y120)))),(44,.callR [] (one (.bool y121)))] (env':=[(0,one (.bool (!y121)))]) (os':=[]) (O:=[(y101.2 == 0)=true,(y101.1.f_Kind == 4)=true,(y101.1.f_Min == 2)=true,(y101.1.f_Max == 2)=true,(y102.2 == 3)=true,(y103.2 == 8)=true,Sim Tryz.prog GL0 31 [.val true (pvL (Zd y101.1)),one (.str ([97,97]:List UInt8))] [] (one (.bool y110)) [],([]:List Nat).Nodup,y110=true,Sim Tryz.prog GL0 31 [.val true (pvL (Zd y101.1)),one (.str ([97]:List UInt8))] [] (one (.bool y112)) [],([]:List Nat).Nodup,(!y112)=true,Sim Tryz.prog GL0 34 [] [] (.val true (pvL (Zd y114))) [],([]:List Nat).Nodup,Sim Tryz.prog GL0 31 [.val true (pvL (Zd y114)),one (.str ([120,195,169]:List UInt8))] [] (one (.bool y115)) [],([]:List Nat).Nodup,y115=true,Sim Tryz.prog GL0 33 [one (.str ([97,46,98]:List UInt8))] [] (.val true (pvL (Zd y117))) [],([]:List Nat).Nodup,Sim Tryz.prog GL0 31 [.val true (pvL (Zd y117)),one (.str ([97,46,98]:List UInt8))] [] (one (.bool y118)) [],([]:List Nat).Nodup,y118=true,Sim Tryz.prog GL0 33 [one (.str ([97,46,98]:List UInt8))] [] (.val true (pvL (Zd y120))) [],([]:List Nat).Nodup,Sim Tryz.prog GL0 31 [.val true (pvL (Zd y120)),one (.str ([97,120,98]:List UInt8))] [] (one (.bool y121)) [],([]:List Nat).Nodup]) kr (sound _ _) ⟨hb104,hb105,hb106,hb107,hb108,hb109,(ZaC k _ _ _ hy110),(by decide),hb111,(ZaC k _ _ _ hy112),(by decide),hb113,(ZjM k _ hy114),(by decide),(ZaC k _ _ _ hy115),(by decide),hb116,(ZjL k _ _ hy117),(by decide),(ZaC k _ _ _ hy118),(by decide),hb119,(ZjL k _ _ hy120),(by decide),(ZaC k _ _ _ hy121),(by decide),trivial⟩ ?_
 exact ⟨(!y121),kr,kr,hF⟩ }
 {
 have hF:=Zj hF hb119
 refine WA.reg [0] [] [(2,.bool true),(7,.bool true),(12,.bool true),(17,.bool true),(21,.bool true),(25,.bool true),(27,.callR [] (one (.bool y110))),(29,.bool true),(31,.callR [] (one (.bool y112))),(34,.bool true),(35,.callR [] (.val true (pvL (Zd y114)))),(36,.callR [] (one (.bool y115))),(38,.bool true),(39,.callR [] (.val true (pvL (Zd y117)))),(40,.callR [] (one (.bool y118))),(42,.bool false)] (env':=[(0,one (.bool false))]) (os':=[]) (O:=[(y101.2 == 0)=true,(y101.1.f_Kind == 4)=true,(y101.1.f_Min == 2)=true,(y101.1.f_Max == 2)=true,(y102.2 == 3)=true,(y103.2 == 8)=true,Sim Tryz.prog GL0 31 [.val true (pvL (Zd y101.1)),one (.str ([97,97]:List UInt8))] [] (one (.bool y110)) [],([]:List Nat).Nodup,y110=true,Sim Tryz.prog GL0 31 [.val true (pvL (Zd y101.1)),one (.str ([97]:List UInt8))] [] (one (.bool y112)) [],([]:List Nat).Nodup,(!y112)=true,Sim Tryz.prog GL0 34 [] [] (.val true (pvL (Zd y114))) [],([]:List Nat).Nodup,Sim Tryz.prog GL0 31 [.val true (pvL (Zd y114)),one (.str ([120,195,169]:List UInt8))] [] (one (.bool y115)) [],([]:List Nat).Nodup,y115=true,Sim Tryz.prog GL0 33 [one (.str ([97,46,98]:List UInt8))] [] (.val true (pvL (Zd y117))) [],([]:List Nat).Nodup,Sim Tryz.prog GL0 31 [.val true (pvL (Zd y117)),one (.str ([97,46,98]:List UInt8))] [] (one (.bool y118)) [],([]:List Nat).Nodup,y118=false]) kr (sound _ _) ⟨hb104,hb105,hb106,hb107,hb108,hb109,(ZaC k _ _ _ hy110),(by decide),hb111,(ZaC k _ _ _ hy112),(by decide),hb113,(ZjM k _ hy114),(by decide),(ZaC k _ _ _ hy115),(by decide),hb116,(ZjL k _ _ hy117),(by decide),(ZaC k _ _ _ hy118),(by decide),hb119,trivial⟩ ?_
 exact ⟨false,kr,kr,hF⟩ } }
 {
 have hF:=Zj hF hb116
 refine WA.reg [0] [] [(2,.bool true),(7,.bool true),(12,.bool true),(17,.bool true),(21,.bool true),(25,.bool true),(27,.callR [] (one (.bool y110))),(29,.bool true),(31,.callR [] (one (.bool y112))),(34,.bool true),(35,.callR [] (.val true (pvL (Zd y114)))),(36,.callR [] (one (.bool y115))),(38,.bool false)] (env':=[(0,one (.bool false))]) (os':=[]) (O:=[(y101.2 == 0)=true,(y101.1.f_Kind == 4)=true,(y101.1.f_Min == 2)=true,(y101.1.f_Max == 2)=true,(y102.2 == 3)=true,(y103.2 == 8)=true,Sim Tryz.prog GL0 31 [.val true (pvL (Zd y101.1)),one (.str ([97,97]:List UInt8))] [] (one (.bool y110)) [],([]:List Nat).Nodup,y110=true,Sim Tryz.prog GL0 31 [.val true (pvL (Zd y101.1)),one (.str ([97]:List UInt8))] [] (one (.bool y112)) [],([]:List Nat).Nodup,(!y112)=true,Sim Tryz.prog GL0 34 [] [] (.val true (pvL (Zd y114))) [],([]:List Nat).Nodup,Sim Tryz.prog GL0 31 [.val true (pvL (Zd y114)),one (.str ([120,195,169]:List UInt8))] [] (one (.bool y115)) [],([]:List Nat).Nodup,y115=false]) kr (sound _ _) ⟨hb104,hb105,hb106,hb107,hb108,hb109,(ZaC k _ _ _ hy110),(by decide),hb111,(ZaC k _ _ _ hy112),(by decide),hb113,(ZjM k _ hy114),(by decide),(ZaC k _ _ _ hy115),(by decide),hb116,trivial⟩ ?_
 exact ⟨false,kr,kr,hF⟩ } }
 {
 have hF:=Zj hF hb113
 refine WA.reg [0] [] [(2,.bool true),(7,.bool true),(12,.bool true),(17,.bool true),(21,.bool true),(25,.bool true),(27,.callR [] (one (.bool y110))),(29,.bool true),(31,.callR [] (one (.bool y112))),(34,.bool false)] (env':=[(0,one (.bool false))]) (os':=[]) (O:=[(y101.2 == 0)=true,(y101.1.f_Kind == 4)=true,(y101.1.f_Min == 2)=true,(y101.1.f_Max == 2)=true,(y102.2 == 3)=true,(y103.2 == 8)=true,Sim Tryz.prog GL0 31 [.val true (pvL (Zd y101.1)),one (.str ([97,97]:List UInt8))] [] (one (.bool y110)) [],([]:List Nat).Nodup,y110=true,Sim Tryz.prog GL0 31 [.val true (pvL (Zd y101.1)),one (.str ([97]:List UInt8))] [] (one (.bool y112)) [],([]:List Nat).Nodup,(!y112)=false]) kr (sound _ _) ⟨hb104,hb105,hb106,hb107,hb108,hb109,(ZaC k _ _ _ hy110),(by decide),hb111,(ZaC k _ _ _ hy112),(by decide),hb113,trivial⟩ ?_
 exact ⟨false,kr,kr,hF⟩ } }
 {
 have hF:=Zj hF hb111
 refine WA.reg [0] [] [(2,.bool true),(7,.bool true),(12,.bool true),(17,.bool true),(21,.bool true),(25,.bool true),(27,.callR [] (one (.bool y110))),(29,.bool false)] (env':=[(0,one (.bool false))]) (os':=[]) (O:=[(y101.2 == 0)=true,(y101.1.f_Kind == 4)=true,(y101.1.f_Min == 2)=true,(y101.1.f_Max == 2)=true,(y102.2 == 3)=true,(y103.2 == 8)=true,Sim Tryz.prog GL0 31 [.val true (pvL (Zd y101.1)),one (.str ([97,97]:List UInt8))] [] (one (.bool y110)) [],([]:List Nat).Nodup,y110=false]) kr (sound _ _) ⟨hb104,hb105,hb106,hb107,hb108,hb109,(ZaC k _ _ _ hy110),(by decide),hb111,trivial⟩ ?_
 exact ⟨false,kr,kr,hF⟩ } }
 {
 have hF:=Zj hF hb109
 refine WA.reg [0] [] [(2,.bool true),(7,.bool true),(12,.bool true),(17,.bool true),(21,.bool true),(25,.bool false)] (env':=[(0,one (.bool false))]) (os':=[]) (O:=[(y101.2 == 0)=true,(y101.1.f_Kind == 4)=true,(y101.1.f_Min == 2)=true,(y101.1.f_Max == 2)=true,(y102.2 == 3)=true,(y103.2 == 8)=false]) kr (sound _ _) ⟨hb104,hb105,hb106,hb107,hb108,hb109,trivial⟩ ?_
 exact ⟨false,kr,kr,hF⟩ } }
 {
 have hF:=Zj hF hb108
 refine WA.reg [0] [] [(2,.bool true),(7,.bool true),(12,.bool true),(17,.bool true),(21,.bool false)] (env':=[(0,one (.bool false))]) (os':=[]) (O:=[(y101.2 == 0)=true,(y101.1.f_Kind == 4)=true,(y101.1.f_Min == 2)=true,(y101.1.f_Max == 2)=true,(y102.2 == 3)=false]) kr (sound _ _) ⟨hb104,hb105,hb106,hb107,hb108,trivial⟩ ?_
 exact ⟨false,kr,kr,hF⟩ } }
 {
 have hF:=Zj hF hb107
 refine WA.reg [0] [] [(2,.bool true),(7,.bool true),(12,.bool true),(17,.bool false)] (env':=[(0,one (.bool false))]) (os':=[]) (O:=[(y101.2 == 0)=true,(y101.1.f_Kind == 4)=true,(y101.1.f_Min == 2)=true,(y101.1.f_Max == 2)=false]) kr (sound _ _) ⟨hb104,hb105,hb106,hb107,trivial⟩ ?_
 exact ⟨false,kr,kr,hF⟩ } }
 {
 have hF:=Zj hF hb106
 refine WA.reg [0] [] [(2,.bool true),(7,.bool true),(12,.bool false)] (env':=[(0,one (.bool false))]) (os':=[]) (O:=[(y101.2 == 0)=true,(y101.1.f_Kind == 4)=true,(y101.1.f_Min == 2)=false]) kr (sound _ _) ⟨hb104,hb105,hb106,trivial⟩ ?_
 exact ⟨false,kr,kr,hF⟩ } }
 {
 have hF:=Zj hF hb105
 refine WA.reg [0] [] [(2,.bool true),(7,.bool false)] (env':=[(0,one (.bool false))]) (os':=[]) (O:=[(y101.2 == 0)=true,(y101.1.f_Kind == 4)=false]) kr (sound _ _) ⟨hb104,hb105,trivial⟩ ?_
 exact ⟨false,kr,kr,hF⟩ } }
 {
 have hF:=Zj hF hb104
 refine WA.reg [0] [] [(2,.bool false)] (env':=[(0,one (.bool false))]) (os':=[]) (O:=[(y101.2 == 0)=false]) kr (sound _ _) ⟨hb104,trivial⟩ ?_
 exact ⟨false,kr,kr,hF⟩ } }
end Go.Proofs.YthilboheomikjaaGreatDoor
end
section
namespace Go.Proofs.YthilboheomikjaaGreatDoor
open Go.AL Go.Lib
set_option maxRecDepth 100000
end Go.Proofs.YthilboheomikjaaGreatDoor
namespace Go.Proofs.YthilboheomikjaaGreatDoor.Pure
open Go.AL
end Go.Proofs.YthilboheomikjaaGreatDoor.Pure
end
section
namespace Go.Proofs.YthilboheomikjaaGreatDoor
open Go.AL Go.Lib
set_option maxRecDepth 100000
def span (cs:List Int) (i j:Nat):List Int:=(cs.drop i).take (j-i)
theorem ZkK {cs:List Int} {i j:Nat} (h:i≤j) (hj:j≤cs.length):(span cs i j).length=j-i:=by
  unfold span;rw [List.length_take,List.length_drop];omega
theorem Ziq {cs:List Int} {i j:Nat} {u v:List Int} (h:i≤j) (hj:j≤cs.length):span cs i j=u ++ v↔∃m,i≤m∧m≤j∧u=span cs i m∧v=span cs m j:=by
  constructor
  · intro e
    have hl:=ZkK h hj
    rw [e,List.length_append] at hl
    refine ⟨i+u.length,by omega,by omega,?_,?_⟩
    · have h2:(span cs i j).take u.length=span cs i (i+u.length):=by
        unfold span
        rw [List.take_take]
        congr 1
        omega
      rw [←h2,e]
      simp
    · have:(span cs i j).drop u.length=v:=by rw [e];simp
      rw [←this]
      unfold span
      rw [List.drop_take,List.drop_drop]
      congr 1
      omega
  · rintro ⟨m,h1,h2,rfl,rfl⟩
    unfold span
    have e1:cs.drop m=(cs.drop i).drop (m-i):=by rw [List.drop_drop];congr 1;omega
    rw [e1,←List.take_append_drop (m-i) ((cs.drop i).take (j-i)),List.take_take,List.drop_take]
    congr 2
    · omega
    · omega
def Rl (P:List Int→Prop) (cs:List Int) (i j:Nat):Prop:=i≤j∧j≤cs.length∧P (span cs i j)
theorem Zmh {P Q:List Int→Prop} {cs:List Int} {i j:Nat}:Rl (Cat P Q) cs i j↔∃m,Rl P cs i m∧Rl Q cs m j:=by
  constructor
  · rintro ⟨h1,h2,u,v,e,hu,hv⟩
    obtain ⟨m,m1,m2,rfl,rfl⟩:=(Ziq h1 h2).1 e
    exact ⟨m,⟨m1,by omega,hu⟩,m2,h2,hv⟩
  · rintro ⟨m,⟨h1,h2,h3⟩,h4,h5,h6⟩
    exact ⟨by omega,h5,_,_,(Ziq (by omega) h5).2 ⟨m,h1,h4,rfl,rfl⟩,h3,h6⟩
theorem Zmi {cs:List Int} {i j:Nat}:Rl (fun w=>w=[]) cs i j↔i=j∧j≤cs.length:=by
  constructor
  · rintro ⟨h1,h2,h3⟩
    have:=ZkK h1 h2
    rw [h3] at this
    simp at this
    omega
  · rintro ⟨rfl,h⟩
    exact ⟨Nat.le_refl _,h,by simp [span]⟩
theorem ZjX {P Q:List Int→Prop} (h:∀w,P w↔Q w) {cs:List Int} {i j:Nat}:Rl P cs i j↔Rl Q cs i j:=by unfold Rl;rw [h]
def Ends (P:List Int→Prop) (cs:List Int) (f o:List Bool):Prop:=o.length=cs.length+1∧∀j,Sn o j↔∃i,Sn f i∧Rl P cs i j
theorem Ends.congr {P Q:List Int→Prop} {cs:List Int} {f o:List Bool} (h:Ends P cs f o) (e:∀w,P w↔Q w):Ends Q cs f o:=
  ⟨h.1,fun j=>(h.2 j).trans ⟨fun ⟨i,a,b⟩=>⟨i,a,(ZjX e).1 b⟩,fun ⟨i,a,b⟩=>⟨i,a,(ZjX e).2 b⟩⟩⟩
theorem Ends.comp {P Q:List Int→Prop} {cs:List Int} {f g o:List Bool} (h:Ends P cs f g) (h2:Ends Q cs g o):Ends (Cat P Q) cs f o:=
  ⟨h2.1,fun j=>by
    rw [h2.2]
    constructor
    · rintro ⟨m,a,b⟩
      obtain ⟨i,c,d⟩:=(h.2 m).1 a
      exact ⟨i,c,Zmh.2 ⟨m,d,b⟩⟩
    · rintro ⟨i,c,d⟩
      obtain ⟨m,e1,e2⟩:=Zmh.1 d
      exact ⟨m,(h.2 m).2 ⟨i,c,e1⟩,e2⟩⟩
theorem Zpi {s:List Bool} {j:Nat} (h:Sn s j):j<s.length:=(List.getElem?_eq_some_iff.1 h).1
theorem Ends.eps {cs:List Int} {f:List Bool} (h:f.length=cs.length+1):Ends (fun w=>w=[]) cs f f:=
  ⟨h,fun j=>⟨fun hj=>⟨j,hj,Zmi.2 ⟨rfl,by have:=Zpi hj;omega⟩⟩,fun ⟨i,a,b⟩=>by rw [←(Zmi.1 b).1];exact a⟩⟩
end Go.Proofs.YthilboheomikjaaGreatDoor
end
section
namespace Go.Proofs.YthilboheomikjaaGreatDoor
open Go.AL Go.Lib
set_option maxRecDepth 100000
end Go.Proofs.YthilboheomikjaaGreatDoor
end
section
namespace Go.Proofs.YthilboheomikjaaGreatDoor
open Go.AL Go.Lib
set_option maxRecDepth 100000
end Go.Proofs.YthilboheomikjaaGreatDoor
end
section
namespace Go.Proofs.YthilboheomikjaaGreatDoor
open Go.AL Go.Lib
set_option maxRecDepth 100000
def rd (s:List UInt8) (p:Nat) (o:Bool):Zi:=⟨s,(p:Int),o⟩
theorem Zfd {k p:Nat} {s:List UInt8} {o:Bool} {w:List UInt8} (hp:p≤s.length):F97 k (rd s p o) w=some (w.isPrefixOf (s.drop p)):=by
  unfold F97 rd
  simp only
  rw [if_pos ⟨by omega,by omega,by omega⟩]
  simp only [Int.toNat_natCast,List.take_length]
  rfl
theorem pre1 {l:List UInt8} {c:UInt8}:[c].isPrefixOf l=decide (l[0]?=some c):=by
  cases l with
  | nil=>rfl
  | cons x l=>
    simp only [List.isPrefixOf,Bool.and_true,List.getElem?_cons_zero,Option.some.injEq]
    by_cases h:c=x
    · subst h;simp
    · have:¬x=c:=fun e=>h e.symm
      simp [h,this]
theorem is1 {k p:Nat} {s:List UInt8} {o:Bool} {c:UInt8} (hp:p≤s.length):F97 k (rd s p o) [c]=some (decide (s[p]?=some c)):=by
  rw [Zfd hp,pre1,List.getElem?_drop,Nat.add_zero]
theorem Zo0 {k p:Nat} {s:List UInt8} {o:Bool} {c d:UInt8} (hp:p≤s.length) (h:s[p]?≠some c):F97 k (rd s p o) [c,d]=some false:=by
  rw [Zfd hp]
  congr 1
  have e:(s.drop p)[0]?=s[p]?:=by rw [List.getElem?_drop,Nat.add_zero]
  cases hd:s.drop p with
  | nil=>rfl
  | cons x l=>
    rw [hd] at e
    have:x≠c:=fun e2=>h (by rw [←e,e2];rfl)
    simp only [List.isPrefixOf]
    have h2:(c == x)=false:=by simp;exact fun e=>this e.symm
    rw [h2];rfl
theorem ZcC {k p:Nat} {s:List UInt8} {o:Bool} {c:UInt8} (hs:s.length≤1000000) (h:s[p]?=some c):F71 k (rd s p o) [c]=some (true,rd s (p+1) o):=by
  have hp:=(List.getElem?_eq_some_iff.1 h).1
  unfold F71
  rw [is1 (by omega),dt h,Option.bind_some,Bool.not_true,cond_false]
  unfold rd
  simp only [List.length_cons,List.length_nil]
  have e:=Z2 (i:=p) (by omega)
  simp only [Nat.zero_add,Int.natCast_one] at e ⊢
  rw [e]
theorem ZcB {k p:Nat} {s:List UInt8} {o:Bool} {c:UInt8} (hp:p≤s.length) (h:s[p]?≠some c):F71 k (rd s p o) [c]=some (false,rd s p o):=by
  unfold F71
  rw [is1 hp,df h,Option.bind_some,Bool.not_false,cond_true]
theorem ZcX {k p:Nat} {s:List UInt8} {o:Bool} (hs:s.length≤1000000) (hp:p<s.length) (hb:¬bad (s.drop p)):F140 k (rd s p o)=some (some (((decodeL (s.drop p)).1:Int),rd s (p+(decodeL (s.drop p)).2) o)):=by
  have hne:s.drop p≠[]:=fun c=>by have:=List.drop_eq_nil_iff.1 c;omega
  have hw:=decodeL_width (s.drop p)
  have hle:=decodeL_le _ hne
  rw [List.length_drop] at hle
  unfold F140 rd
  simp only
  rw [Zl6 hp (by omega),Option.bind_some]
  unfold nxt Zeh
  rw [if_neg hb]
  simp only
  rw [ZG (by omega),cond_false,df (by omega),cond_false,Zu (by omega) (by omega)]
  rfl
theorem Zhb {k p:Nat} {s:List UInt8} {o:Bool} (hs:s.length≤1000000) (hp:p<s.length) (hb:bad (s.drop p)):F140 k (rd s p o)=some none:=by
  unfold F140 rd
  simp only
  rw [Zl6 hp (by omega),Option.bind_some]
  unfold nxt Zeh
  rw [if_pos hb]
  rfl
theorem Zhc {k:Nat} {s:List UInt8} {o:Bool} (hs:s.length≤1000000):F140 k (rd s s.length o)=some none:=by
  unfold F140 rd F55 Zfx
  simp only
  rw [df (by omega),cond_false,dt (by omega),cond_true,Option.bind_some]
  rfl
theorem ZcV {l:List UInt8} {b:UInt8} (h:b.toNat<128):decodeL (b :: l)=(b.toNat,1)∧¬bad (b :: l):=by
  have e:=decodeL_ascii b l h
  refine ⟨e,?_⟩
  unfold bad
  rw [e]
  simp only
  omega
theorem Zai {s:List UInt8} {p:Nat} {b:UInt8} (h:s[p]?=some b):s.drop p=b :: s.drop (p+1):=by
  obtain ⟨h1,h2⟩:=List.getElem?_eq_some_iff.1 h
  rw [List.drop_eq_getElem_cons h1,h2]
theorem Zcj {k p:Nat} {s:List UInt8} {o:Bool} {b:UInt8} (hs:s.length≤1000000) (h:s[p]?=some b) (hb:b.toNat<128):F140 k (rd s p o)=some (some ((b.toNat:Int),rd s (p+1) o)):=by
  have h1:=(List.getElem?_eq_some_iff.1 h).1
  obtain ⟨a1,a2⟩:=ZcV (l:=s.drop (p+1)) hb
  rw [←Zai h] at a1 a2
  rw [ZcX hs h1 a2,a1]
theorem ZeJ {k:Nat} {s:List UInt8} {b:UInt8} (hb:b.toNat<128):F141 k s (IntKind.wrap .i32 (b.toNat:Int))=some (decide (0≤indexByte s b)):=by
  have e:IntKind.wrap .i32 (b.toNat:Int)=b.toNat:=by simp [IntKind.wrap,IntKind.bits,IntKind.signed];omega
  have e2:IntKind.wrap .u8 (b.toNat:Int)=b.toNat:=by simp [IntKind.wrap,IntKind.bits,IntKind.signed];omega
  unfold F141 Zjw F171 Zem F170
  rw [e,if_neg (by omega),dt (by omega),cond_true,dt (by omega),cond_true,e2]
  simp
theorem ZeO {c:UInt8}:∀{l:List UInt8},(∀b∈l,b≠c)→indexByte l c = -1
  | [],_=>rfl
  | b :: l,h=>by
    have h1:(b == c)=false:=by simpa using h b List.mem_cons_self
    unfold indexByte
    rw [h1,ZeO fun x hx=>h x (List.mem_cons_of_mem _ hx)]
    rfl
theorem Znc {c:Int} (hc:ZM c) (h:128≤c):∃(n:Nat) (x:UInt8),1≤n∧n≤3∧(Utf8.encode c).data.toList.length=n+1∧(Utf8.encode c).data.toList[n]?=some x∧128≤x.toNat:=by
  obtain ⟨m,rfl⟩:∃m:Nat,c=(m:Int):=⟨c.toNat,by have:=hc.1;omega⟩
  have hl:128≤(UInt8.ofNat (128+m % 64)).toNat:=by rw [UInt8.toNat_ofNat'];omega
  rw [ZoY hc,if_neg (by omega)]
  split
  · exact ⟨1,_,by omega,by omega,rfl,rfl,hl⟩
  · split
    · exact ⟨2,_,by omega,by omega,rfl,rfl,hl⟩
    · exact ⟨3,_,by omega,by omega,rfl,rfl,hl⟩
theorem Zfr {k:Nat} {s:List UInt8} {c:Int} (hk:1≤k) (hs:∀b∈s,b.toNat<128) (h4:4≤s.length) (hl:s.length≤1000) (hc:ZM c) (h:128≤c):F141 k s (IntKind.wrap .i32 c)=some false:=by
  have e:IntKind.wrap .i32 c=c:=by have:=hc.2.1;simp [IntKind.wrap,IntKind.bits,IntKind.signed];omega
  unfold F141
  rw [e]
  by_cases hf:c=65533
  · rw [if_pos hf,if_pos (List.all_eq_true.2 fun b hb=>dt (hs b hb))]
  · obtain ⟨n,x,h1,h3,hlen,hx,hx2⟩:=Znc hc h
    obtain ⟨q,rfl⟩:∃q,k=q+1:=⟨k-1,by omega⟩
    obtain ⟨y,hy⟩:∃y,s[n]?=some y:=⟨_,List.getElem?_eq_getElem (by omega)⟩
    have hyb:=hs y (List.mem_of_getElem? hy)
    have hv:F115 (q+1) c=some true:=by
      have hp:=hc
      unfold ZM at hp
      unfold F115 Zf7 Zf8
      rw [dt (by omega),cond_true]
      by_cases h9:c<55296
      · rw [dt h9,cond_true]
      · rw [df h9,cond_false,dt (by omega),cond_true,dt (by omega),cond_true]
    have ew:w64 (((Utf8.encode c).data.toList.length:Int)-1)=(n:Int):=by rw [hlen,Zu (by omega) (by omega)];omega
    have hb3:Zel (q+1) s c=some (-1):=by
      unfold Zel F170
      simp only [ew]
      rw [dt (by omega),cond_true,Zy,hy,Option.bind_some,Zy,hx,Option.bind_some,show ((y.toNat:Int) != (x.toNat:Int))=true by simp;omega,cond_true,Z2 (by omega),if_pos ⟨by omega,by omega,by omega⟩,Option.bind_some,Option.bind_some]
      have:indexByte ((s.take (Int.toNat (s.length:Int))).drop (Int.toNat ((n+1:Nat):Int))) (Int.toNat (x.toNat:Int)).toUInt8 = -1:=ZeO fun b hb e=>by
        have h5:=hs b (List.mem_of_mem_take (List.mem_of_mem_drop hb))
        rw [e] at h5
        simp at h5
        omega
      rw [this]
      rfl
    rw [if_neg hf]
    unfold Zjw F171 Zem
    rw [dt (by omega),cond_true,df (by omega),cond_false,ZG hf,cond_false,hv,Option.bind_some,Bool.not_true,cond_false]
    show Option.bind (Zel (q+1) s c) _=_
    rw [hb3]
    rfl
end Go.Proofs.YthilboheomikjaaGreatDoor
end
section
namespace Go.Proofs.YthilboheomikjaaGreatDoor
open Go.AL Go.Lib
set_option maxRecDepth 100000
def ZnG (b:UInt8):Bool:=(decide (48≤b.toNat) && decide (b.toNat≤57)) || (decide (65≤b.toNat) && decide (b.toNat≤90)) || (decide (97≤b.toNat) && decide (b.toNat≤122))
structure Item where
  a:UInt8
  b:UInt8
def Item.good (x:Item):Prop:=ZnG x.a=true∧ZnG x.b=true∧x.a.toNat≤x.b.toNat
def Item.enc (x:Item):List UInt8:=if x.a.toNat<x.b.toNat then [x.a,45,x.b] else [x.a]
end Go.Proofs.YthilboheomikjaaGreatDoor
end
section
namespace Go.Proofs.YthilboheomikjaaGreatDoor
open Go.AL
set_option maxRecDepth 100000
def Zdx (self8:(List Zb)→Int→Option (List Zb)) (self11:Int→Option (List Zb)) (v0:List Zb) (v151:List Zb) (v152:Int) (v165:Int) (v169:Bool):Option (List Zb):=
  cond v169 ((self11 (w64 (v165-1)))) ((if (0:Int)≤0∧(0:Int)≤v165∧v165≤(v151.length:Int) then if ([]:List Zb).length+((v151.take (Int.toNat v165)).drop (Int.toNat 0)).length≤1073741824 then (idxL v0 v152).bind fun y173=>if (([]:List Zb) ++ ((v151.take (Int.toNat v165)).drop (Int.toNat 0))).length+([y173]:List Zb).length≤1073741824 then if (0:Int)≤v165∧(v165:Int)≤(v151.length:Int)∧(v151.length:Int)≤(v151.length:Int) then if ((([]:List Zb) ++ ((v151.take (Int.toNat v165)).drop (Int.toNat 0))) ++ ([y173]:List Zb)).length+((v151.take (Int.toNat (v151.length:Int))).drop (Int.toNat v165)).length≤1073741824 then (self8 (((([]:List Zb) ++ ((v151.take (Int.toNat v165)).drop (Int.toNat 0))) ++ ([y173]:List Zb)) ++ ((v151.take (Int.toNat (v151.length:Int))).drop (Int.toNat v165))) (w64 (v152+1))) else none else none else none else none else none))
def Zct (self8:(List Zb)→Int→Option (List Zb)) (self11:Int→Option (List Zb)) (v0:List Zb) (v151:List Zb) (v152:Int) (v165:Int):Option (List Zb):=
  cond (decide (v165 > 0)) ((idxL v151 (w64 (v165-1))).bind fun y167=>(idxL v0 v152).bind fun y168=>(Zdx self8 self11 v0 v151 v152 v165 (decide (y167.f_Lo > y168.f_Lo)))) ((Zdx self8 self11 v0 v151 v152 v165 false))
def ZbY (self8:(List Zb)→Int→Option (List Zb)) (v0:List Zb) (v151:List Zb) (v152:Int):Nat→Int→Option (List Zb)
  | 0,_=>none
  | m_+1,v165=>Zct self8 (ZbY self8 v0 v151 v152 m_) v0 v151 v152 v165
def Zdz (self17:(List Zb)→Int→Option (List Zb)) (v214:Int) (v229:List Zb):Option (List Zb):=
  self17 v229 (w64 (v214+1))
def Zdy (self17:(List Zb)→Int→Option (List Zb)) (v151:List Zb) (v212:List Zb) (v214:Int) (v220:Bool):Option (List Zb):=
  cond v220 (if (0:Int)≤(w64 ((v212.length:Int)-1))∧(w64 ((v212.length:Int)-1))<(v212.length:Int) then (idxL v212 (w64 ((v212.length:Int)-1))).bind fun y223=>(idxL v151 v214).bind fun y224=>if (0:Int)≤(w64 ((v212.length:Int)-1))∧(w64 ((v212.length:Int)-1))<(v212.length:Int) then (idxL v212 (w64 ((v212.length:Int)-1))).bind fun y226=>((Zdz self17 v214 (v212.set (Int.toNat (w64 ((v212.length:Int)-1))) ({ y226 with f_Hi:=(mx y223.f_Hi y224.f_Hi) }:Zb)))) else none else none) ((idxL v151 v214).bind fun y227=>if v212.length+([y227]:List Zb).length≤1073741824 then (Zdz self17 v214 (v212 ++ ([y227]:List Zb))) else none)
def ZaS (k:Nat) (self17:(List Zb)→Int→Option (List Zb)) (v151:List Zb) (v212:List Zb) (v214:Int):Option (List Zb):=
  (cond (decide (v214<(v151.length:Int))) (((cond (decide ((v212.length:Int) > 0)) ((idxL v151 v214).bind fun y217=>if (0:Int)≤(w64 ((v212.length:Int)-1))∧(w64 ((v212.length:Int)-1))<(v212.length:Int) then (idxL v212 (w64 ((v212.length:Int)-1))).bind fun y219=>(Zdy self17 v151 v212 v214 (decide (y217.f_Lo≤(w64 (y219.f_Hi+1))))) else none) ((Zdy self17 v151 v212 v214 false))))) ((F143 k).bind fun y232=>(F190 k v212 y232).bind fun y233=>(some y233)))
def Zbr (k:Nat) (v151:List Zb):Nat→(List Zb)→Int→Option (List Zb)
  | 0,_,_=>none
  | m_+1,v212,v214=>ZaS k (Zbr k v151 m_) v151 v212 v214
def Zdi (k:Nat) (self8:(List Zb)→Int→Option (List Zb)) (v0:List Zb) (v151:List Zb) (v152:Int):Option (List Zb):=
  (cond (decide (v152<(v0.length:Int))) (((ZbY self8 v0 v151 v152 k (v151.length:Int)))) ((((Zbr k v151 k ([]:List Zb) 0)))))
def Zdj (k:Nat) (v0:List Zb):Nat→(List Zb)→Int→Option (List Zb)
  | 0,_,_=>none
  | m_+1,v151,v152=>Zdi k (Zdj k v0 m_) v0 v151 v152
def F174 (k:Nat) (v0:List Zb):Option (List Zb):=
  (((Zdj k v0 k ([]:List Zb) 0)))
theorem Zn8 (k:Nat) (v0:List Zb) (r:List Zb) (hF:F174 k v0=some r):Sim Tryz.prog GL0 174 [one (.sl (v0.map Za))] [] (one (.sl (r.map Za))) []:=by
 refine ZB [] Tryz.func174 rfl kr kr ?_
 show WA _ _ 102 _ _ _
 refine WA.seq ?_
 refine WA.reg [0] [] [] (env':=[(0,one (.sl (v0.map Za)))]) (os':=[]) (O:=[]) kr (sound _ _) trivial ?_
 refine WA.seq ?_
 refine WA.reg [0,3] [] [] (env':=[(0,one (.sl (v0.map Za))),(3,one (.sl (([]:List Zb).map Za)))]) (os':=[]) (O:=[]) kr (sound _ _) trivial ?_
 refine WA.seq ?_
 refine WA.seq ?_
 refine WA.reg [0,3,4] [] [] (env':=[(0,one (.sl (v0.map Za))),(3,one (.sl (([]:List Zb).map Za))),(4,one (.int .i64 0))]) (os':=[]) (O:=[]) kr (sound _ _) trivial ?_
 refine WA.block ?_
 refine WA.loop (fun m s_=>∃(v151:List Zb) (v152:Int),Zl s_.env [0,3,4]=[(0,one (.sl (v0.map Za))),(3,one (.sl (v151.map Za))),(4,one (.int .i64 v152))]∧Zl s_.os []=[]∧Zdj k v0 m v151 v152=some r) k ⟨([]:List Zb),0,kr,kr,hF⟩ ?_
 clear hF
 rintro m8 s_ ⟨v151,v152,he,ho,hF⟩
 refine WA.keep _ _ he ho ?_
 clear he ho
 cases m8 with
 | zero=>cases hF
 | succ m8=>
  obtain ⟨self8,hself8⟩:∃g,g=Zdj k v0 m8:=⟨_,rfl⟩
  have hF:Zdi k self8 v0 v151 v152=some r:=by first | (rw [hself8];exact hF) | exact hF
  refine WA.seq ?_
  refine WA.seq ?_
  refine WA.rm (α:=Int) (raw:=((v0.map Za).length:Int)) (can:=(v0.length:Int)) (fun m_=>([(0,one (.sl (v0.map Za))),(3,one (.sl (v151.map Za))),(4,one (.int .i64 v152)),(12,one (.bool (decide (v152<m_))))],[],[])) ((by first | (simp only [zl,Zh];done) | (simp only [zl,Zh];omega) | omega)) [0,3,4,12] [] [] kr (sound _ _) trivial ?_
  refine WA.cond (b:=(decide (v152<(v0.length:Int)))) rfl (fun hb153=>?_) (fun hb153=>?_)
  {
 have hF:=Zk hF hb153
 refine WA.skip ?_
 refine WA.seq ?_
 refine WA.block ?_
 refine WA.seq ?_
 refine WA.rm (α:=Int) (raw:=((v151.map Za).length:Int)) (can:=(v151.length:Int)) (fun m_=>([(0,one (.sl (v0.map Za))),(3,one (.sl (v151.map Za))),(4,one (.int .i64 v152)),(5,one (.int .i64 m_))],[],[])) ((by first | (simp only [zl,Zh];done) | (simp only [zl,Zh];omega) | omega)) [0,3,4,5] [] [] kr (sound _ _) trivial ?_
 refine WA.seq ?_
 refine WA.block ?_
 refine WA.loop (fun m s_=>∃(v165:Int),Zl s_.env [0,3,4,5]=[(0,one (.sl (v0.map Za))),(3,one (.sl (v151.map Za))),(4,one (.int .i64 v152)),(5,one (.int .i64 v165))]∧Zl s_.os []=[]∧ZbY self8 v0 v151 v152 m v165=some r) k ⟨(v151.length:Int),kr,kr,hF⟩ ?_
 clear hF
 rintro m11 s_ ⟨v165,he,ho,hF⟩
 refine WA.keep _ _ he ho ?_
 clear he ho
 cases m11 with
 | zero=>cases hF
 | succ m11=>
  obtain ⟨self11,hself11⟩:∃g,g=ZbY self8 v0 v151 v152 m11:=⟨_,rfl⟩
  have hF:Zct self8 self11 v0 v151 v152 v165=some r:=by first | (rw [hself11];exact hF) | exact hF
  refine WA.seq ?_
  refine WA.join (fun s_=>∃(v169:Bool),Zl s_.env [0,3,4,5,32]=[(0,one (.sl (v0.map Za))),(3,one (.sl (v151.map Za))),(4,one (.int .i64 v152)),(5,one (.int .i64 v165)),(32,one (.bool v169))]∧Zl s_.os []=[]∧Zdx self8 self11 v0 v151 v152 v165 v169=some r) ?_ ?_
  {
 rintro s_ ⟨v169,he,ho,hF⟩
 refine WA.keep _ _ he ho ?_
 clear he ho
 refine WA.cond (b:=v169) rfl (fun hb170=>?_) (fun hb170=>?_)
 {
 have hF:=Zk hF hb170
 refine WA.skip ?_
 refine WA.block ?_
 refine WA.reg [0,3,4,5] [] [] (env':=[(0,one (.sl (v0.map Za))),(3,one (.sl (v151.map Za))),(4,one (.int .i64 v152)),(5,one (.int .i64 (w64 (v165-1))))]) (os':=[]) (O:=[]) kr (sound _ _) trivial ?_
 exact ⟨m11,Nat.lt_succ_self _,(w64 (v165-1)),kr,kr,by rw [hself11] at hF;exact hF⟩ }
 {
 have hF:=Zj hF hb170
 refine WA.exit ?_
 obtain ⟨hc171,hF⟩:=Zo hF
 obtain ⟨hc172,hF⟩:=Zo hF
 obtain ⟨y173,hy173,hF⟩:=bind_some hF
 obtain ⟨hc174,hF⟩:=Zo hF
 obtain ⟨hc175,hF⟩:=Zo hF
 obtain ⟨hc176,hF⟩:=Zo hF
 have z1:∀es,(v151.map Za)[0]?=some es→es.length=2:=(fun es h=>(ZN v151) es (List.mem_of_getElem? h))
 refine WA.rdm (α:=Nat×(List (List PV))×(List (List PV))×Nat×(List (List PV))×Int×(List (List PV))×(List (List PV))) (raw:=((((0+(((v151.map Za).take (Int.toNat v165)).drop (Int.toNat 0)).length)+1)+(((v151.map Za).take (Int.toNat ((v151.map Za).length:Int))).drop (Int.toNat v165)).length),((((([]:List Zb).map Za) ++ (((v151.map Za).take (Int.toNat v165)).drop (Int.toNat 0))) ++ (([y173]:List Zb).map Za)) ++ (((v151.map Za).take (Int.toNat ((v151.map Za).length:Int))).drop (Int.toNat v165))),(((v151.map Za).take (Int.toNat v165)).drop (Int.toNat 0)),(0+(((v151.map Za).take (Int.toNat v165)).drop (Int.toNat 0)).length),((([]:List Zb).map Za) ++ (((v151.map Za).take (Int.toNat v165)).drop (Int.toNat 0))),((v151.map Za).length:Int),(((([]:List Zb).map Za) ++ (((v151.map Za).take (Int.toNat v165)).drop (Int.toNat 0))) ++ (([y173]:List Zb).map Za)),(((v151.map Za).take (Int.toNat ((v151.map Za).length:Int))).drop (Int.toNat v165)))) (can:=((((0+((v151.take (Int.toNat v165)).drop (Int.toNat 0)).length)+1)+((v151.take (Int.toNat (v151.length:Int))).drop (Int.toNat v165)).length),((((([]:List Zb) ++ ((v151.take (Int.toNat v165)).drop (Int.toNat 0))) ++ ([y173]:List Zb)) ++ ((v151.take (Int.toNat (v151.length:Int))).drop (Int.toNat v165))).map Za),(((v151.take (Int.toNat v165)).drop (Int.toNat 0)).map Za),(0+((v151.take (Int.toNat v165)).drop (Int.toNat 0)).length),((([]:List Zb) ++ ((v151.take (Int.toNat v165)).drop (Int.toNat 0))).map Za),(v151.length:Int),(((([]:List Zb) ++ ((v151.take (Int.toNat v165)).drop (Int.toNat 0))) ++ ([y173]:List Zb)).map Za),(((v151.take (Int.toNat (v151.length:Int))).drop (Int.toNat v165)).map Za))) (fun m_=>([(0,one (.sl (v0.map Za))),(3,.val false [.arr 135 m_.1]),(4,one (.int .i64 v152))],[(135,.arr 2 m_.2.1)],[(0:Int)≤0,(0:Int)≤v165,v165≤((v151.map Za).length:Int),∀es,(v151.map Za)[0]?=some es→es.length=2,0=(([]:List Zb).map Za).length,(([]:List Zb).map Za).length+m_.2.2.1.length≤1073741824,∀es,es∈m_.2.2.1→es.length=2,idxL (v0.map Za) v152=some (Za y173),m_.2.2.2.1=m_.2.2.2.2.1.length,m_.2.2.2.2.1.length+(([y173]:List Zb).map Za).length≤1073741824,∀es,es∈(([y173]:List Zb).map Za)→es.length=2,(0:Int)≤v165,(v165:Int)≤m_.2.2.2.2.2.1,m_.2.2.2.2.2.1≤((v151.map Za).length:Int),∀es,(v151.map Za)[0]?=some es→es.length=2,(m_.2.2.2.1+1)=m_.2.2.2.2.2.2.1.length,m_.2.2.2.2.2.2.1.length+m_.2.2.2.2.2.2.2.length≤1073741824,∀es,es∈m_.2.2.2.2.2.2.2→es.length=2])) (ZE (by first | (simp only [zl,Zh];done) | (simp only [zl,Zh];omega) | omega) (ZE zm (ZE zm (ZE (by first | (simp only [zl,Zh];done) | (simp only [zl,Zh];omega) | omega) (ZE zm (ZE (by first | (simp only [zl,Zh];done) | (simp only [zl,Zh];omega) | omega) (ZE zm zm))))))) [0,3,4] [135] [(0,.obj 135),(7,.cells (Za y173))] kr kr kr (sound _ _) ⟨hc171.1,hc171.2.1,(by first | exact hc171.2.2 | (simp only [List.length_map,Zh];exact hc171.2.2)),z1,zt,(by first | exact hc172 | (simp only [List.length_map,Zh];exact hc172)),(ZN ((v151.take (Int.toNat v165)).drop (Int.toNat 0))),(Zs _ hy173),zt,(by first | exact hc174 | (simp only [List.length_map,Zh];exact hc174)),(ZN ([y173]:List Zb)),hc175.1,hc175.2.1,(by first | exact hc175.2.2 | (simp only [List.length_map,Zh];exact hc175.2.2)),z1,zt,(by first | exact hc176 | (simp only [List.length_map,Zh];exact hc176)),(ZN ((v151.take (Int.toNat (v151.length:Int))).drop (Int.toNat v165))),trivial⟩ ?_
 refine WA.freeze 135 3 (s:=2) (n:=(((0+((v151.take (Int.toNat v165)).drop (Int.toNat 0)).length)+1)+((v151.take (Int.toNat (v151.length:Int))).drop (Int.toNat v165)).length)) (els:=((((([]:List Zb) ++ ((v151.take (Int.toNat v165)).drop (Int.toNat 0))) ++ ([y173]:List Zb)) ++ ((v151.take (Int.toNat (v151.length:Int))).drop (Int.toNat v165))).map Za)) rfl rfl zt ?_
 refine WA.keep [0,3,4] [] (env':=[(0,one (.sl (v0.map Za))),(3,one (.sl ((((([]:List Zb) ++ ((v151.take (Int.toNat v165)).drop (Int.toNat 0))) ++ ([y173]:List Zb)) ++ ((v151.take (Int.toNat (v151.length:Int))).drop (Int.toNat v165))).map Za))),(4,one (.int .i64 v152))]) (os':=[]) kr kr ?_
 refine WA.reg [0,3,4] [] [] (env':=[(0,one (.sl (v0.map Za))),(3,one (.sl ((((([]:List Zb) ++ ((v151.take (Int.toNat v165)).drop (Int.toNat 0))) ++ ([y173]:List Zb)) ++ ((v151.take (Int.toNat (v151.length:Int))).drop (Int.toNat v165))).map Za))),(4,one (.int .i64 (w64 (v152+1))))]) (os':=[]) (O:=[]) kr (sound _ _) trivial ?_
 exact ⟨m8,Nat.lt_succ_self _,(((([]:List Zb) ++ ((v151.take (Int.toNat v165)).drop (Int.toNat 0))) ++ ([y173]:List Zb)) ++ ((v151.take (Int.toNat (v151.length:Int))).drop (Int.toNat v165))),(w64 (v152+1)),kr,kr,by rw [hself8] at hF;exact hF⟩ } }
  {
 rcases Bool.eq_false_or_eq_true (decide (v165 > 0)) with hb166 | hb166
 {
 have hF:=Zk hF hb166
 obtain ⟨y167,hy167,hF⟩:=bind_some hF
 obtain ⟨y168,hy168,hF⟩:=bind_some hF
 refine WA.regD kr [0,3,4,5,32] [] [(2,.bool true),(6,.cells (Za y167)),(11,.cells (Za y168))] (env':=[(0,one (.sl (v0.map Za))),(3,one (.sl (v151.map Za))),(4,one (.int .i64 v152)),(5,one (.int .i64 v165)),(32,one (.bool (decide (y167.f_Lo > y168.f_Lo))))]) (os':=[]) (O:=[(decide (v165 > 0))=true,idxL (v151.map Za) (w64 (v165-1))=some (Za y167),idxL (v0.map Za) v152=some (Za y168)]) kr kr (sound _ _) ⟨hb166,(Zs _ hy167),(Zs _ hy168),trivial⟩ ?_
 exact ⟨(decide (y167.f_Lo > y168.f_Lo)),kr,kr,hF⟩ }
 {
 have hF:=Zj hF hb166
 refine WA.regD kr [0,3,4,5,32] [] [(2,.bool false)] (env':=[(0,one (.sl (v0.map Za))),(3,one (.sl (v151.map Za))),(4,one (.int .i64 v152)),(5,one (.int .i64 v165)),(32,one (.bool false))]) (os':=[]) (O:=[(decide (v165 > 0))=false]) kr kr (sound _ _) ⟨hb166,trivial⟩ ?_
 exact ⟨false,kr,kr,hF⟩ } } }
  {
 have hF:=Zj hF hb153
 refine WA.exit ?_
 refine WA.seq ?_
 refine WA.reg [3,6] [106] [(0,.obj 106)] (env':=[(3,one (.sl (v151.map Za))),(6,.val false [.arr 106 0])]) (os':=[(106,.arr 2 (([]:List Zb).map Za))]) (O:=[]) kr (sound _ _) trivial ?_
 refine WA.seq ?_
 refine WA.seq ?_
 refine WA.reg [3,6,7] [106] [] (env':=[(3,one (.sl (v151.map Za))),(6,.val false [.arr 106 0]),(7,one (.int .i64 0))]) (os':=[(106,.arr 2 (([]:List Zb).map Za))]) (O:=[]) kr (sound _ _) trivial ?_
 refine WA.block ?_
 refine WA.loop (fun m s_=>∃(v212:List Zb) (v213:Nat) (v214:Int),Zl s_.env [3,6,7]=[(3,one (.sl (v151.map Za))),(6,.val false [.arr 106 v213]),(7,one (.int .i64 v214))]∧Zl s_.os [106]=[(106,.arr 2 (v212.map Za))]∧v213=(v212:List _).length∧Zbr k v151 m v212 v214=some r) k ⟨([]:List Zb),0,0,kr,kr,zt,hF⟩ ?_
 clear hF
 rintro m17 s_ ⟨v212,v213,v214,he,ho,hn_v213,hF⟩
 refine WA.keep _ _ he ho ?_
 clear he ho
 cases m17 with
 | zero=>cases hF
 | succ m17=>
  obtain ⟨self17,hself17⟩:∃g,g=Zbr k v151 m17:=⟨_,rfl⟩
  have hF:ZaS k self17 v151 v212 v214=some r:=by first | (rw [hself17];exact hF) | exact hF
  refine WA.seq ?_
  refine WA.seq ?_
  refine WA.rm (α:=Int) (raw:=((v151.map Za).length:Int)) (can:=(v151.length:Int)) (fun m_=>([(3,one (.sl (v151.map Za))),(6,.val false [.arr 106 v213]),(7,one (.int .i64 v214)),(53,one (.bool (decide (v214<m_))))],[(106,.arr 2 (v212.map Za))],[])) ((by first | (simp only [zl,Zh];done) | (simp only [zl,Zh];omega) | omega)) [3,6,7,53] [106] [] kr (sound _ _) trivial ?_
  refine WA.cond (b:=(decide (v214<(v151.length:Int)))) rfl (fun hb215=>?_) (fun hb215=>?_)
  {
 have hF:=Zk hF hb215
 refine WA.skip ?_
 refine WA.join (fun s_=>∃(v229:List Zb) (v230:Nat),Zl s_.env [3,6,7]=[(3,one (.sl (v151.map Za))),(6,.val false [.arr 106 v230]),(7,one (.int .i64 v214))]∧Zl s_.os [106]=[(106,.arr 2 (v229.map Za))]∧v230=(v229:List _).length∧Zdz self17 v214 v229=some r) ?_ ?_
 {
 rintro s_ ⟨v229,v230,he,ho,hn_v230,hF⟩
 refine WA.keep _ _ he ho ?_
 clear he ho
 refine WA.reg [3,6,7] [106] [] (env':=[(3,one (.sl (v151.map Za))),(6,.val false [.arr 106 v230]),(7,one (.int .i64 (w64 (v214+1))))]) (os':=[(106,.arr 2 (v229.map Za))]) (O:=[]) kr (sound _ _) trivial ?_
 exact ⟨m17,Nat.lt_succ_self _,v229,v230,(w64 (v214+1)),kr,kr,zt,by rw [hself17] at hF;exact hF⟩ }
 {
 refine WA.block ?_
 refine WA.seq ?_
 refine WA.rm (α:=Int) (raw:=((v213:Nat):Int)) (can:=(v212.length:Int)) (fun m_=>([(3,one (.sl (v151.map Za))),(6,.val false [.arr 106 v213]),(7,one (.int .i64 v214)),(8,one (.int .i64 m_))],[(106,.arr 2 (v212.map Za))],[])) ((by first | (simp only [zl,Zh];done) | (simp only [zl,Zh];omega) | omega)) [3,6,7,8] [106] [] kr (sound _ _) trivial ?_
 refine WA.seq ?_
 refine WA.join (fun s_=>∃(v220:Bool),Zl s_.env [3,6,7,8,74]=[(3,one (.sl (v151.map Za))),(6,.val false [.arr 106 v213]),(7,one (.int .i64 v214)),(8,one (.int .i64 (v212.length:Int))),(74,one (.bool v220))]∧Zl s_.os [106]=[(106,.arr 2 (v212.map Za))]∧Zdy self17 v151 v212 v214 v220=some r) ?_ ?_
 {
 rintro s_ ⟨v220,he,ho,hF⟩
 refine WA.keep _ _ he ho ?_
 clear he ho
 refine WA.cond (b:=v220) rfl (fun hb221=>?_) (fun hb221=>?_)
 {
 have hF:=Zk hF hb221
 refine WA.seq ?_
 obtain ⟨hc222,hF⟩:=Zo hF
 obtain ⟨y223,hy223,hF⟩:=bind_some hF
 obtain ⟨y224,hy224,hF⟩:=bind_some hF
 obtain ⟨hc225,hF⟩:=Zo hF
 obtain ⟨y226,hy226,hF⟩:=bind_some hF
 have z0:(w64 ((v212.length:Int)-1))<((v213:Nat):Int):=(by have h_:=hc222.2;(try simp only [zl,Zh] at h_ ⊢);omega)
 refine WA.rdm (α:=(List (List PV))) (raw:=((v212.map Za).set (Int.toNat (w64 ((v212.length:Int)-1))) (Za ({ y226 with f_Hi:=(mx y223.f_Hi y224.f_Hi) }:Zb)))) (can:=((v212.set (Int.toNat (w64 ((v212.length:Int)-1))) ({ y226 with f_Hi:=(mx y223.f_Hi y224.f_Hi) }:Zb)).map Za)) (fun m_=>([(3,one (.sl (v151.map Za))),(6,.val false [.arr 106 v213]),(7,one (.int .i64 v214))],[(106,.arr 2 m_)],[v213=(v212.map Za).length,(0:Int)≤(w64 ((v212.length:Int)-1)),(w64 ((v212.length:Int)-1))<((v213:Nat):Int),v213=(v212.map Za).length,0<v213,v213=(v212.map Za).length,(v212.map Za)[Int.toNat (w64 ((v212.length:Int)-1))]?=some (Za y223),idxL (v151.map Za) v214=some (Za y224),v213=(v212.map Za).length,(0:Int)≤(w64 ((v212.length:Int)-1)),(w64 ((v212.length:Int)-1))<((v213:Nat):Int),v213=(v212.map Za).length,0<v213,v213=(v212.map Za).length,(v212.map Za)[Int.toNat (w64 ((v212.length:Int)-1))]?=some (Za y226)])) (zm) [3,6,7] [106] [(8,.cells (Za y223)),(11,.cells (Za y224)),(17,.cells (Za y226))] kr kr kr (sound _ _) ⟨zt,hc222.1,z0,zt,(by omega),zt,(Zr (Zs _ hy223)),(Zs _ hy224),zt,hc225.1,z0,zt,(by omega),zt,(Zr (Zs _ hy226)),trivial⟩ ?_
 refine WA.exit ?_
 exact ⟨(v212.set (Int.toNat (w64 ((v212.length:Int)-1))) ({ y226 with f_Hi:=(mx y223.f_Hi y224.f_Hi) }:Zb)),v213,kr,kr,zt,hF⟩ }
 {
 have hF:=Zj hF hb221
 refine WA.skip ?_
 obtain ⟨y227,hy227,hF⟩:=bind_some hF
 obtain ⟨hc228,hF⟩:=Zo hF
 refine WA.rm (α:=(List (List PV))) (raw:=((v212.map Za) ++ (([y227]:List Zb).map Za))) (can:=((v212 ++ ([y227]:List Zb)).map Za)) (fun m_=>([(3,one (.sl (v151.map Za))),(6,.val false [.arr 106 (v213+1)]),(7,one (.int .i64 v214))],[(106,.arr 2 m_)],[idxL (v151.map Za) v214=some (Za y227),v213=(v212.map Za).length,(v212.map Za).length+(([y227]:List Zb).map Za).length≤1073741824,∀es,es∈(([y227]:List Zb).map Za)→es.length=2])) (zm) [3,6,7] [106] [(3,.cells (Za y227))] kr (sound _ _) ⟨(Zs _ hy227),zt,(by first | exact hc228 | (simp only [List.length_map,Zh];exact hc228)),(ZN ([y227]:List Zb)),trivial⟩ ?_
 exact ⟨(v212 ++ ([y227]:List Zb)),(v213+1),kr,kr,zt,hF⟩ } }
 {
 rcases Bool.eq_false_or_eq_true (decide ((v212.length:Int) > 0)) with hb216 | hb216
 {
 have hF:=Zk hF hb216
 obtain ⟨y217,hy217,hF⟩:=bind_some hF
 obtain ⟨hc218,hF⟩:=Zo hF
 obtain ⟨y219,hy219,hF⟩:=bind_some hF
 refine WA.regD kr [3,6,7,8,74] [106] [(2,.bool true),(5,.cells (Za y217)),(13,.cells (Za y219))] (env':=[(3,one (.sl (v151.map Za))),(6,.val false [.arr 106 v213]),(7,one (.int .i64 v214)),(8,one (.int .i64 (v212.length:Int))),(74,one (.bool (decide (y217.f_Lo≤(w64 (y219.f_Hi+1))))))]) (os':=[(106,.arr 2 (v212.map Za))]) (O:=[(decide ((v212.length:Int) > 0))=true,idxL (v151.map Za) v214=some (Za y217),v213=(v212.map Za).length,(0:Int)≤(w64 ((v212.length:Int)-1)),(w64 ((v212.length:Int)-1))<((v213:Nat):Int),v213=(v212.map Za).length,0<v213,v213=(v212.map Za).length,(v212.map Za)[Int.toNat (w64 ((v212.length:Int)-1))]?=some (Za y219)]) kr kr (sound _ _) ⟨hb216,(Zs _ hy217),zt,hc218.1,(by have h_:=hc218.2;(try simp only [zl,Zh] at h_ ⊢);omega),zt,(by omega),zt,(Zr (Zs _ hy219)),trivial⟩ ?_
 exact ⟨(decide (y217.f_Lo≤(w64 (y219.f_Hi+1)))),kr,kr,hF⟩ }
 {
 have hF:=Zj hF hb216
 refine WA.regD kr [3,6,7,8,74] [106] [(2,.bool false)] (env':=[(3,one (.sl (v151.map Za))),(6,.val false [.arr 106 v213]),(7,one (.int .i64 v214)),(8,one (.int .i64 (v212.length:Int))),(74,one (.bool false))]) (os':=[(106,.arr 2 (v212.map Za))]) (O:=[(decide ((v212.length:Int) > 0))=false]) kr kr (sound _ _) ⟨hb216,trivial⟩ ?_
 exact ⟨false,kr,kr,hF⟩ } } } }
  {
 have hF:=Zj hF hb215
 refine WA.exit ?_
 refine WA.seq ?_
 refine WA.freeze 106 6 (s:=2) (n:=v213) (els:=(v212.map Za)) rfl rfl zt ?_
 refine WA.keep [6] [] (env':=[(6,one (.sl (v212.map Za)))]) (os':=[]) kr kr ?_
 obtain ⟨y232,hy232,hF⟩:=bind_some hF
 obtain ⟨y233,hy233,hF⟩:=bind_some hF
 refine WA.reg [2] [] [(1,.callR [] (one (.sl (y232.map Za)))),(2,.callR [] (one (.sl (y233.map Za))))] (env':=[(2,one (.sl (y233.map Za)))]) (os':=[]) (O:=[Sim Tryz.prog GL0 143 [] [] (one (.sl (y232.map Za))) [],([]:List Nat).Nodup,Sim Tryz.prog GL0 190 [one (.sl (v212.map Za)),one (.sl (y232.map Za))] [] (one (.sl (y233.map Za))) [],([]:List Nat).Nodup]) kr (sound _ _) ⟨(Zis k _ hy232),(by decide),(Zk8 k _ _ _ hy233),(by decide),trivial⟩ ?_
 refine WA.ret ?_
 obtain rfl:=Option.some.inj hF
 exact Zp (one (.sl (y233.map Za))) [] kr kr kr kr (by decide) rfl rfl } }
end Go.Proofs.YthilboheomikjaaGreatDoor
end
