/- G5, N10, N11, N12, N13, N14, N15, G18, Q14 -/
import Derived.Test.YthilboheomikjaaGreatDoorMRRexParses5
set_option linter.unusedVariables false
set_option linter.unusedSimpArgs false
section
namespace Go.Proofs.YthilboheomikjaaGreatDoor
open Go.AL
set_option maxRecDepth 100000
structure Zf where
  f_S:List UInt8
  f_I:Int
  f_Bad:Bool
  f_Long:Bool
def Zc (x:Zf):List PV:=[.str x.f_S,.int .i64 x.f_I,.bool x.f_Bad,.bool x.f_Long]
def F100 (k:Nat) (v0:Zf):Option Int:=
  ((cond (decide (v0.f_I<(v0.f_S.length:Int))) ((idxL v0.f_S v0.f_I).bind fun y102=>(some (y102.toNat:Int))) (((some 0)))))
theorem Zao (k:Nat) (v0:Zf) (r:Int) (hF:F100 k v0=some r):Sim Tryz.prog GL0 100 [.val false [.ptr 0 1 0 0]] [.box (pvL (Zc v0))] (one (.int .u8 r)) [.box (pvL (Zc v0))]:=by
 refine ZB [0] Tryz.func100 rfl kr kr ?_
 show WA _ _ 22 _ _ _
 refine WA.seq ?_
 refine WA.reg [0] [0] [] (env':=[(0,.val false [.ptr 0 1 0 0])]) (os':=[(0,.box (pvL (Zc v0)))]) (O:=[]) kr (sound _ _) trivial ?_
 refine WA.seq ?_
 refine WA.seq ?_
 refine WA.regD kr [0,12] [0] [] (env':=[(0,.val false [.ptr 0 1 0 0]),(12,one (.bool (decide (v0.f_I<(v0.f_S.length:Int)))))]) (os':=[(0,.box (pvL (Zc v0)))]) (O:=[]) kr kr (sound _ _) trivial ?_
 refine WA.cond (b:=(decide (v0.f_I<(v0.f_S.length:Int)))) rfl (fun hb101=>?_) (fun hb101=>?_)
 {
 have hF:=Zk hF hb101
 refine WA.seq ?_
 obtain ⟨y102,hy102,hF⟩:=bind_some hF
 refine WA.regD kr [2] [0] [(8,.num (y102.toNat:Int))] (env':=[(2,one (.int .u8 (y102.toNat:Int)))]) (os':=[(0,.box (pvL (Zc v0)))]) (O:=[(idxL v0.f_S v0.f_I).map (fun b=>(b.toNat:Int))=some (y102.toNat:Int)]) kr kr (sound _ _) ⟨(by rw [hy102];rfl),trivial⟩ ?_
 refine WA.ret ?_
 obtain rfl:=Option.some.inj hF
 exact Zp (one (.int .u8 (y102.toNat:Int))) [.box (pvL (Zc v0))] kr kr kr kr (by decide) rfl rfl }
 {
 have hF:=Zj hF hb101
 refine WA.skip ?_
 refine WA.seq ?_
 refine WA.reg [2] [0] [] (env':=[(2,one (.int .u8 0))]) (os':=[(0,.box (pvL (Zc v0)))]) (O:=[]) kr (sound _ _) trivial ?_
 refine WA.ret ?_
 obtain rfl:=Option.some.inj hF
 exact Zp (one (.int .u8 0)) [.box (pvL (Zc v0))] kr kr kr kr (by decide) rfl rfl }
def Zfz (v0:Zf) (v103:Bool):Option (Bool×Zf):=
  cond v103 (((some (true,({ v0 with f_I:=(w64 (v0.f_I+1)) }:Zf))))) (((some (false,v0))))
def F74 (k:Nat) (v0:Zf) (v1:Int):Option (Bool×Zf):=
  (cond (decide (v0.f_I<(v0.f_S.length:Int))) ((idxL v0.f_S v0.f_I).bind fun y102=>(Zfz v0 ((y102.toNat:Int) == v1))) ((Zfz v0 false)))
theorem Zat (k:Nat) (v0:Zf) (v1:Int) (r:Bool×Zf) (hF:F74 k v0 v1=some r):Sim Tryz.prog GL0 74 [.val false [.ptr 0 1 0 0],one (.int .u8 v1)] [.box (pvL (Zc v0))] (one (.bool r.1)) [.box (pvL (Zc r.2))]:=by
 refine ZB [0] Tryz.func74 rfl kr kr ?_
 show WA _ _ 35 _ _ _
 refine WA.seq ?_
 refine WA.reg [0,1] [0] [] (env':=[(0,.val false [.ptr 0 1 0 0]),(1,one (.int .u8 v1))]) (os':=[(0,.box (pvL (Zc v0)))]) (O:=[]) kr (sound _ _) trivial ?_
 refine WA.seq ?_
 refine WA.join (fun s_=>∃(v103:Bool),Zl s_.env [0,27]=[(0,.val false [.ptr 0 1 0 0]),(27,one (.bool v103))]∧Zl s_.os [0]=[(0,.box (pvL (Zc v0)))]∧Zfz v0 v103=some r) ?_ ?_
 {
 rintro s_ ⟨v103,he,ho,hF⟩
 refine WA.keep _ _ he ho ?_
 clear he ho
 refine WA.cond (b:=v103) rfl (fun hb104=>?_) (fun hb104=>?_)
 {
 have hF:=Zk hF hb104
 refine WA.seq ?_
 refine WA.reg [] [0] [] (env':=[]) (os':=[(0,.box (pvL (Zc ({ v0 with f_I:=(w64 (v0.f_I+1)) }:Zf))))]) (O:=[]) kr (sound _ _) trivial ?_
 refine WA.seq ?_
 refine WA.reg [4] [0] [] (env':=[(4,one (.bool true))]) (os':=[(0,.box (pvL (Zc ({ v0 with f_I:=(w64 (v0.f_I+1)) }:Zf))))]) (O:=[]) kr (sound _ _) trivial ?_
 refine WA.ret ?_
 obtain rfl:=Option.some.inj hF
 exact Zp (one (.bool true)) [.box (pvL (Zc ({ v0 with f_I:=(w64 (v0.f_I+1)) }:Zf)))] kr kr kr kr (by decide) rfl rfl }
 {
 have hF:=Zj hF hb104
 refine WA.skip ?_
 refine WA.seq ?_
 refine WA.reg [4] [0] [] (env':=[(4,one (.bool false))]) (os':=[(0,.box (pvL (Zc v0)))]) (O:=[]) kr (sound _ _) trivial ?_
 refine WA.ret ?_
 obtain rfl:=Option.some.inj hF
 exact Zp (one (.bool false)) [.box (pvL (Zc v0))] kr kr kr kr (by decide) rfl rfl } }
 {
 rcases Bool.eq_false_or_eq_true (decide (v0.f_I<(v0.f_S.length:Int))) with hb101 | hb101
 {
 have hF:=Zk hF hb101
 obtain ⟨y102,hy102,hF⟩:=bind_some hF
 refine WA.regD kr [0,27] [0] [(10,.bool true),(19,.num (y102.toNat:Int))] (env':=[(0,.val false [.ptr 0 1 0 0]),(27,one (.bool ((y102.toNat:Int) == v1)))]) (os':=[(0,.box (pvL (Zc v0)))]) (O:=[(decide (v0.f_I<(v0.f_S.length:Int)))=true,(idxL v0.f_S v0.f_I).map (fun b=>(b.toNat:Int))=some (y102.toNat:Int)]) kr kr (sound _ _) ⟨hb101,(by rw [hy102];rfl),trivial⟩ ?_
 exact ⟨((y102.toNat:Int) == v1),kr,kr,hF⟩ }
 {
 have hF:=Zj hF hb101
 refine WA.regD kr [0,27] [0] [(10,.bool false)] (env':=[(0,.val false [.ptr 0 1 0 0]),(27,one (.bool false))]) (os':=[(0,.box (pvL (Zc v0)))]) (O:=[(decide (v0.f_I<(v0.f_S.length:Int)))=false]) kr kr (sound _ _) ⟨hb101,trivial⟩ ?_
 exact ⟨false,kr,kr,hF⟩ } }
def Zgl (v119:Int) (v131:Zf):Option (Int×Zf):=
  (some (v119,v131))
def Zgk (v118:Zf) (v119:Int) (v129:Bool):Option (Int×Zf):=
  cond v129 ((Zgl v119 ({ v118 with f_Bad:=true }:Zf))) ((Zgl v119 v118))
def Zcp (k:Nat) (self2:Zf→Int→Int→Option (Int×Zf)) (v118:Zf) (v119:Int) (v120:Int) (v125:Bool):Option (Int×Zf):=
  cond v125 ((F100 k v118).bind fun y127=>((self2 ({ v118 with f_I:=(w64 (v118.f_I+1)) }:Zf) (w64 ((w64 (v119*10))+(w64 (IntKind.wrap .u8 (y127-48))))) (w64 (v120+1))))) ((cond (v120 == 0) ((Zgk v118 v119 true)) ((Zgk v118 v119 (decide (v120 > 3))))))
def Zdb (k:Nat) (self2:Zf→Int→Int→Option (Int×Zf)) (v118:Zf) (v119:Int) (v120:Int):Option (Int×Zf):=
  (F100 k v118).bind fun y121=>cond (decide (y121≥48)) ((F100 k v118).bind fun y123=>cond (decide (y123≤57)) ((Zcp k self2 v118 v119 v120 (decide (v120<4)))) ((Zcp k self2 v118 v119 v120 false))) ((Zcp k self2 v118 v119 v120 false))
def Zaz (k:Nat):Nat→Zf→Int→Int→Option (Int×Zf)
  | 0,_,_,_=>none
  | m_+1,v118,v119,v120=>Zdb k (Zaz k m_) v118 v119 v120
def F148 (k:Nat) (v0:Zf):Option (Int×Zf):=
  ((Zaz k k v0 0 0))
theorem Zk3 (k:Nat) (v0:Zf) (r:Int×Zf) (hF:F148 k v0=some r):Sim Tryz.prog GL0 148 [.val false [.ptr 0 1 0 0]] [.box (pvL (Zc v0))] (one (.int .i64 r.1)) [.box (pvL (Zc r.2))]:=by
 refine ZB [0] Tryz.func148 rfl kr kr ?_
 show WA _ _ 43 _ _ _
 refine WA.seq ?_
 refine WA.reg [0] [0] [] (env':=[(0,.val false [.ptr 0 1 0 0])]) (os':=[(0,.box (pvL (Zc v0)))]) (O:=[]) kr (sound _ _) trivial ?_
 refine WA.seq ?_
 refine WA.reg [0,3,4] [0] [] (env':=[(0,.val false [.ptr 0 1 0 0]),(3,one (.int .i64 0)),(4,one (.int .i64 0))]) (os':=[(0,.box (pvL (Zc v0)))]) (O:=[]) kr (sound _ _) trivial ?_
 refine WA.seq ?_
 refine WA.block ?_
 refine WA.loop (fun m s_=>∃(v118:Zf) (v119:Int) (v120:Int),Zl s_.env [0,3,4]=[(0,.val false [.ptr 0 1 0 0]),(3,one (.int .i64 v119)),(4,one (.int .i64 v120))]∧Zl s_.os [0]=[(0,.box (pvL (Zc v118)))]∧Zaz k m v118 v119 v120=some r) k ⟨v0,0,0,kr,kr,hF⟩ ?_
 clear hF
 rintro m2 s_ ⟨v118,v119,v120,he,ho,hF⟩
 refine WA.keep _ _ he ho ?_
 clear he ho
 cases m2 with
 | zero=>cases hF
 | succ m2=>
  obtain ⟨self2,hself2⟩:∃g,g=Zaz k m2:=⟨_,rfl⟩
  have hF:Zdb k self2 v118 v119 v120=some r:=by first | (rw [hself2];exact hF) | exact hF
  refine WA.seq ?_
  refine WA.join (fun s_=>∃(v125:Bool),Zl s_.env [0,3,4,16]=[(0,.val false [.ptr 0 1 0 0]),(3,one (.int .i64 v119)),(4,one (.int .i64 v120)),(16,one (.bool v125))]∧Zl s_.os [0]=[(0,.box (pvL (Zc v118)))]∧Zcp k self2 v118 v119 v120 v125=some r) ?_ ?_
  {
 rintro s_ ⟨v125,he,ho,hF⟩
 refine WA.keep _ _ he ho ?_
 clear he ho
 refine WA.cond (b:=v125) rfl (fun hb126=>?_) (fun hb126=>?_)
 {
 have hF:=Zk hF hb126
 refine WA.skip ?_
 refine WA.block ?_
 refine WA.seq ?_
 obtain ⟨y127,hy127,hF⟩:=bind_some hF
 refine WA.reg [0,3,4] [0] [(3,.callR [0] (one (.int .u8 y127)))] (env':=[(0,.val false [.ptr 0 1 0 0]),(3,one (.int .i64 (w64 ((w64 (v119*10))+(w64 (IntKind.wrap .u8 (y127-48))))))),(4,one (.int .i64 v120))]) (os':=[(0,.box (pvL (Zc v118)))]) (O:=[Sim Tryz.prog GL0 100 [.val false [.ptr 0 1 0 0]] [.box (pvL (Zc v118))] (one (.int .u8 y127)) [.box (pvL (Zc v118))],([0]:List Nat).Nodup]) kr (sound _ _) ⟨(Zao k _ _ hy127),(by decide),trivial⟩ ?_
 refine WA.seq ?_
 refine WA.reg [0,3,4] [0] [] (env':=[(0,.val false [.ptr 0 1 0 0]),(3,one (.int .i64 (w64 ((w64 (v119*10))+(w64 (IntKind.wrap .u8 (y127-48))))))),(4,one (.int .i64 v120))]) (os':=[(0,.box (pvL (Zc ({ v118 with f_I:=(w64 (v118.f_I+1)) }:Zf))))]) (O:=[]) kr (sound _ _) trivial ?_
 refine WA.reg [0,3,4] [0] [] (env':=[(0,.val false [.ptr 0 1 0 0]),(3,one (.int .i64 (w64 ((w64 (v119*10))+(w64 (IntKind.wrap .u8 (y127-48))))))),(4,one (.int .i64 (w64 (v120+1))))]) (os':=[(0,.box (pvL (Zc ({ v118 with f_I:=(w64 (v118.f_I+1)) }:Zf))))]) (O:=[]) kr (sound _ _) trivial ?_
 exact ⟨m2,Nat.lt_succ_self _,({ v118 with f_I:=(w64 (v118.f_I+1)) }:Zf),(w64 ((w64 (v119*10))+(w64 (IntKind.wrap .u8 (y127-48))))),(w64 (v120+1)),kr,kr,by rw [hself2] at hF;exact hF⟩ }
 {
 have hF:=Zj hF hb126
 refine WA.exit ?_
 refine WA.join (fun s_=>∃(v131:Zf),Zl s_.env [3]=[(3,one (.int .i64 v119))]∧Zl s_.os [0]=[(0,.box (pvL (Zc v131)))]∧Zgl v119 v131=some r) ?_ ?_
 {
 rintro s_ ⟨v131,he,ho,hF⟩
 refine WA.keep _ _ he ho ?_
 clear he ho
 refine WA.seq ?_
 refine WA.reg [2] [0] [] (env':=[(2,one (.int .i64 v119))]) (os':=[(0,.box (pvL (Zc v131)))]) (O:=[]) kr (sound _ _) trivial ?_
 refine WA.ret ?_
 obtain rfl:=Option.some.inj hF
 exact Zp (one (.int .i64 v119)) [.box (pvL (Zc v131))] kr kr kr kr (by decide) rfl rfl }
 {
 refine WA.join (fun s_=>∃(v129:Bool),Zl s_.env [0,3,38]=[(0,.val false [.ptr 0 1 0 0]),(3,one (.int .i64 v119)),(38,one (.bool v129))]∧Zl s_.os [0]=[(0,.box (pvL (Zc v118)))]∧Zgk v118 v119 v129=some r) ?_ ?_
 {
 rintro s_ ⟨v129,he,ho,hF⟩
 refine WA.keep _ _ he ho ?_
 clear he ho
 refine WA.cond (b:=v129) rfl (fun hb130=>?_) (fun hb130=>?_)
 {
 have hF:=Zk hF hb130
 refine WA.reg [3] [0] [] (env':=[(3,one (.int .i64 v119))]) (os':=[(0,.box (pvL (Zc ({ v118 with f_Bad:=true }:Zf))))]) (O:=[]) kr (sound _ _) trivial ?_
 exact ⟨({ v118 with f_Bad:=true }:Zf),kr,kr,hF⟩ }
 {
 have hF:=Zj hF hb130
 refine WA.skip ?_
 exact ⟨v118,kr,kr,hF⟩ } }
 {
 rcases Bool.eq_false_or_eq_true (v120 == 0) with hb128 | hb128
 {
 have hF:=Zk hF hb128
 refine WA.reg [0,3,38] [0] [(2,.bool true)] (env':=[(0,.val false [.ptr 0 1 0 0]),(3,one (.int .i64 v119)),(38,one (.bool true))]) (os':=[(0,.box (pvL (Zc v118)))]) (O:=[(v120 == 0)=true]) kr (sound _ _) ⟨hb128,trivial⟩ ?_
 exact ⟨true,kr,kr,hF⟩ }
 {
 have hF:=Zj hF hb128
 refine WA.reg [0,3,38] [0] [(2,.bool false)] (env':=[(0,.val false [.ptr 0 1 0 0]),(3,one (.int .i64 v119)),(38,one (.bool (decide (v120 > 3))))]) (os':=[(0,.box (pvL (Zc v118)))]) (O:=[(v120 == 0)=false]) kr (sound _ _) ⟨hb128,trivial⟩ ?_
 exact ⟨(decide (v120 > 3)),kr,kr,hF⟩ } } } } }
  {
 obtain ⟨y121,hy121,hF⟩:=bind_some hF
 rcases Bool.eq_false_or_eq_true (decide (y121≥48)) with hb122 | hb122
 {
 have hF:=Zk hF hb122
 obtain ⟨y123,hy123,hF⟩:=bind_some hF
 rcases Bool.eq_false_or_eq_true (decide (y123≤57)) with hb124 | hb124
 {
 have hF:=Zk hF hb124
 refine WA.reg [0,3,4,16] [0] [(1,.callR [0] (one (.int .u8 y121))),(3,.bool true),(5,.callR [0] (one (.int .u8 y123))),(8,.bool true)] (env':=[(0,.val false [.ptr 0 1 0 0]),(3,one (.int .i64 v119)),(4,one (.int .i64 v120)),(16,one (.bool (decide (v120<4))))]) (os':=[(0,.box (pvL (Zc v118)))]) (O:=[Sim Tryz.prog GL0 100 [.val false [.ptr 0 1 0 0]] [.box (pvL (Zc v118))] (one (.int .u8 y121)) [.box (pvL (Zc v118))],([0]:List Nat).Nodup,(decide (y121≥48))=true,Sim Tryz.prog GL0 100 [.val false [.ptr 0 1 0 0]] [.box (pvL (Zc v118))] (one (.int .u8 y123)) [.box (pvL (Zc v118))],([0]:List Nat).Nodup,(decide (y123≤57))=true]) kr (sound _ _) ⟨(Zao k _ _ hy121),(by decide),hb122,(Zao k _ _ hy123),(by decide),hb124,trivial⟩ ?_
 exact ⟨(decide (v120<4)),kr,kr,hF⟩ }
 {
 have hF:=Zj hF hb124
 refine WA.reg [0,3,4,16] [0] [(1,.callR [0] (one (.int .u8 y121))),(3,.bool true),(5,.callR [0] (one (.int .u8 y123))),(8,.bool false)] (env':=[(0,.val false [.ptr 0 1 0 0]),(3,one (.int .i64 v119)),(4,one (.int .i64 v120)),(16,one (.bool false))]) (os':=[(0,.box (pvL (Zc v118)))]) (O:=[Sim Tryz.prog GL0 100 [.val false [.ptr 0 1 0 0]] [.box (pvL (Zc v118))] (one (.int .u8 y121)) [.box (pvL (Zc v118))],([0]:List Nat).Nodup,(decide (y121≥48))=true,Sim Tryz.prog GL0 100 [.val false [.ptr 0 1 0 0]] [.box (pvL (Zc v118))] (one (.int .u8 y123)) [.box (pvL (Zc v118))],([0]:List Nat).Nodup,(decide (y123≤57))=false]) kr (sound _ _) ⟨(Zao k _ _ hy121),(by decide),hb122,(Zao k _ _ hy123),(by decide),hb124,trivial⟩ ?_
 exact ⟨false,kr,kr,hF⟩ } }
 {
 have hF:=Zj hF hb122
 refine WA.reg [0,3,4,16] [0] [(1,.callR [0] (one (.int .u8 y121))),(3,.bool false)] (env':=[(0,.val false [.ptr 0 1 0 0]),(3,one (.int .i64 v119)),(4,one (.int .i64 v120)),(16,one (.bool false))]) (os':=[(0,.box (pvL (Zc v118)))]) (O:=[Sim Tryz.prog GL0 100 [.val false [.ptr 0 1 0 0]] [.box (pvL (Zc v118))] (one (.int .u8 y121)) [.box (pvL (Zc v118))],([0]:List Nat).Nodup,(decide (y121≥48))=false]) kr (sound _ _) ⟨(Zao k _ _ hy121),(by decide),hb122,trivial⟩ ?_
 exact ⟨false,kr,kr,hF⟩ } }
def Zgb (v1:Ze) (y101:Int×Zf) (v108:Int) (v117:Zf):Option (Ze×Zf):=
  (some ((⟨4,([]:List Zb),([v1]:List Ze),y101.1,v108⟩:Ze),v117))
def Zc2 (v1:Ze) (y101:Int×Zf) (v108:Int) (v111:Zf) (v115:Bool):Option (Ze×Zf):=
  cond v115 ((Zgb v1 y101 v108 ({ v111 with f_Long:=true }:Zf))) ((Zgb v1 y101 v108 v111))
def Zef (v1:Ze) (y101:Int×Zf) (v108:Int) (v111:Zf):Option (Ze×Zf):=
  cond (decide (y101.1 > 20)) ((Zc2 v1 y101 v108 v111 true)) (cond (decide (v108 > 20)) ((Zc2 v1 y101 v108 v111 true)) (cond (decide (v108≥0)) ((Zc2 v1 y101 v108 v111 (decide (v108<y101.1)))) ((Zc2 v1 y101 v108 v111 false))))
def ZbA (k:Nat) (v1:Ze) (y101:Int×Zf) (v107:Zf) (v108:Int):Option (Ze×Zf):=
  (F74 k v107 125).bind fun y109=>(cond (!y109.1) ((Zef v1 y101 v108 ({ y109.2 with f_Bad:=true }:Zf))) ((Zef v1 y101 v108 y109.2)))
def F120 (k:Nat) (v0:Zf) (v1:Ze):Option (Ze×Zf):=
  (F148 k v0).bind fun y101=>((F74 k y101.2 44).bind fun y102=>(cond y102.1 ((F100 k y102.2).bind fun y104=>(cond (y104 != 125) ((F148 k y102.2).bind fun y106=>(ZbA k v1 y101 y106.2 y106.1)) ((ZbA k v1 y101 y102.2 (-1))))) ((ZbA k v1 y101 y102.2 y101.1))))
theorem ZnU (k:Nat) (v0:Zf) (v1:Ze) (r:Ze×Zf) (hF:F120 k v0 v1=some r):Sim Tryz.prog GL0 120 [.val false [.ptr 0 1 0 0],.val true (pvL (Zd v1))] [.box (pvL (Zc v0))] (.val true (pvL (Zd r.1))) [.box (pvL (Zc r.2))]:=by
 refine ZB [0] Tryz.func120 rfl kr kr ?_
 show WA _ _ 46 _ _ _
 refine WA.seq ?_
 refine WA.reg [0,3,4] [0,103,104] [(0,.obj 103),(1,.obj 104)] (env':=[(0,.val false [.ptr 0 1 0 0]),(3,.val false [.ptr 103 1 0 0]),(4,.val false [.ptr 104 1 0 0])]) (os':=[(0,.box (pvL (Zc v0))),(103,.box (pvL (Zd v1))),(104,.box (pvL (Zd (⟨0,([]:List Zb),([]:List Ze),0,0⟩:Ze))))]) (O:=[]) kr (sound _ _) trivial ?_
 refine WA.seq ?_
 obtain ⟨y101,hy101,hF⟩:=bind_some hF
 refine WA.reg [0,3,4,5] [0,103,104] [(1,.call [0] (one (.int .i64 y101.1)) [.box (pvL (Zc y101.2))] [])] (env':=[(0,.val false [.ptr 0 1 0 0]),(3,.val false [.ptr 103 1 0 0]),(4,.val false [.ptr 104 1 0 0]),(5,one (.int .i64 y101.1))]) (os':=[(0,.box (pvL (Zc y101.2))),(103,.box (pvL (Zd v1))),(104,.box (pvL (Zd (⟨0,([]:List Zb),([]:List Ze),0,0⟩:Ze))))]) (O:=[Sim Tryz.prog GL0 148 [.val false [.ptr 0 1 0 0]] [.box (pvL (Zc v0))] (one (.int .i64 y101.1)) [.box (pvL (Zc y101.2))],([0]:List Nat).Nodup]) kr (sound _ _) ⟨(Zk3 k _ _ hy101),(by decide),trivial⟩ ?_
 refine WA.seq ?_
 refine WA.reg [0,3,4,5,6] [0,103,104] [] (env':=[(0,.val false [.ptr 0 1 0 0]),(3,.val false [.ptr 103 1 0 0]),(4,.val false [.ptr 104 1 0 0]),(5,one (.int .i64 y101.1)),(6,one (.int .i64 y101.1))]) (os':=[(0,.box (pvL (Zc y101.2))),(103,.box (pvL (Zd v1))),(104,.box (pvL (Zd (⟨0,([]:List Zb),([]:List Ze),0,0⟩:Ze))))]) (O:=[]) kr (sound _ _) trivial ?_
 refine WA.join (fun s_=>∃(v107:Zf) (v108:Int),Zl s_.env [0,3,4,5,6]=[(0,.val false [.ptr 0 1 0 0]),(3,.val false [.ptr 103 1 0 0]),(4,.val false [.ptr 104 1 0 0]),(5,one (.int .i64 y101.1)),(6,one (.int .i64 v108))]∧Zl s_.os [0,103,104]=[(0,.box (pvL (Zc v107))),(103,.box (pvL (Zd v1))),(104,.box (pvL (Zd (⟨0,([]:List Zb),([]:List Ze),0,0⟩:Ze))))]∧ZbA k v1 y101 v107 v108=some r) ?_ ?_
 {
 rintro s_ ⟨v107,v108,he,ho,hF⟩
 refine WA.keep _ _ he ho ?_
 clear he ho
 refine WA.join (fun s_=>∃(v111:Zf),Zl s_.env [0,3,4,5,6]=[(0,.val false [.ptr 0 1 0 0]),(3,.val false [.ptr 103 1 0 0]),(4,.val false [.ptr 104 1 0 0]),(5,one (.int .i64 y101.1)),(6,one (.int .i64 v108))]∧Zl s_.os [0,103,104]=[(0,.box (pvL (Zc v111))),(103,.box (pvL (Zd v1))),(104,.box (pvL (Zd (⟨0,([]:List Zb),([]:List Ze),0,0⟩:Ze))))]∧Zef v1 y101 v108 v111=some r) ?_ ?_
 {
 rintro s_ ⟨v111,he,ho,hF⟩
 refine WA.keep _ _ he ho ?_
 clear he ho
 refine WA.join (fun s_=>∃(v117:Zf),Zl s_.env [3,4,5,6]=[(3,.val false [.ptr 103 1 0 0]),(4,.val false [.ptr 104 1 0 0]),(5,one (.int .i64 y101.1)),(6,one (.int .i64 v108))]∧Zl s_.os [0,103,104]=[(0,.box (pvL (Zc v117))),(103,.box (pvL (Zd v1))),(104,.box (pvL (Zd (⟨0,([]:List Zb),([]:List Ze),0,0⟩:Ze))))]∧Zgb v1 y101 v108 v117=some r) ?_ ?_
 {
 rintro s_ ⟨v117,he,ho,hF⟩
 refine WA.keep _ _ he ho ?_
 clear he ho
 refine WA.seq ?_
 refine WA.rm (α:=(List (List PV))) (raw:=[(Zd v1)]) (can:=(Zm ([v1]:List Ze))) (fun m_=>([(4,.val false [.ptr 104 1 0 0])],[(0,.box (pvL (Zc v117))),(104,.box (pvL ([.int .i64 4] ++ [.sl (([]:List Zb).map Za)] ++ [.sl m_] ++ [.int .i64 y101.1] ++ [.int .i64 v108])))],[])) (zm) [4] [0,104] [] kr (sound _ _) trivial ?_
 refine WA.ret ?_
 obtain rfl:=Option.some.inj hF
 exact Zp (.val true (pvL (Zd (⟨4,([]:List Zb),([v1]:List Ze),y101.1,v108⟩:Ze)))) [.box (pvL (Zc v117))] kr kr kr kr (by decide) rfl rfl }
 {
 refine WA.join (fun s_=>∃(v115:Bool),Zl s_.env [0,3,4,5,6,37]=[(0,.val false [.ptr 0 1 0 0]),(3,.val false [.ptr 103 1 0 0]),(4,.val false [.ptr 104 1 0 0]),(5,one (.int .i64 y101.1)),(6,one (.int .i64 v108)),(37,one (.bool v115))]∧Zl s_.os [0,103,104]=[(0,.box (pvL (Zc v111))),(103,.box (pvL (Zd v1))),(104,.box (pvL (Zd (⟨0,([]:List Zb),([]:List Ze),0,0⟩:Ze))))]∧Zc2 v1 y101 v108 v111 v115=some r) ?_ ?_
 {
 rintro s_ ⟨v115,he,ho,hF⟩
 refine WA.keep _ _ he ho ?_
 clear he ho
 refine WA.cond (b:=v115) rfl (fun hb116=>?_) (fun hb116=>?_)
 {
 have hF:=Zk hF hb116
 refine WA.reg [3,4,5,6] [0,103,104] [] (env':=[(3,.val false [.ptr 103 1 0 0]),(4,.val false [.ptr 104 1 0 0]),(5,one (.int .i64 y101.1)),(6,one (.int .i64 v108))]) (os':=[(0,.box (pvL (Zc ({ v111 with f_Long:=true }:Zf)))),(103,.box (pvL (Zd v1))),(104,.box (pvL (Zd (⟨0,([]:List Zb),([]:List Ze),0,0⟩:Ze))))]) (O:=[]) kr (sound _ _) trivial ?_
 exact ⟨({ v111 with f_Long:=true }:Zf),kr,kr,hF⟩ }
 {
 have hF:=Zj hF hb116
 refine WA.skip ?_
 exact ⟨v111,kr,kr,hF⟩ } }
 {
 rcases Bool.eq_false_or_eq_true (decide (y101.1 > 20)) with hb112 | hb112
 {
 have hF:=Zk hF hb112
 refine WA.reg [0,3,4,5,6,37] [0,103,104] [(2,.bool true)] (env':=[(0,.val false [.ptr 0 1 0 0]),(3,.val false [.ptr 103 1 0 0]),(4,.val false [.ptr 104 1 0 0]),(5,one (.int .i64 y101.1)),(6,one (.int .i64 v108)),(37,one (.bool true))]) (os':=[(0,.box (pvL (Zc v111))),(103,.box (pvL (Zd v1))),(104,.box (pvL (Zd (⟨0,([]:List Zb),([]:List Ze),0,0⟩:Ze))))]) (O:=[(decide (y101.1 > 20))=true]) kr (sound _ _) ⟨hb112,trivial⟩ ?_
 exact ⟨true,kr,kr,hF⟩ }
 {
 have hF:=Zj hF hb112
 rcases Bool.eq_false_or_eq_true (decide (v108 > 20)) with hb113 | hb113
 {
 have hF:=Zk hF hb113
 refine WA.reg [0,3,4,5,6,37] [0,103,104] [(2,.bool false),(6,.bool true)] (env':=[(0,.val false [.ptr 0 1 0 0]),(3,.val false [.ptr 103 1 0 0]),(4,.val false [.ptr 104 1 0 0]),(5,one (.int .i64 y101.1)),(6,one (.int .i64 v108)),(37,one (.bool true))]) (os':=[(0,.box (pvL (Zc v111))),(103,.box (pvL (Zd v1))),(104,.box (pvL (Zd (⟨0,([]:List Zb),([]:List Ze),0,0⟩:Ze))))]) (O:=[(decide (y101.1 > 20))=false,(decide (v108 > 20))=true]) kr (sound _ _) ⟨hb112,hb113,trivial⟩ ?_
 exact ⟨true,kr,kr,hF⟩ }
 {
 have hF:=Zj hF hb113
 rcases Bool.eq_false_or_eq_true (decide (v108≥0)) with hb114 | hb114
 {
 have hF:=Zk hF hb114
 refine WA.reg [0,3,4,5,6,37] [0,103,104] [(2,.bool false),(6,.bool false),(9,.bool true)] (env':=[(0,.val false [.ptr 0 1 0 0]),(3,.val false [.ptr 103 1 0 0]),(4,.val false [.ptr 104 1 0 0]),(5,one (.int .i64 y101.1)),(6,one (.int .i64 v108)),(37,one (.bool (decide (v108<y101.1))))]) (os':=[(0,.box (pvL (Zc v111))),(103,.box (pvL (Zd v1))),(104,.box (pvL (Zd (⟨0,([]:List Zb),([]:List Ze),0,0⟩:Ze))))]) (O:=[(decide (y101.1 > 20))=false,(decide (v108 > 20))=false,(decide (v108≥0))=true]) kr (sound _ _) ⟨hb112,hb113,hb114,trivial⟩ ?_
 exact ⟨(decide (v108<y101.1)),kr,kr,hF⟩ }
 {
 have hF:=Zj hF hb114
 refine WA.reg [0,3,4,5,6,37] [0,103,104] [(2,.bool false),(6,.bool false),(9,.bool false)] (env':=[(0,.val false [.ptr 0 1 0 0]),(3,.val false [.ptr 103 1 0 0]),(4,.val false [.ptr 104 1 0 0]),(5,one (.int .i64 y101.1)),(6,one (.int .i64 v108)),(37,one (.bool false))]) (os':=[(0,.box (pvL (Zc v111))),(103,.box (pvL (Zd v1))),(104,.box (pvL (Zd (⟨0,([]:List Zb),([]:List Ze),0,0⟩:Ze))))]) (O:=[(decide (y101.1 > 20))=false,(decide (v108 > 20))=false,(decide (v108≥0))=false]) kr (sound _ _) ⟨hb112,hb113,hb114,trivial⟩ ?_
 exact ⟨false,kr,kr,hF⟩ } } } } } }
 {
 refine WA.seq ?_
 obtain ⟨y109,hy109,hF⟩:=bind_some hF
 refine WA.reg [0,3,4,5,6,19] [0,103,104] [(1,.call [0] (one (.bool y109.1)) [.box (pvL (Zc y109.2))] [])] (env':=[(0,.val false [.ptr 0 1 0 0]),(3,.val false [.ptr 103 1 0 0]),(4,.val false [.ptr 104 1 0 0]),(5,one (.int .i64 y101.1)),(6,one (.int .i64 v108)),(19,one (.bool (!y109.1)))]) (os':=[(0,.box (pvL (Zc y109.2))),(103,.box (pvL (Zd v1))),(104,.box (pvL (Zd (⟨0,([]:List Zb),([]:List Ze),0,0⟩:Ze))))]) (O:=[Sim Tryz.prog GL0 74 [.val false [.ptr 0 1 0 0],one (.int .u8 125)] [.box (pvL (Zc v107))] (one (.bool y109.1)) [.box (pvL (Zc y109.2))],([0]:List Nat).Nodup]) kr (sound _ _) ⟨(Zat k _ _ _ hy109),(by decide),trivial⟩ ?_
 refine WA.cond (b:=(!y109.1)) rfl (fun hb110=>?_) (fun hb110=>?_)
 {
 have hF:=Zk hF hb110
 refine WA.reg [0,3,4,5,6] [0,103,104] [] (env':=[(0,.val false [.ptr 0 1 0 0]),(3,.val false [.ptr 103 1 0 0]),(4,.val false [.ptr 104 1 0 0]),(5,one (.int .i64 y101.1)),(6,one (.int .i64 v108))]) (os':=[(0,.box (pvL (Zc ({ y109.2 with f_Bad:=true }:Zf)))),(103,.box (pvL (Zd v1))),(104,.box (pvL (Zd (⟨0,([]:List Zb),([]:List Ze),0,0⟩:Ze))))]) (O:=[]) kr (sound _ _) trivial ?_
 exact ⟨({ y109.2 with f_Bad:=true }:Zf),kr,kr,hF⟩ }
 {
 have hF:=Zj hF hb110
 refine WA.skip ?_
 exact ⟨y109.2,kr,kr,hF⟩ } } }
 {
 refine WA.seq ?_
 obtain ⟨y102,hy102,hF⟩:=bind_some hF
 refine WA.reg [0,3,4,5,6,11] [0,103,104] [(1,.call [0] (one (.bool y102.1)) [.box (pvL (Zc y102.2))] [])] (env':=[(0,.val false [.ptr 0 1 0 0]),(3,.val false [.ptr 103 1 0 0]),(4,.val false [.ptr 104 1 0 0]),(5,one (.int .i64 y101.1)),(6,one (.int .i64 y101.1)),(11,one (.bool y102.1))]) (os':=[(0,.box (pvL (Zc y102.2))),(103,.box (pvL (Zd v1))),(104,.box (pvL (Zd (⟨0,([]:List Zb),([]:List Ze),0,0⟩:Ze))))]) (O:=[Sim Tryz.prog GL0 74 [.val false [.ptr 0 1 0 0],one (.int .u8 44)] [.box (pvL (Zc y101.2))] (one (.bool y102.1)) [.box (pvL (Zc y102.2))],([0]:List Nat).Nodup]) kr (sound _ _) ⟨(Zat k _ _ _ hy102),(by decide),trivial⟩ ?_
 refine WA.cond (b:=y102.1) rfl (fun hb103=>?_) (fun hb103=>?_)
 {
 have hF:=Zk hF hb103
 refine WA.seq ?_
 refine WA.reg [0,3,4,5,6] [0,103,104] [] (env':=[(0,.val false [.ptr 0 1 0 0]),(3,.val false [.ptr 103 1 0 0]),(4,.val false [.ptr 104 1 0 0]),(5,one (.int .i64 y101.1)),(6,one (.int .i64 (-1)))]) (os':=[(0,.box (pvL (Zc y102.2))),(103,.box (pvL (Zd v1))),(104,.box (pvL (Zd (⟨0,([]:List Zb),([]:List Ze),0,0⟩:Ze))))]) (O:=[]) kr (sound _ _) trivial ?_
 refine WA.seq ?_
 obtain ⟨y104,hy104,hF⟩:=bind_some hF
 refine WA.reg [0,3,4,5,6,14] [0,103,104] [(1,.callR [0] (one (.int .u8 y104)))] (env':=[(0,.val false [.ptr 0 1 0 0]),(3,.val false [.ptr 103 1 0 0]),(4,.val false [.ptr 104 1 0 0]),(5,one (.int .i64 y101.1)),(6,one (.int .i64 (-1))),(14,one (.bool (y104 != 125)))]) (os':=[(0,.box (pvL (Zc y102.2))),(103,.box (pvL (Zd v1))),(104,.box (pvL (Zd (⟨0,([]:List Zb),([]:List Ze),0,0⟩:Ze))))]) (O:=[Sim Tryz.prog GL0 100 [.val false [.ptr 0 1 0 0]] [.box (pvL (Zc y102.2))] (one (.int .u8 y104)) [.box (pvL (Zc y102.2))],([0]:List Nat).Nodup]) kr (sound _ _) ⟨(Zao k _ _ hy104),(by decide),trivial⟩ ?_
 refine WA.cond (b:=(y104 != 125)) rfl (fun hb105=>?_) (fun hb105=>?_)
 {
 have hF:=Zk hF hb105
 obtain ⟨y106,hy106,hF⟩:=bind_some hF
 refine WA.reg [0,3,4,5,6] [0,103,104] [(1,.call [0] (one (.int .i64 y106.1)) [.box (pvL (Zc y106.2))] [])] (env':=[(0,.val false [.ptr 0 1 0 0]),(3,.val false [.ptr 103 1 0 0]),(4,.val false [.ptr 104 1 0 0]),(5,one (.int .i64 y101.1)),(6,one (.int .i64 y106.1))]) (os':=[(0,.box (pvL (Zc y106.2))),(103,.box (pvL (Zd v1))),(104,.box (pvL (Zd (⟨0,([]:List Zb),([]:List Ze),0,0⟩:Ze))))]) (O:=[Sim Tryz.prog GL0 148 [.val false [.ptr 0 1 0 0]] [.box (pvL (Zc y102.2))] (one (.int .i64 y106.1)) [.box (pvL (Zc y106.2))],([0]:List Nat).Nodup]) kr (sound _ _) ⟨(Zk3 k _ _ hy106),(by decide),trivial⟩ ?_
 exact ⟨y106.2,y106.1,kr,kr,hF⟩ }
 {
 have hF:=Zj hF hb105
 refine WA.skip ?_
 exact ⟨y102.2,(-1),kr,kr,hF⟩ } }
 {
 have hF:=Zj hF hb103
 refine WA.skip ?_
 exact ⟨y102.2,y101.1,kr,kr,hF⟩ } }
def Zda (v0:Zf) (y101:Int×Int) (v103:Bool):Option (Int×Zf):=
  cond v103 (((some (0,({ v0 with f_Bad:=true }:Zf))))) ((((some (y101.1,({ v0 with f_I:=(w64 (v0.f_I+y101.2)) }:Zf))))))
def F147 (k:Nat) (v0:Zf):Option (Int×Zf):=
  (F46 k v0.f_S v0.f_I).bind fun y101=>(cond (decide (y101.1<0)) ((Zda v0 y101 true)) ((Zda v0 y101 (y101.2 == 0))))
theorem Zk2 (k:Nat) (v0:Zf) (r:Int×Zf) (hF:F147 k v0=some r):Sim Tryz.prog GL0 147 [.val false [.ptr 0 1 0 0]] [.box (pvL (Zc v0))] (one (.int .i64 r.1)) [.box (pvL (Zc r.2))]:=by
 refine ZB [0] Tryz.func147 rfl kr kr ?_
 show WA _ _ 36 _ _ _
 refine WA.seq ?_
 refine WA.reg [0] [0] [] (env':=[(0,.val false [.ptr 0 1 0 0])]) (os':=[(0,.box (pvL (Zc v0)))]) (O:=[]) kr (sound _ _) trivial ?_
 refine WA.seq ?_
 obtain ⟨y101,hy101,hF⟩:=bind_some hF
 refine WA.regD kr [0,3,4] [0] [(8,.callR [] (.tup [(false,[.pv (.int .i64 y101.1)]),(false,[.pv (.int .i64 y101.2)])]))] (env':=[(0,.val false [.ptr 0 1 0 0]),(3,one (.int .i64 y101.1)),(4,one (.int .i64 y101.2))]) (os':=[(0,.box (pvL (Zc v0)))]) (O:=[Sim Tryz.prog GL0 46 [one (.str v0.f_S),one (.int .i64 v0.f_I)] [] (.tup [(false,[.pv (.int .i64 y101.1)]),(false,[.pv (.int .i64 y101.2)])]) [],([]:List Nat).Nodup]) kr kr (sound _ _) ⟨(Zl2 k _ _ _ hy101),(by decide),trivial⟩ ?_
 refine WA.seq ?_
 refine WA.join (fun s_=>∃(v103:Bool),Zl s_.env [0,3,4,22]=[(0,.val false [.ptr 0 1 0 0]),(3,one (.int .i64 y101.1)),(4,one (.int .i64 y101.2)),(22,one (.bool v103))]∧Zl s_.os [0]=[(0,.box (pvL (Zc v0)))]∧Zda v0 y101 v103=some r) ?_ ?_
 {
 rintro s_ ⟨v103,he,ho,hF⟩
 refine WA.keep _ _ he ho ?_
 clear he ho
 refine WA.cond (b:=v103) rfl (fun hb104=>?_) (fun hb104=>?_)
 {
 have hF:=Zk hF hb104
 refine WA.seq ?_
 refine WA.reg [] [0] [] (env':=[]) (os':=[(0,.box (pvL (Zc ({ v0 with f_Bad:=true }:Zf))))]) (O:=[]) kr (sound _ _) trivial ?_
 refine WA.seq ?_
 refine WA.reg [2] [0] [] (env':=[(2,one (.int .i64 0))]) (os':=[(0,.box (pvL (Zc ({ v0 with f_Bad:=true }:Zf))))]) (O:=[]) kr (sound _ _) trivial ?_
 refine WA.ret ?_
 obtain rfl:=Option.some.inj hF
 exact Zp (one (.int .i64 0)) [.box (pvL (Zc ({ v0 with f_Bad:=true }:Zf)))] kr kr kr kr (by decide) rfl rfl }
 {
 have hF:=Zj hF hb104
 refine WA.skip ?_
 refine WA.seq ?_
 refine WA.reg [3] [0] [] (env':=[(3,one (.int .i64 y101.1))]) (os':=[(0,.box (pvL (Zc ({ v0 with f_I:=(w64 (v0.f_I+y101.2)) }:Zf))))]) (O:=[]) kr (sound _ _) trivial ?_
 refine WA.seq ?_
 refine WA.reg [2] [0] [] (env':=[(2,one (.int .i64 y101.1))]) (os':=[(0,.box (pvL (Zc ({ v0 with f_I:=(w64 (v0.f_I+y101.2)) }:Zf))))]) (O:=[]) kr (sound _ _) trivial ?_
 refine WA.ret ?_
 obtain rfl:=Option.some.inj hF
 exact Zp (one (.int .i64 y101.1)) [.box (pvL (Zc ({ v0 with f_I:=(w64 (v0.f_I+y101.2)) }:Zf)))] kr kr kr kr (by decide) rfl rfl } }
 {
 rcases Bool.eq_false_or_eq_true (decide (y101.1<0)) with hb102 | hb102
 {
 have hF:=Zk hF hb102
 refine WA.reg [0,3,4,22] [0] [(2,.bool true)] (env':=[(0,.val false [.ptr 0 1 0 0]),(3,one (.int .i64 y101.1)),(4,one (.int .i64 y101.2)),(22,one (.bool true))]) (os':=[(0,.box (pvL (Zc v0)))]) (O:=[(decide (y101.1<0))=true]) kr (sound _ _) ⟨hb102,trivial⟩ ?_
 exact ⟨true,kr,kr,hF⟩ }
 {
 have hF:=Zj hF hb102
 refine WA.reg [0,3,4,22] [0] [(2,.bool false)] (env':=[(0,.val false [.ptr 0 1 0 0]),(3,one (.int .i64 y101.1)),(4,one (.int .i64 y101.2)),(22,one (.bool (y101.2 == 0)))]) (os':=[(0,.box (pvL (Zc v0)))]) (O:=[(decide (y101.1<0))=false]) kr (sound _ _) ⟨hb102,trivial⟩ ?_
 exact ⟨(y101.2 == 0),kr,kr,hF⟩ } }
def Zb6 (k:Nat) (v108:Zf):Option (Int×Zf):=
  (F147 k v108).bind fun y109=>(some (y109.1,y109.2))
def ZbG (k:Nat) (y101:Bool×Zf) (v106:Bool):Option (Int×Zf):=
  cond v106 ((Zb6 k ({ y101.2 with f_Bad:=true }:Zf))) ((Zb6 k y101.2))
def Zgr (y101:Bool×Zf) (y110:Int) (v116:Bool):Option (Int×Zf):=
  cond v116 ((some ((w64 y110),({ y101.2 with f_I:=(w64 (y101.2.f_I+1)) }:Zf)))) ((((some (0,({ ({ y101.2 with f_I:=(w64 (y101.2.f_I+1)) }:Zf) with f_Bad:=true }:Zf))))))
def F173 (k:Nat) (v0:Zf):Option (Int×Zf):=
  (F74 k v0 92).bind fun y101=>(cond (!y101.1) (cond (decide (y101.2.f_I<(y101.2.f_S.length:Int))) ((F100 k y101.2).bind fun y104=>(F146 k ([93,91,94,45]:List UInt8) y104).bind fun y105=>(ZbG k y101 y105)) ((ZbG k y101 false))) ((F100 k y101.2).bind fun y110=>(((cond (y110 == 100) ((some ((-1),({ y101.2 with f_I:=(w64 (y101.2.f_I+1)) }:Zf)))) ((cond (y110 == 110) ((some (10,({ y101.2 with f_I:=(w64 (y101.2.f_I+1)) }:Zf)))) ((cond (y110 == 116) ((some (9,({ y101.2 with f_I:=(w64 (y101.2.f_I+1)) }:Zf)))) (cond (y110 != 0) ((F146 k ([92,46,91,93,40,41,123,125,42,43,63,124,94,36,45,47]:List UInt8) y110).bind fun y115=>(Zgr y101 y110 y115)) ((Zgr y101 y110 false))))))))))))
theorem Zk5 (k:Nat) (v0:Zf) (r:Int×Zf) (hF:F173 k v0=some r):Sim Tryz.prog GL0 173 [.val false [.ptr 0 1 0 0]] [.box (pvL (Zc v0))] (one (.int .i64 r.1)) [.box (pvL (Zc r.2))]:=by
 refine ZB [0] Tryz.func173 rfl kr kr ?_
 show WA _ _ 57 _ _ _
 refine WA.seq ?_
 refine WA.reg [0] [0] [] (env':=[(0,.val false [.ptr 0 1 0 0])]) (os':=[(0,.box (pvL (Zc v0)))]) (O:=[]) kr (sound _ _) trivial ?_
 refine WA.seq ?_
 refine WA.seq ?_
 obtain ⟨y101,hy101,hF⟩:=bind_some hF
 refine WA.reg [0,6] [0] [(1,.call [0] (one (.bool y101.1)) [.box (pvL (Zc y101.2))] [])] (env':=[(0,.val false [.ptr 0 1 0 0]),(6,one (.bool (!y101.1)))]) (os':=[(0,.box (pvL (Zc y101.2)))]) (O:=[Sim Tryz.prog GL0 74 [.val false [.ptr 0 1 0 0],one (.int .u8 92)] [.box (pvL (Zc v0))] (one (.bool y101.1)) [.box (pvL (Zc y101.2))],([0]:List Nat).Nodup]) kr (sound _ _) ⟨(Zat k _ _ _ hy101),(by decide),trivial⟩ ?_
 refine WA.cond (b:=(!y101.1)) rfl (fun hb102=>?_) (fun hb102=>?_)
 {
 have hF:=Zk hF hb102
 refine WA.join (fun s_=>∃(v108:Zf),Zl s_.env [0]=[(0,.val false [.ptr 0 1 0 0])]∧Zl s_.os [0]=[(0,.box (pvL (Zc v108)))]∧Zb6 k v108=some r) ?_ ?_
 {
 rintro s_ ⟨v108,he,ho,hF⟩
 refine WA.keep _ _ he ho ?_
 clear he ho
 refine WA.seq ?_
 obtain ⟨y109,hy109,hF⟩:=bind_some hF
 refine WA.reg [2] [0] [(1,.call [0] (one (.int .i64 y109.1)) [.box (pvL (Zc y109.2))] [])] (env':=[(2,one (.int .i64 y109.1))]) (os':=[(0,.box (pvL (Zc y109.2)))]) (O:=[Sim Tryz.prog GL0 147 [.val false [.ptr 0 1 0 0]] [.box (pvL (Zc v108))] (one (.int .i64 y109.1)) [.box (pvL (Zc y109.2))],([0]:List Nat).Nodup]) kr (sound _ _) ⟨(Zk2 k _ _ hy109),(by decide),trivial⟩ ?_
 refine WA.ret ?_
 obtain rfl:=Option.some.inj hF
 exact Zp (one (.int .i64 y109.1)) [.box (pvL (Zc y109.2))] kr kr kr kr (by decide) rfl rfl }
 {
 refine WA.join (fun s_=>∃(v106:Bool),Zl s_.env [0,21]=[(0,.val false [.ptr 0 1 0 0]),(21,one (.bool v106))]∧Zl s_.os [0]=[(0,.box (pvL (Zc y101.2)))]∧ZbG k y101 v106=some r) ?_ ?_
 {
 rintro s_ ⟨v106,he,ho,hF⟩
 refine WA.keep _ _ he ho ?_
 clear he ho
 refine WA.cond (b:=v106) rfl (fun hb107=>?_) (fun hb107=>?_)
 {
 have hF:=Zk hF hb107
 refine WA.reg [0] [0] [] (env':=[(0,.val false [.ptr 0 1 0 0])]) (os':=[(0,.box (pvL (Zc ({ y101.2 with f_Bad:=true }:Zf))))]) (O:=[]) kr (sound _ _) trivial ?_
 exact ⟨({ y101.2 with f_Bad:=true }:Zf),kr,kr,hF⟩ }
 {
 have hF:=Zj hF hb107
 refine WA.skip ?_
 exact ⟨y101.2,kr,kr,hF⟩ } }
 {
 rcases Bool.eq_false_or_eq_true (decide (y101.2.f_I<(y101.2.f_S.length:Int))) with hb103 | hb103
 {
 have hF:=Zk hF hb103
 obtain ⟨y104,hy104,hF⟩:=bind_some hF
 obtain ⟨y105,hy105,hF⟩:=bind_some hF
 refine WA.regD kr [0,21] [0] [(10,.bool true),(12,.callR [0] (one (.int .u8 y104))),(13,.callR [] (one (.bool y105)))] (env':=[(0,.val false [.ptr 0 1 0 0]),(21,one (.bool y105))]) (os':=[(0,.box (pvL (Zc y101.2)))]) (O:=[(decide (y101.2.f_I<(y101.2.f_S.length:Int)))=true,Sim Tryz.prog GL0 100 [.val false [.ptr 0 1 0 0]] [.box (pvL (Zc y101.2))] (one (.int .u8 y104)) [.box (pvL (Zc y101.2))],([0]:List Nat).Nodup,Sim Tryz.prog GL0 146 [one (.str ([93,91,94,45]:List UInt8)),one (.int .u8 y104)] [] (one (.bool y105)) [],([]:List Nat).Nodup]) kr kr (sound _ _) ⟨hb103,(Zao k _ _ hy104),(by decide),(Zgj k _ _ _ hy105),(by decide),trivial⟩ ?_
 exact ⟨y105,kr,kr,hF⟩ }
 {
 have hF:=Zj hF hb103
 refine WA.regD kr [0,21] [0] [(10,.bool false),(12,.callR [] (.tup [])),(13,.callR [] (.tup []))] (env':=[(0,.val false [.ptr 0 1 0 0]),(21,one (.bool false))]) (os':=[(0,.box (pvL (Zc y101.2)))]) (O:=[(decide (y101.2.f_I<(y101.2.f_S.length:Int)))=false]) kr kr (sound _ _) ⟨hb103,trivial⟩ ?_
 exact ⟨false,kr,kr,hF⟩ } } } }
 {
 have hF:=Zj hF hb102
 refine WA.skip ?_
 refine WA.seq ?_
 obtain ⟨y110,hy110,hF⟩:=bind_some hF
 refine WA.reg [0,3] [0] [(1,.callR [0] (one (.int .u8 y110)))] (env':=[(0,.val false [.ptr 0 1 0 0]),(3,one (.int .u8 y110))]) (os':=[(0,.box (pvL (Zc y101.2)))]) (O:=[Sim Tryz.prog GL0 100 [.val false [.ptr 0 1 0 0]] [.box (pvL (Zc y101.2))] (one (.int .u8 y110)) [.box (pvL (Zc y101.2))],([0]:List Nat).Nodup]) kr (sound _ _) ⟨(Zao k _ _ hy110),(by decide),trivial⟩ ?_
 refine WA.seq ?_
 refine WA.reg [0,3] [0] [] (env':=[(0,.val false [.ptr 0 1 0 0]),(3,one (.int .u8 y110))]) (os':=[(0,.box (pvL (Zc ({ y101.2 with f_I:=(w64 (y101.2.f_I+1)) }:Zf))))]) (O:=[]) kr (sound _ _) trivial ?_
 refine WA.seq ?_
 refine WA.block ?_
 refine WA.seq ?_
 refine WA.reg [0,3,36] [0] [] (env':=[(0,.val false [.ptr 0 1 0 0]),(3,one (.int .u8 y110)),(36,one (.bool (y110 == 100)))]) (os':=[(0,.box (pvL (Zc ({ y101.2 with f_I:=(w64 (y101.2.f_I+1)) }:Zf))))]) (O:=[]) kr (sound _ _) trivial ?_
 refine WA.cond (b:=(y110 == 100)) rfl (fun hb111=>?_) (fun hb111=>?_)
 {
 have hF:=Zk hF hb111
 refine WA.seq ?_
 refine WA.reg [2] [0] [] (env':=[(2,one (.int .i64 (-1)))]) (os':=[(0,.box (pvL (Zc ({ y101.2 with f_I:=(w64 (y101.2.f_I+1)) }:Zf))))]) (O:=[]) kr (sound _ _) trivial ?_
 refine WA.ret ?_
 obtain rfl:=Option.some.inj hF
 exact Zp (one (.int .i64 (-1))) [.box (pvL (Zc ({ y101.2 with f_I:=(w64 (y101.2.f_I+1)) }:Zf)))] kr kr kr kr (by decide) rfl rfl }
 {
 have hF:=Zj hF hb111
 refine WA.seq ?_
 refine WA.reg [0,3,39] [0] [] (env':=[(0,.val false [.ptr 0 1 0 0]),(3,one (.int .u8 y110)),(39,one (.bool (y110 == 110)))]) (os':=[(0,.box (pvL (Zc ({ y101.2 with f_I:=(w64 (y101.2.f_I+1)) }:Zf))))]) (O:=[]) kr (sound _ _) trivial ?_
 refine WA.cond (b:=(y110 == 110)) rfl (fun hb112=>?_) (fun hb112=>?_)
 {
 have hF:=Zk hF hb112
 refine WA.seq ?_
 refine WA.reg [2] [0] [] (env':=[(2,one (.int .i64 10))]) (os':=[(0,.box (pvL (Zc ({ y101.2 with f_I:=(w64 (y101.2.f_I+1)) }:Zf))))]) (O:=[]) kr (sound _ _) trivial ?_
 refine WA.ret ?_
 obtain rfl:=Option.some.inj hF
 exact Zp (one (.int .i64 10)) [.box (pvL (Zc ({ y101.2 with f_I:=(w64 (y101.2.f_I+1)) }:Zf)))] kr kr kr kr (by decide) rfl rfl }
 {
 have hF:=Zj hF hb112
 refine WA.seq ?_
 refine WA.reg [0,3,42] [0] [] (env':=[(0,.val false [.ptr 0 1 0 0]),(3,one (.int .u8 y110)),(42,one (.bool (y110 == 116)))]) (os':=[(0,.box (pvL (Zc ({ y101.2 with f_I:=(w64 (y101.2.f_I+1)) }:Zf))))]) (O:=[]) kr (sound _ _) trivial ?_
 refine WA.cond (b:=(y110 == 116)) rfl (fun hb113=>?_) (fun hb113=>?_)
 {
 have hF:=Zk hF hb113
 refine WA.seq ?_
 refine WA.reg [2] [0] [] (env':=[(2,one (.int .i64 9))]) (os':=[(0,.box (pvL (Zc ({ y101.2 with f_I:=(w64 (y101.2.f_I+1)) }:Zf))))]) (O:=[]) kr (sound _ _) trivial ?_
 refine WA.ret ?_
 obtain rfl:=Option.some.inj hF
 exact Zp (one (.int .i64 9)) [.box (pvL (Zc ({ y101.2 with f_I:=(w64 (y101.2.f_I+1)) }:Zf)))] kr kr kr kr (by decide) rfl rfl }
 {
 have hF:=Zj hF hb113
 refine WA.join (fun s_=>∃(v116:Bool),Zl s_.env [0,3,45]=[(0,.val false [.ptr 0 1 0 0]),(3,one (.int .u8 y110)),(45,one (.bool v116))]∧Zl s_.os [0]=[(0,.box (pvL (Zc ({ y101.2 with f_I:=(w64 (y101.2.f_I+1)) }:Zf))))]∧Zgr y101 y110 v116=some r) ?_ ?_
 {
 rintro s_ ⟨v116,he,ho,hF⟩
 refine WA.keep _ _ he ho ?_
 clear he ho
 refine WA.cond (b:=v116) rfl (fun hb117=>?_) (fun hb117=>?_)
 {
 have hF:=Zk hF hb117
 refine WA.seq ?_
 refine WA.reg [2] [0] [] (env':=[(2,one (.int .i64 (w64 y110)))]) (os':=[(0,.box (pvL (Zc ({ y101.2 with f_I:=(w64 (y101.2.f_I+1)) }:Zf))))]) (O:=[]) kr (sound _ _) trivial ?_
 refine WA.ret ?_
 obtain rfl:=Option.some.inj hF
 exact Zp (one (.int .i64 (w64 y110))) [.box (pvL (Zc ({ y101.2 with f_I:=(w64 (y101.2.f_I+1)) }:Zf)))] kr kr kr kr (by decide) rfl rfl }
 {
 have hF:=Zj hF hb117
 refine WA.skip ?_
 refine WA.seq ?_
 refine WA.reg [] [0] [] (env':=[]) (os':=[(0,.box (pvL (Zc ({ ({ y101.2 with f_I:=(w64 (y101.2.f_I+1)) }:Zf) with f_Bad:=true }:Zf))))]) (O:=[]) kr (sound _ _) trivial ?_
 refine WA.seq ?_
 refine WA.reg [2] [0] [] (env':=[(2,one (.int .i64 0))]) (os':=[(0,.box (pvL (Zc ({ ({ y101.2 with f_I:=(w64 (y101.2.f_I+1)) }:Zf) with f_Bad:=true }:Zf))))]) (O:=[]) kr (sound _ _) trivial ?_
 refine WA.ret ?_
 obtain rfl:=Option.some.inj hF
 exact Zp (one (.int .i64 0)) [.box (pvL (Zc ({ ({ y101.2 with f_I:=(w64 (y101.2.f_I+1)) }:Zf) with f_Bad:=true }:Zf)))] kr kr kr kr (by decide) rfl rfl } }
 {
 rcases Bool.eq_false_or_eq_true (y110 != 0) with hb114 | hb114
 {
 have hF:=Zk hF hb114
 obtain ⟨y115,hy115,hF⟩:=bind_some hF
 refine WA.reg [0,3,45] [0] [(2,.bool true),(4,.callR [] (one (.bool y115)))] (env':=[(0,.val false [.ptr 0 1 0 0]),(3,one (.int .u8 y110)),(45,one (.bool y115))]) (os':=[(0,.box (pvL (Zc ({ y101.2 with f_I:=(w64 (y101.2.f_I+1)) }:Zf))))]) (O:=[(y110 != 0)=true,Sim Tryz.prog GL0 146 [one (.str ([92,46,91,93,40,41,123,125,42,43,63,124,94,36,45,47]:List UInt8)),one (.int .u8 y110)] [] (one (.bool y115)) [],([]:List Nat).Nodup]) kr (sound _ _) ⟨hb114,(Zgj k _ _ _ hy115),(by decide),trivial⟩ ?_
 exact ⟨y115,kr,kr,hF⟩ }
 {
 have hF:=Zj hF hb114
 refine WA.reg [0,3,45] [0] [(2,.bool false)] (env':=[(0,.val false [.ptr 0 1 0 0]),(3,one (.int .u8 y110)),(45,one (.bool false))]) (os':=[(0,.box (pvL (Zc ({ y101.2 with f_I:=(w64 (y101.2.f_I+1)) }:Zf))))]) (O:=[(y110 != 0)=false]) kr (sound _ _) ⟨hb114,trivial⟩ ?_
 exact ⟨false,kr,kr,hF⟩ } } } } } }
def Zgh (v156:Zf) (v163:List Zb):Option (Ze×Zf):=
  (some ((⟨1,v163,([]:List Ze),0,0⟩:Ze),v156))
def Zco (k:Nat) (y101:Bool×Zf) (v156:Zf) (v157:List Zb):Option (Ze×Zf):=
  (cond v156.f_Bad ((some ((⟨0,([]:List Zb),([]:List Ze),0,0⟩:Ze),v156))) ((F174 k v157).bind fun y160=>((cond y101.1 ((F175 k y160).bind fun y162=>(Zgh v156 y162)) ((Zgh v156 y160))))))
def Zbe (k:Nat) (self4:Zf→(List Zb)→Option (Ze×Zf)) (y101:Bool×Zf) (v151:Zf) (v152:List Zb):Option (Ze×Zf):=
  (F74 k v151 93).bind fun y154=>(cond y154.1 ((Zco k y101 y154.2 v152)) (self4 y154.2 v152))
def ZbC (k:Nat) (self4:Zf→(List Zb)→Option (Ze×Zf)) (y101:Bool×Zf) (v138:List Zb) (y141:Int×Zf) (v148:Zf) (v149:Int):Option (Ze×Zf):=
  if v138.length+([(⟨y141.1,v149⟩:Zb)]:List Zb).length≤1073741824 then (Zbe k self4 y101 v148 (v138 ++ ([(⟨y141.1,v149⟩:Zb)]:List Zb))) else none
def ZbB (k:Nat) (self4:Zf→(List Zb)→Option (Ze×Zf)) (y101:Bool×Zf) (v137:Zf) (v138:List Zb):Option (Ze×Zf):=
  (cond (!v137.f_Bad) ((F173 k v137).bind fun y141=>((cond (y141.1 == (-1)) (if v138.length+([(⟨48,57⟩:Zb)]:List Zb).length≤1073741824 then (Zbe k self4 y101 y141.2 (v138 ++ ([(⟨48,57⟩:Zb)]:List Zb))) else none) ((F74 k y141.2 45).bind fun y144=>(cond y144.1 ((F173 k y144.2).bind fun y146=>((cond (decide (y146.1<y141.1)) ((ZbC k self4 y101 v138 y141 ({ y146.2 with f_Bad:=true }:Zf) y146.1)) ((ZbC k self4 y101 v138 y141 y146.2 y146.1))))) ((ZbC k self4 y101 v138 y141 y144.2 y141.1))))))) ((Zco k y101 v137 v138)))
def Zay (k:Nat) (y101:Bool×Zf):Nat→Zf→(List Zb)→Option (Ze×Zf)
  | 0,_,_=>none
  | m_+1,v137,v138=>ZbB k (Zay k y101 m_) y101 v137 v138
def F144 (k:Nat) (v0:Zf):Option (Ze×Zf):=
  (F74 k v0 94).bind fun y101=>((Zay k y101 k y101.2 ([]:List Zb)))
theorem ZnV (k:Nat) (v0:Zf) (r:Ze×Zf) (hF:F144 k v0=some r):Sim Tryz.prog GL0 144 [.val false [.ptr 0 1 0 0]] [.box (pvL (Zc v0))] (.val true (pvL (Zd r.1))) [.box (pvL (Zc r.2))]:=by
 refine ZB [0] Tryz.func144 rfl kr kr ?_
 show WA _ _ 53 _ _ _
 refine WA.seq ?_
 refine WA.reg [0,2] [0,102] [(0,.obj 102)] (env':=[(0,.val false [.ptr 0 1 0 0]),(2,.val false [.ptr 102 1 0 0])]) (os':=[(0,.box (pvL (Zc v0))),(102,.box (pvL (Zd (⟨0,([]:List Zb),([]:List Ze),0,0⟩:Ze))))]) (O:=[]) kr (sound _ _) trivial ?_
 refine WA.seq ?_
 obtain ⟨y101,hy101,hF⟩:=bind_some hF
 refine WA.reg [0,2,3] [0,102] [(1,.call [0] (one (.bool y101.1)) [.box (pvL (Zc y101.2))] [])] (env':=[(0,.val false [.ptr 0 1 0 0]),(2,.val false [.ptr 102 1 0 0]),(3,one (.bool y101.1))]) (os':=[(0,.box (pvL (Zc y101.2))),(102,.box (pvL (Zd (⟨0,([]:List Zb),([]:List Ze),0,0⟩:Ze))))]) (O:=[Sim Tryz.prog GL0 74 [.val false [.ptr 0 1 0 0],one (.int .u8 94)] [.box (pvL (Zc v0))] (one (.bool y101.1)) [.box (pvL (Zc y101.2))],([0]:List Nat).Nodup]) kr (sound _ _) ⟨(Zat k _ _ _ hy101),(by decide),trivial⟩ ?_
 refine WA.seq ?_
 refine WA.reg [0,2,3,4] [0,102,104] [(0,.obj 104)] (env':=[(0,.val false [.ptr 0 1 0 0]),(2,.val false [.ptr 102 1 0 0]),(3,one (.bool y101.1)),(4,.val false [.arr 104 0])]) (os':=[(0,.box (pvL (Zc y101.2))),(102,.box (pvL (Zd (⟨0,([]:List Zb),([]:List Ze),0,0⟩:Ze)))),(104,.arr 2 (([]:List Zb).map Za))]) (O:=[]) kr (sound _ _) trivial ?_
 refine WA.join (fun s_=>∃(v156:Zf) (v157:List Zb) (v158:Nat),Zl s_.env [0,2,3,4]=[(0,.val false [.ptr 0 1 0 0]),(2,.val false [.ptr 102 1 0 0]),(3,one (.bool y101.1)),(4,.val false [.arr 104 v158])]∧Zl s_.os [0,102,104]=[(0,.box (pvL (Zc v156))),(102,.box (pvL (Zd (⟨0,([]:List Zb),([]:List Ze),0,0⟩:Ze)))),(104,.arr 2 (v157.map Za))]∧v158=(v157:List _).length∧Zco k y101 v156 v157=some r) ?_ ?_
 {
 rintro s_ ⟨v156,v157,v158,he,ho,hn_v158,hF⟩
 refine WA.keep _ _ he ho ?_
 clear he ho
 refine WA.seq ?_
 refine WA.seq ?_
 refine WA.reg [2,3,4,44] [0,102,104] [] (env':=[(2,.val false [.ptr 102 1 0 0]),(3,one (.bool y101.1)),(4,.val false [.arr 104 v158]),(44,one (.bool v156.f_Bad))]) (os':=[(0,.box (pvL (Zc v156))),(102,.box (pvL (Zd (⟨0,([]:List Zb),([]:List Ze),0,0⟩:Ze)))),(104,.arr 2 (v157.map Za))]) (O:=[]) kr (sound _ _) trivial ?_
 refine WA.cond (b:=v156.f_Bad) rfl (fun hb159=>?_) (fun hb159=>?_)
 {
 have hF:=Zk hF hb159
 refine WA.seq ?_
 refine WA.reg [2] [0,102] [] (env':=[(2,.val false [.ptr 102 1 0 0])]) (os':=[(0,.box (pvL (Zc v156))),(102,.box (pvL (Zd (⟨0,([]:List Zb),([]:List Ze),0,0⟩:Ze))))]) (O:=[]) kr (sound _ _) trivial ?_
 refine WA.ret ?_
 obtain rfl:=Option.some.inj hF
 exact Zp (.val true (pvL (Zd (⟨0,([]:List Zb),([]:List Ze),0,0⟩:Ze)))) [.box (pvL (Zc v156))] kr kr kr kr (by decide) rfl rfl }
 {
 have hF:=Zj hF hb159
 refine WA.skip ?_
 refine WA.seq ?_
 refine WA.freeze 104 4 (s:=2) (n:=v158) (els:=(v157.map Za)) rfl rfl zt ?_
 refine WA.keep [2,3,4] [0,102] (env':=[(2,.val false [.ptr 102 1 0 0]),(3,one (.bool y101.1)),(4,one (.sl (v157.map Za)))]) (os':=[(0,.box (pvL (Zc v156))),(102,.box (pvL (Zd (⟨0,([]:List Zb),([]:List Ze),0,0⟩:Ze))))]) kr kr ?_
 obtain ⟨y160,hy160,hF⟩:=bind_some hF
 refine WA.reg [2,3,4] [0,102] [(1,.callR [] (one (.sl (y160.map Za))))] (env':=[(2,.val false [.ptr 102 1 0 0]),(3,one (.bool y101.1)),(4,one (.sl (y160.map Za)))]) (os':=[(0,.box (pvL (Zc v156))),(102,.box (pvL (Zd (⟨0,([]:List Zb),([]:List Ze),0,0⟩:Ze))))]) (O:=[Sim Tryz.prog GL0 174 [one (.sl (v157.map Za))] [] (one (.sl (y160.map Za))) [],([]:List Nat).Nodup]) kr (sound _ _) ⟨(Zn8 k _ _ hy160),(by decide),trivial⟩ ?_
 refine WA.join (fun s_=>∃(v163:List Zb),Zl s_.env [2,4]=[(2,.val false [.ptr 102 1 0 0]),(4,one (.sl (v163.map Za)))]∧Zl s_.os [0,102]=[(0,.box (pvL (Zc v156))),(102,.box (pvL (Zd (⟨0,([]:List Zb),([]:List Ze),0,0⟩:Ze))))]∧Zgh v156 v163=some r) ?_ ?_
 {
 rintro s_ ⟨v163,he,ho,hF⟩
 refine WA.keep _ _ he ho ?_
 clear he ho
 refine WA.seq ?_
 refine WA.reg [2] [0,102] [] (env':=[(2,.val false [.ptr 102 1 0 0])]) (os':=[(0,.box (pvL (Zc v156))),(102,.box (pvL (Zd (⟨1,v163,([]:List Ze),0,0⟩:Ze))))]) (O:=[]) kr (sound _ _) trivial ?_
 refine WA.ret ?_
 obtain rfl:=Option.some.inj hF
 exact Zp (.val true (pvL (Zd (⟨1,v163,([]:List Ze),0,0⟩:Ze)))) [.box (pvL (Zc v156))] kr kr kr kr (by decide) rfl rfl }
 {
 refine WA.seq ?_
 refine WA.reg [2,4,48] [0,102] [] (env':=[(2,.val false [.ptr 102 1 0 0]),(4,one (.sl (y160.map Za))),(48,one (.bool y101.1))]) (os':=[(0,.box (pvL (Zc v156))),(102,.box (pvL (Zd (⟨0,([]:List Zb),([]:List Ze),0,0⟩:Ze))))]) (O:=[]) kr (sound _ _) trivial ?_
 refine WA.cond (b:=y101.1) rfl (fun hb161=>?_) (fun hb161=>?_)
 {
 have hF:=Zk hF hb161
 obtain ⟨y162,hy162,hF⟩:=bind_some hF
 refine WA.reg [2,4] [0,102] [(1,.callR [] (one (.sl (y162.map Za))))] (env':=[(2,.val false [.ptr 102 1 0 0]),(4,one (.sl (y162.map Za)))]) (os':=[(0,.box (pvL (Zc v156))),(102,.box (pvL (Zd (⟨0,([]:List Zb),([]:List Ze),0,0⟩:Ze))))]) (O:=[Sim Tryz.prog GL0 175 [one (.sl (y160.map Za))] [] (one (.sl (y162.map Za))) [],([]:List Nat).Nodup]) kr (sound _ _) ⟨(Zn9 k _ _ hy162),(by decide),trivial⟩ ?_
 exact ⟨y162,kr,kr,hF⟩ }
 {
 have hF:=Zj hF hb161
 refine WA.skip ?_
 exact ⟨y160,kr,kr,hF⟩ } } } }
 {
 refine WA.block ?_
 refine WA.loop (fun m s_=>∃(v137:Zf) (v138:List Zb) (v139:Nat),Zl s_.env [0,2,3,4]=[(0,.val false [.ptr 0 1 0 0]),(2,.val false [.ptr 102 1 0 0]),(3,one (.bool y101.1)),(4,.val false [.arr 104 v139])]∧Zl s_.os [0,102,104]=[(0,.box (pvL (Zc v137))),(102,.box (pvL (Zd (⟨0,([]:List Zb),([]:List Ze),0,0⟩:Ze)))),(104,.arr 2 (v138.map Za))]∧v139=(v138:List _).length∧Zay k y101 m v137 v138=some r) k ⟨y101.2,([]:List Zb),0,kr,kr,zt,hF⟩ ?_
 clear hF
 rintro m4 s_ ⟨v137,v138,v139,he,ho,hn_v139,hF⟩
 refine WA.keep _ _ he ho ?_
 clear he ho
 cases m4 with
 | zero=>cases hF
 | succ m4=>
  obtain ⟨self4,hself4⟩:∃g,g=Zay k y101 m4:=⟨_,rfl⟩
  have hF:ZbB k self4 y101 v137 v138=some r:=by first | (rw [hself4];exact hF) | exact hF
  refine WA.seq ?_
  refine WA.seq ?_
  refine WA.reg [0,2,3,4,13] [0,102,104] [] (env':=[(0,.val false [.ptr 0 1 0 0]),(2,.val false [.ptr 102 1 0 0]),(3,one (.bool y101.1)),(4,.val false [.arr 104 v139]),(13,one (.bool (!v137.f_Bad)))]) (os':=[(0,.box (pvL (Zc v137))),(102,.box (pvL (Zd (⟨0,([]:List Zb),([]:List Ze),0,0⟩:Ze)))),(104,.arr 2 (v138.map Za))]) (O:=[]) kr (sound _ _) trivial ?_
  refine WA.cond (b:=(!v137.f_Bad)) rfl (fun hb140=>?_) (fun hb140=>?_)
  {
 have hF:=Zk hF hb140
 refine WA.skip ?_
 refine WA.block ?_
 refine WA.seq ?_
 obtain ⟨y141,hy141,hF⟩:=bind_some hF
 refine WA.reg [0,2,3,4,5] [0,102,104] [(1,.call [0] (one (.int .i64 y141.1)) [.box (pvL (Zc y141.2))] [])] (env':=[(0,.val false [.ptr 0 1 0 0]),(2,.val false [.ptr 102 1 0 0]),(3,one (.bool y101.1)),(4,.val false [.arr 104 v139]),(5,one (.int .i64 y141.1))]) (os':=[(0,.box (pvL (Zc y141.2))),(102,.box (pvL (Zd (⟨0,([]:List Zb),([]:List Ze),0,0⟩:Ze)))),(104,.arr 2 (v138.map Za))]) (O:=[Sim Tryz.prog GL0 173 [.val false [.ptr 0 1 0 0]] [.box (pvL (Zc v137))] (one (.int .i64 y141.1)) [.box (pvL (Zc y141.2))],([0]:List Nat).Nodup]) kr (sound _ _) ⟨(Zk5 k _ _ hy141),(by decide),trivial⟩ ?_
 refine WA.join (fun s_=>∃(v151:Zf) (v152:List Zb) (v153:Nat),Zl s_.env [0,2,3,4]=[(0,.val false [.ptr 0 1 0 0]),(2,.val false [.ptr 102 1 0 0]),(3,one (.bool y101.1)),(4,.val false [.arr 104 v153])]∧Zl s_.os [0,102,104]=[(0,.box (pvL (Zc v151))),(102,.box (pvL (Zd (⟨0,([]:List Zb),([]:List Ze),0,0⟩:Ze)))),(104,.arr 2 (v152.map Za))]∧v153=(v152:List _).length∧Zbe k self4 y101 v151 v152=some r) ?_ ?_
 {
 rintro s_ ⟨v151,v152,v153,he,ho,hn_v153,hF⟩
 refine WA.keep _ _ he ho ?_
 clear he ho
 refine WA.seq ?_
 obtain ⟨y154,hy154,hF⟩:=bind_some hF
 refine WA.reg [0,2,3,4,40] [0,102,104] [(1,.call [0] (one (.bool y154.1)) [.box (pvL (Zc y154.2))] [])] (env':=[(0,.val false [.ptr 0 1 0 0]),(2,.val false [.ptr 102 1 0 0]),(3,one (.bool y101.1)),(4,.val false [.arr 104 v153]),(40,one (.bool y154.1))]) (os':=[(0,.box (pvL (Zc y154.2))),(102,.box (pvL (Zd (⟨0,([]:List Zb),([]:List Ze),0,0⟩:Ze)))),(104,.arr 2 (v152.map Za))]) (O:=[Sim Tryz.prog GL0 74 [.val false [.ptr 0 1 0 0],one (.int .u8 93)] [.box (pvL (Zc v151))] (one (.bool y154.1)) [.box (pvL (Zc y154.2))],([0]:List Nat).Nodup]) kr (sound _ _) ⟨(Zat k _ _ _ hy154),(by decide),trivial⟩ ?_
 refine WA.cond (b:=y154.1) rfl (fun hb155=>?_) (fun hb155=>?_)
 {
 have hF:=Zk hF hb155
 refine WA.exit ?_
 exact ⟨y154.2,v152,v153,kr,kr,zt,hF⟩ }
 {
 have hF:=Zj hF hb155
 refine WA.skip ?_
 exact ⟨m4,Nat.lt_succ_self _,y154.2,v152,v153,kr,kr,zt,by rw [hself4] at hF;exact hF⟩ } }
 {
 refine WA.seq ?_
 refine WA.reg [0,2,3,4,5,17] [0,102,104] [] (env':=[(0,.val false [.ptr 0 1 0 0]),(2,.val false [.ptr 102 1 0 0]),(3,one (.bool y101.1)),(4,.val false [.arr 104 v139]),(5,one (.int .i64 y141.1)),(17,one (.bool (y141.1 == (-1))))]) (os':=[(0,.box (pvL (Zc y141.2))),(102,.box (pvL (Zd (⟨0,([]:List Zb),([]:List Ze),0,0⟩:Ze)))),(104,.arr 2 (v138.map Za))]) (O:=[]) kr (sound _ _) trivial ?_
 refine WA.cond (b:=(y141.1 == (-1))) rfl (fun hb142=>?_) (fun hb142=>?_)
 {
 have hF:=Zk hF hb142
 obtain ⟨hc143,hF⟩:=Zo hF
 refine WA.rm (α:=(List (List PV))) (raw:=((v138.map Za) ++ (([(⟨48,57⟩:Zb)]:List Zb).map Za))) (can:=((v138 ++ ([(⟨48,57⟩:Zb)]:List Zb)).map Za)) (fun m_=>([(0,.val false [.ptr 0 1 0 0]),(2,.val false [.ptr 102 1 0 0]),(3,one (.bool y101.1)),(4,.val false [.arr 104 (v139+1)])],[(0,.box (pvL (Zc y141.2))),(102,.box (pvL (Zd (⟨0,([]:List Zb),([]:List Ze),0,0⟩:Ze)))),(104,.arr 2 m_)],[v139=(v138.map Za).length,(v138.map Za).length+(([(⟨48,57⟩:Zb)]:List Zb).map Za).length≤1073741824,∀es,es∈(([(⟨48,57⟩:Zb)]:List Zb).map Za)→es.length=2])) (zm) [0,2,3,4] [0,102,104] [] kr (sound _ _) ⟨zt,(by first | exact hc143 | (simp only [List.length_map,Zh];exact hc143)),(ZN ([(⟨48,57⟩:Zb)]:List Zb)),trivial⟩ ?_
 exact ⟨y141.2,(v138 ++ ([(⟨48,57⟩:Zb)]:List Zb)),(v139+1),kr,kr,zt,hF⟩ }
 {
 have hF:=Zj hF hb142
 refine WA.seq ?_
 refine WA.reg [0,2,3,4,5,6] [0,102,104] [] (env':=[(0,.val false [.ptr 0 1 0 0]),(2,.val false [.ptr 102 1 0 0]),(3,one (.bool y101.1)),(4,.val false [.arr 104 v139]),(5,one (.int .i64 y141.1)),(6,one (.int .i64 y141.1))]) (os':=[(0,.box (pvL (Zc y141.2))),(102,.box (pvL (Zd (⟨0,([]:List Zb),([]:List Ze),0,0⟩:Ze)))),(104,.arr 2 (v138.map Za))]) (O:=[]) kr (sound _ _) trivial ?_
 refine WA.join (fun s_=>∃(v148:Zf) (v149:Int),Zl s_.env [0,2,3,4,5,6]=[(0,.val false [.ptr 0 1 0 0]),(2,.val false [.ptr 102 1 0 0]),(3,one (.bool y101.1)),(4,.val false [.arr 104 v139]),(5,one (.int .i64 y141.1)),(6,one (.int .i64 v149))]∧Zl s_.os [0,102,104]=[(0,.box (pvL (Zc v148))),(102,.box (pvL (Zd (⟨0,([]:List Zb),([]:List Ze),0,0⟩:Ze)))),(104,.arr 2 (v138.map Za))]∧ZbC k self4 y101 v138 y141 v148 v149=some r) ?_ ?_
 {
 rintro s_ ⟨v148,v149,he,ho,hF⟩
 refine WA.keep _ _ he ho ?_
 clear he ho
 obtain ⟨hc150,hF⟩:=Zo hF
 refine WA.rm (α:=(List (List PV))) (raw:=((v138.map Za) ++ (([(⟨y141.1,v149⟩:Zb)]:List Zb).map Za))) (can:=((v138 ++ ([(⟨y141.1,v149⟩:Zb)]:List Zb)).map Za)) (fun m_=>([(0,.val false [.ptr 0 1 0 0]),(2,.val false [.ptr 102 1 0 0]),(3,one (.bool y101.1)),(4,.val false [.arr 104 (v139+1)])],[(0,.box (pvL (Zc v148))),(102,.box (pvL (Zd (⟨0,([]:List Zb),([]:List Ze),0,0⟩:Ze)))),(104,.arr 2 m_)],[v139=(v138.map Za).length,(v138.map Za).length+(([(⟨y141.1,v149⟩:Zb)]:List Zb).map Za).length≤1073741824,∀es,es∈(([(⟨y141.1,v149⟩:Zb)]:List Zb).map Za)→es.length=2])) (zm) [0,2,3,4] [0,102,104] [] kr (sound _ _) ⟨zt,(by first | exact hc150 | (simp only [List.length_map,Zh];exact hc150)),(ZN ([(⟨y141.1,v149⟩:Zb)]:List Zb)),trivial⟩ ?_
 exact ⟨v148,(v138 ++ ([(⟨y141.1,v149⟩:Zb)]:List Zb)),(v139+1),kr,kr,zt,hF⟩ }
 {
 refine WA.seq ?_
 obtain ⟨y144,hy144,hF⟩:=bind_some hF
 refine WA.reg [0,2,3,4,5,6,24] [0,102,104] [(1,.call [0] (one (.bool y144.1)) [.box (pvL (Zc y144.2))] [])] (env':=[(0,.val false [.ptr 0 1 0 0]),(2,.val false [.ptr 102 1 0 0]),(3,one (.bool y101.1)),(4,.val false [.arr 104 v139]),(5,one (.int .i64 y141.1)),(6,one (.int .i64 y141.1)),(24,one (.bool y144.1))]) (os':=[(0,.box (pvL (Zc y144.2))),(102,.box (pvL (Zd (⟨0,([]:List Zb),([]:List Ze),0,0⟩:Ze)))),(104,.arr 2 (v138.map Za))]) (O:=[Sim Tryz.prog GL0 74 [.val false [.ptr 0 1 0 0],one (.int .u8 45)] [.box (pvL (Zc y141.2))] (one (.bool y144.1)) [.box (pvL (Zc y144.2))],([0]:List Nat).Nodup]) kr (sound _ _) ⟨(Zat k _ _ _ hy144),(by decide),trivial⟩ ?_
 refine WA.cond (b:=y144.1) rfl (fun hb145=>?_) (fun hb145=>?_)
 {
 have hF:=Zk hF hb145
 refine WA.seq ?_
 obtain ⟨y146,hy146,hF⟩:=bind_some hF
 refine WA.reg [0,2,3,4,5,6] [0,102,104] [(1,.call [0] (one (.int .i64 y146.1)) [.box (pvL (Zc y146.2))] [])] (env':=[(0,.val false [.ptr 0 1 0 0]),(2,.val false [.ptr 102 1 0 0]),(3,one (.bool y101.1)),(4,.val false [.arr 104 v139]),(5,one (.int .i64 y141.1)),(6,one (.int .i64 y146.1))]) (os':=[(0,.box (pvL (Zc y146.2))),(102,.box (pvL (Zd (⟨0,([]:List Zb),([]:List Ze),0,0⟩:Ze)))),(104,.arr 2 (v138.map Za))]) (O:=[Sim Tryz.prog GL0 173 [.val false [.ptr 0 1 0 0]] [.box (pvL (Zc y144.2))] (one (.int .i64 y146.1)) [.box (pvL (Zc y146.2))],([0]:List Nat).Nodup]) kr (sound _ _) ⟨(Zk5 k _ _ hy146),(by decide),trivial⟩ ?_
 refine WA.seq ?_
 refine WA.reg [0,2,3,4,5,6,29] [0,102,104] [] (env':=[(0,.val false [.ptr 0 1 0 0]),(2,.val false [.ptr 102 1 0 0]),(3,one (.bool y101.1)),(4,.val false [.arr 104 v139]),(5,one (.int .i64 y141.1)),(6,one (.int .i64 y146.1)),(29,one (.bool (decide (y146.1<y141.1))))]) (os':=[(0,.box (pvL (Zc y146.2))),(102,.box (pvL (Zd (⟨0,([]:List Zb),([]:List Ze),0,0⟩:Ze)))),(104,.arr 2 (v138.map Za))]) (O:=[]) kr (sound _ _) trivial ?_
 refine WA.cond (b:=(decide (y146.1<y141.1))) rfl (fun hb147=>?_) (fun hb147=>?_)
 {
 have hF:=Zk hF hb147
 refine WA.reg [0,2,3,4,5,6] [0,102,104] [] (env':=[(0,.val false [.ptr 0 1 0 0]),(2,.val false [.ptr 102 1 0 0]),(3,one (.bool y101.1)),(4,.val false [.arr 104 v139]),(5,one (.int .i64 y141.1)),(6,one (.int .i64 y146.1))]) (os':=[(0,.box (pvL (Zc ({ y146.2 with f_Bad:=true }:Zf)))),(102,.box (pvL (Zd (⟨0,([]:List Zb),([]:List Ze),0,0⟩:Ze)))),(104,.arr 2 (v138.map Za))]) (O:=[]) kr (sound _ _) trivial ?_
 exact ⟨({ y146.2 with f_Bad:=true }:Zf),y146.1,kr,kr,hF⟩ }
 {
 have hF:=Zj hF hb147
 refine WA.skip ?_
 exact ⟨y146.2,y146.1,kr,kr,hF⟩ } }
 {
 have hF:=Zj hF hb145
 refine WA.skip ?_
 exact ⟨y144.2,y141.1,kr,kr,hF⟩ } } } } }
  {
 have hF:=Zj hF hb140
 refine WA.exit ?_
 exact ⟨v137,v138,v139,kr,kr,zt,hF⟩ } }
def Zf9 (y107:Ze×Zf) (v110:Zf):Option (Ze×Zf):=
  (some (y107.1,v110))
def Zbz (k:Nat) (v131:Zf):Option (Ze×Zf):=
  (F147 k v131).bind fun y132=>(F145 k y132.1).bind fun y133=>(some (y133,y132.2))
def Zc1 (k:Nat) (y114:Bool×Zf) (y116:Int) (v124:Bool):Option (Ze×Zf):=
  cond v124 ((F145 k (w64 y116)).bind fun y126=>(some (y126,({ y114.2 with f_I:=(w64 (y114.2.f_I+1)) }:Zf)))) (((Zbz k ({ ({ y114.2 with f_I:=(w64 (y114.2.f_I+1)) }:Zf) with f_Bad:=true }:Zf))))
def Zga (k:Nat) (y114:Bool×Zf) (v129:Bool):Option (Ze×Zf):=
  cond v129 ((Zbz k ({ y114.2 with f_Bad:=true }:Zf))) ((Zbz k y114.2))
def F119 (R51:Zf→Option (Ze×Zf)) (k:Nat) (v0:Zf):Option (Ze×Zf):=
  (F100 k v0).bind fun y101=>(F74 k v0 46).bind fun y102=>(cond y102.1 ((F143 k).bind fun y104=>(some ((⟨1,y104,([]:List Ze),0,0⟩:Ze),y102.2))) ((F74 k y102.2 40).bind fun y105=>(cond y105.1 ((R51 y105.2).bind fun y107=>(F74 k y107.2 41).bind fun y108=>(cond (!y108.1) ((Zf9 y107 ({ y108.2 with f_Bad:=true }:Zf))) ((Zf9 y107 y108.2)))) ((F74 k y105.2 91).bind fun y111=>(cond y111.1 ((F144 k y111.2).bind fun y113=>(some (y113.1,y113.2))) ((F74 k y111.2 92).bind fun y114=>(cond y114.1 ((F100 k y114.2).bind fun y116=>(((cond (y116 == 100) ((some ((⟨1,([(⟨48,57⟩:Zb)]:List Zb),([]:List Ze),0,0⟩:Ze),({ y114.2 with f_I:=(w64 (y114.2.f_I+1)) }:Zf)))) ((cond (y116 == 110) ((F145 k 10).bind fun y119=>(some (y119,({ y114.2 with f_I:=(w64 (y114.2.f_I+1)) }:Zf)))) ((cond (y116 == 116) ((F145 k 9).bind fun y121=>(some (y121,({ y114.2 with f_I:=(w64 (y114.2.f_I+1)) }:Zf)))) (cond (y116 != 0) ((F146 k ([92,46,91,93,40,41,123,125,42,43,63,124,94,36,45,47]:List UInt8) y116).bind fun y123=>(Zc1 k y114 y116 y123)) ((Zc1 k y114 y116 false))))))))))) (cond (decide (y114.2.f_I<(y114.2.f_S.length:Int))) ((F146 k ([93,91,40,41,123,125,42,43,63,124,94,36]:List UInt8) y101).bind fun y128=>(Zga k y114 y128)) ((Zga k y114 false))))))))))
theorem ZnT (R51:Zf→Option (Ze×Zf)) (IH51:∀(v0:Zf) (r:Ze×Zf),R51 v0=some r→Sim Tryz.prog GL0 51 [.val false [.ptr 0 1 0 0]] [.box (pvL (Zc v0))] (.val true (pvL (Zd r.1))) [.box (pvL (Zc r.2))]) (k:Nat) (v0:Zf) (r:Ze×Zf) (hF:F119 R51 k v0=some r):Sim Tryz.prog GL0 119 [.val false [.ptr 0 1 0 0]] [.box (pvL (Zc v0))] (.val true (pvL (Zd r.1))) [.box (pvL (Zc r.2))]:=by
 refine ZB [0] Tryz.func119 rfl kr kr ?_
 show WA _ _ 90 _ _ _
 refine WA.seq ?_
 refine WA.reg [0,2] [0,102] [(0,.obj 102)] (env':=[(0,.val false [.ptr 0 1 0 0]),(2,.val false [.ptr 102 1 0 0])]) (os':=[(0,.box (pvL (Zc v0))),(102,.box (pvL (Zd (⟨0,([]:List Zb),([]:List Ze),0,0⟩:Ze))))]) (O:=[]) kr (sound _ _) trivial ?_
 refine WA.join (fun s_=>∃(v131:Zf),Zl s_.env [0,2]=[(0,.val false [.ptr 0 1 0 0]),(2,.val false [.ptr 102 1 0 0])]∧Zl s_.os [0,102]=[(0,.box (pvL (Zc v131))),(102,.box (pvL (Zd (⟨0,([]:List Zb),([]:List Ze),0,0⟩:Ze))))]∧Zbz k v131=some r) ?_ ?_
 {
 rintro s_ ⟨v131,he,ho,hF⟩
 refine WA.keep _ _ he ho ?_
 clear he ho
 refine WA.seq ?_
 obtain ⟨y132,hy132,hF⟩:=bind_some hF
 obtain ⟨y133,hy133,hF⟩:=bind_some hF
 refine WA.reg [2] [0,102] [(1,.call [0] (one (.int .i64 y132.1)) [.box (pvL (Zc y132.2))] []),(2,.callR [] (.val true (pvL (Zd y133))))] (env':=[(2,.val false [.ptr 102 1 0 0])]) (os':=[(0,.box (pvL (Zc y132.2))),(102,.box (pvL (Zd y133)))]) (O:=[Sim Tryz.prog GL0 147 [.val false [.ptr 0 1 0 0]] [.box (pvL (Zc v131))] (one (.int .i64 y132.1)) [.box (pvL (Zc y132.2))],([0]:List Nat).Nodup,Sim Tryz.prog GL0 145 [one (.int .i64 y132.1)] [] (.val true (pvL (Zd y133))) [],([]:List Nat).Nodup]) kr (sound _ _) ⟨(Zk2 k _ _ hy132),(by decide),(Zgi k _ _ hy133),(by decide),trivial⟩ ?_
 refine WA.ret ?_
 obtain rfl:=Option.some.inj hF
 exact Zp (.val true (pvL (Zd y133))) [.box (pvL (Zc y132.2))] kr kr kr kr (by decide) rfl rfl }
 {
 refine WA.seq ?_
 obtain ⟨y101,hy101,hF⟩:=bind_some hF
 refine WA.reg [0,2,3] [0,102] [(1,.callR [0] (one (.int .u8 y101)))] (env':=[(0,.val false [.ptr 0 1 0 0]),(2,.val false [.ptr 102 1 0 0]),(3,one (.int .u8 y101))]) (os':=[(0,.box (pvL (Zc v0))),(102,.box (pvL (Zd (⟨0,([]:List Zb),([]:List Ze),0,0⟩:Ze))))]) (O:=[Sim Tryz.prog GL0 100 [.val false [.ptr 0 1 0 0]] [.box (pvL (Zc v0))] (one (.int .u8 y101)) [.box (pvL (Zc v0))],([0]:List Nat).Nodup]) kr (sound _ _) ⟨(Zao k _ _ hy101),(by decide),trivial⟩ ?_
 refine WA.block ?_
 refine WA.seq ?_
 obtain ⟨y102,hy102,hF⟩:=bind_some hF
 refine WA.reg [0,2,3,8] [0,102] [(1,.call [0] (one (.bool y102.1)) [.box (pvL (Zc y102.2))] [])] (env':=[(0,.val false [.ptr 0 1 0 0]),(2,.val false [.ptr 102 1 0 0]),(3,one (.int .u8 y101)),(8,one (.bool y102.1))]) (os':=[(0,.box (pvL (Zc y102.2))),(102,.box (pvL (Zd (⟨0,([]:List Zb),([]:List Ze),0,0⟩:Ze))))]) (O:=[Sim Tryz.prog GL0 74 [.val false [.ptr 0 1 0 0],one (.int .u8 46)] [.box (pvL (Zc v0))] (one (.bool y102.1)) [.box (pvL (Zc y102.2))],([0]:List Nat).Nodup]) kr (sound _ _) ⟨(Zat k _ _ _ hy102),(by decide),trivial⟩ ?_
 refine WA.cond (b:=y102.1) rfl (fun hb103=>?_) (fun hb103=>?_)
 {
 have hF:=Zk hF hb103
 refine WA.seq ?_
 obtain ⟨y104,hy104,hF⟩:=bind_some hF
 refine WA.reg [2] [0,102] [(0,.callR [] (one (.sl (y104.map Za))))] (env':=[(2,.val false [.ptr 102 1 0 0])]) (os':=[(0,.box (pvL (Zc y102.2))),(102,.box (pvL (Zd (⟨1,y104,([]:List Ze),0,0⟩:Ze))))]) (O:=[Sim Tryz.prog GL0 143 [] [] (one (.sl (y104.map Za))) [],([]:List Nat).Nodup]) kr (sound _ _) ⟨(Zis k _ hy104),(by decide),trivial⟩ ?_
 refine WA.ret ?_
 obtain rfl:=Option.some.inj hF
 exact Zp (.val true (pvL (Zd (⟨1,y104,([]:List Ze),0,0⟩:Ze)))) [.box (pvL (Zc y102.2))] kr kr kr kr (by decide) rfl rfl }
 {
 have hF:=Zj hF hb103
 refine WA.seq ?_
 obtain ⟨y105,hy105,hF⟩:=bind_some hF
 refine WA.reg [0,2,3,13] [0,102] [(1,.call [0] (one (.bool y105.1)) [.box (pvL (Zc y105.2))] [])] (env':=[(0,.val false [.ptr 0 1 0 0]),(2,.val false [.ptr 102 1 0 0]),(3,one (.int .u8 y101)),(13,one (.bool y105.1))]) (os':=[(0,.box (pvL (Zc y105.2))),(102,.box (pvL (Zd (⟨0,([]:List Zb),([]:List Ze),0,0⟩:Ze))))]) (O:=[Sim Tryz.prog GL0 74 [.val false [.ptr 0 1 0 0],one (.int .u8 40)] [.box (pvL (Zc y102.2))] (one (.bool y105.1)) [.box (pvL (Zc y105.2))],([0]:List Nat).Nodup]) kr (sound _ _) ⟨(Zat k _ _ _ hy105),(by decide),trivial⟩ ?_
 refine WA.cond (b:=y105.1) rfl (fun hb106=>?_) (fun hb106=>?_)
 {
 have hF:=Zk hF hb106
 refine WA.seq ?_
 obtain ⟨y107,hy107,hF⟩:=bind_some hF
 refine WA.reg [0,2,4] [0,102,104] [(1,.call [0] (.val true (pvL (Zd y107.1))) [.box (pvL (Zc y107.2))] []),(2,.obj 104)] (env':=[(0,.val false [.ptr 0 1 0 0]),(2,.val false [.ptr 102 1 0 0]),(4,.val false [.ptr 104 1 0 0])]) (os':=[(0,.box (pvL (Zc y107.2))),(102,.box (pvL (Zd (⟨0,([]:List Zb),([]:List Ze),0,0⟩:Ze)))),(104,.box (pvL (Zd y107.1)))]) (O:=[Sim Tryz.prog GL0 51 [.val false [.ptr 0 1 0 0]] [.box (pvL (Zc y105.2))] (.val true (pvL (Zd y107.1))) [.box (pvL (Zc y107.2))],([0]:List Nat).Nodup]) kr (sound _ _) ⟨(IH51 _ _ hy107),(by decide),trivial⟩ ?_
 refine WA.join (fun s_=>∃(v110:Zf),Zl s_.env [2,4]=[(2,.val false [.ptr 102 1 0 0]),(4,.val false [.ptr 104 1 0 0])]∧Zl s_.os [0,102,104]=[(0,.box (pvL (Zc v110))),(102,.box (pvL (Zd (⟨0,([]:List Zb),([]:List Ze),0,0⟩:Ze)))),(104,.box (pvL (Zd y107.1)))]∧Zf9 y107 v110=some r) ?_ ?_
 {
 rintro s_ ⟨v110,he,ho,hF⟩
 refine WA.keep _ _ he ho ?_
 clear he ho
 refine WA.seq ?_
 refine WA.reg [2] [0,102] [] (env':=[(2,.val false [.ptr 102 1 0 0])]) (os':=[(0,.box (pvL (Zc v110))),(102,.box (pvL (Zd y107.1)))]) (O:=[]) kr (sound _ _) trivial ?_
 refine WA.ret ?_
 obtain rfl:=Option.some.inj hF
 exact Zp (.val true (pvL (Zd y107.1))) [.box (pvL (Zc v110))] kr kr kr kr (by decide) rfl rfl }
 {
 refine WA.seq ?_
 obtain ⟨y108,hy108,hF⟩:=bind_some hF
 refine WA.reg [0,2,4,20] [0,102,104] [(1,.call [0] (one (.bool y108.1)) [.box (pvL (Zc y108.2))] [])] (env':=[(0,.val false [.ptr 0 1 0 0]),(2,.val false [.ptr 102 1 0 0]),(4,.val false [.ptr 104 1 0 0]),(20,one (.bool (!y108.1)))]) (os':=[(0,.box (pvL (Zc y108.2))),(102,.box (pvL (Zd (⟨0,([]:List Zb),([]:List Ze),0,0⟩:Ze)))),(104,.box (pvL (Zd y107.1)))]) (O:=[Sim Tryz.prog GL0 74 [.val false [.ptr 0 1 0 0],one (.int .u8 41)] [.box (pvL (Zc y107.2))] (one (.bool y108.1)) [.box (pvL (Zc y108.2))],([0]:List Nat).Nodup]) kr (sound _ _) ⟨(Zat k _ _ _ hy108),(by decide),trivial⟩ ?_
 refine WA.cond (b:=(!y108.1)) rfl (fun hb109=>?_) (fun hb109=>?_)
 {
 have hF:=Zk hF hb109
 refine WA.reg [2,4] [0,102,104] [] (env':=[(2,.val false [.ptr 102 1 0 0]),(4,.val false [.ptr 104 1 0 0])]) (os':=[(0,.box (pvL (Zc ({ y108.2 with f_Bad:=true }:Zf)))),(102,.box (pvL (Zd (⟨0,([]:List Zb),([]:List Ze),0,0⟩:Ze)))),(104,.box (pvL (Zd y107.1)))]) (O:=[]) kr (sound _ _) trivial ?_
 exact ⟨({ y108.2 with f_Bad:=true }:Zf),kr,kr,hF⟩ }
 {
 have hF:=Zj hF hb109
 refine WA.skip ?_
 exact ⟨y108.2,kr,kr,hF⟩ } } }
 {
 have hF:=Zj hF hb106
 refine WA.seq ?_
 obtain ⟨y111,hy111,hF⟩:=bind_some hF
 refine WA.reg [0,2,3,25] [0,102] [(1,.call [0] (one (.bool y111.1)) [.box (pvL (Zc y111.2))] [])] (env':=[(0,.val false [.ptr 0 1 0 0]),(2,.val false [.ptr 102 1 0 0]),(3,one (.int .u8 y101)),(25,one (.bool y111.1))]) (os':=[(0,.box (pvL (Zc y111.2))),(102,.box (pvL (Zd (⟨0,([]:List Zb),([]:List Ze),0,0⟩:Ze))))]) (O:=[Sim Tryz.prog GL0 74 [.val false [.ptr 0 1 0 0],one (.int .u8 91)] [.box (pvL (Zc y105.2))] (one (.bool y111.1)) [.box (pvL (Zc y111.2))],([0]:List Nat).Nodup]) kr (sound _ _) ⟨(Zat k _ _ _ hy111),(by decide),trivial⟩ ?_
 refine WA.cond (b:=y111.1) rfl (fun hb112=>?_) (fun hb112=>?_)
 {
 have hF:=Zk hF hb112
 refine WA.seq ?_
 obtain ⟨y113,hy113,hF⟩:=bind_some hF
 refine WA.reg [2] [0,102] [(1,.call [0] (.val true (pvL (Zd y113.1))) [.box (pvL (Zc y113.2))] [])] (env':=[(2,.val false [.ptr 102 1 0 0])]) (os':=[(0,.box (pvL (Zc y113.2))),(102,.box (pvL (Zd y113.1)))]) (O:=[Sim Tryz.prog GL0 144 [.val false [.ptr 0 1 0 0]] [.box (pvL (Zc y111.2))] (.val true (pvL (Zd y113.1))) [.box (pvL (Zc y113.2))],([0]:List Nat).Nodup]) kr (sound _ _) ⟨(ZnV k _ _ hy113),(by decide),trivial⟩ ?_
 refine WA.ret ?_
 obtain rfl:=Option.some.inj hF
 exact Zp (.val true (pvL (Zd y113.1))) [.box (pvL (Zc y113.2))] kr kr kr kr (by decide) rfl rfl }
 {
 have hF:=Zj hF hb112
 refine WA.seq ?_
 obtain ⟨y114,hy114,hF⟩:=bind_some hF
 refine WA.reg [0,2,3,30] [0,102] [(1,.call [0] (one (.bool y114.1)) [.box (pvL (Zc y114.2))] [])] (env':=[(0,.val false [.ptr 0 1 0 0]),(2,.val false [.ptr 102 1 0 0]),(3,one (.int .u8 y101)),(30,one (.bool y114.1))]) (os':=[(0,.box (pvL (Zc y114.2))),(102,.box (pvL (Zd (⟨0,([]:List Zb),([]:List Ze),0,0⟩:Ze))))]) (O:=[Sim Tryz.prog GL0 74 [.val false [.ptr 0 1 0 0],one (.int .u8 92)] [.box (pvL (Zc y111.2))] (one (.bool y114.1)) [.box (pvL (Zc y114.2))],([0]:List Nat).Nodup]) kr (sound _ _) ⟨(Zat k _ _ _ hy114),(by decide),trivial⟩ ?_
 refine WA.cond (b:=y114.1) rfl (fun hb115=>?_) (fun hb115=>?_)
 {
 have hF:=Zk hF hb115
 refine WA.seq ?_
 obtain ⟨y116,hy116,hF⟩:=bind_some hF
 refine WA.reg [0,2,5] [0,102] [(1,.callR [0] (one (.int .u8 y116)))] (env':=[(0,.val false [.ptr 0 1 0 0]),(2,.val false [.ptr 102 1 0 0]),(5,one (.int .u8 y116))]) (os':=[(0,.box (pvL (Zc y114.2))),(102,.box (pvL (Zd (⟨0,([]:List Zb),([]:List Ze),0,0⟩:Ze))))]) (O:=[Sim Tryz.prog GL0 100 [.val false [.ptr 0 1 0 0]] [.box (pvL (Zc y114.2))] (one (.int .u8 y116)) [.box (pvL (Zc y114.2))],([0]:List Nat).Nodup]) kr (sound _ _) ⟨(Zao k _ _ hy116),(by decide),trivial⟩ ?_
 refine WA.seq ?_
 refine WA.reg [0,2,5] [0,102] [] (env':=[(0,.val false [.ptr 0 1 0 0]),(2,.val false [.ptr 102 1 0 0]),(5,one (.int .u8 y116))]) (os':=[(0,.box (pvL (Zc ({ y114.2 with f_I:=(w64 (y114.2.f_I+1)) }:Zf)))),(102,.box (pvL (Zd (⟨0,([]:List Zb),([]:List Ze),0,0⟩:Ze))))]) (O:=[]) kr (sound _ _) trivial ?_
 refine WA.seq ?_
 refine WA.block ?_
 refine WA.seq ?_
 refine WA.reg [0,2,5,42] [0,102] [] (env':=[(0,.val false [.ptr 0 1 0 0]),(2,.val false [.ptr 102 1 0 0]),(5,one (.int .u8 y116)),(42,one (.bool (y116 == 100)))]) (os':=[(0,.box (pvL (Zc ({ y114.2 with f_I:=(w64 (y114.2.f_I+1)) }:Zf)))),(102,.box (pvL (Zd (⟨0,([]:List Zb),([]:List Ze),0,0⟩:Ze))))]) (O:=[]) kr (sound _ _) trivial ?_
 refine WA.cond (b:=(y116 == 100)) rfl (fun hb117=>?_) (fun hb117=>?_)
 {
 have hF:=Zk hF hb117
 refine WA.seq ?_
 refine WA.reg [2] [0,102] [] (env':=[(2,.val false [.ptr 102 1 0 0])]) (os':=[(0,.box (pvL (Zc ({ y114.2 with f_I:=(w64 (y114.2.f_I+1)) }:Zf)))),(102,.box (pvL (Zd (⟨1,([(⟨48,57⟩:Zb)]:List Zb),([]:List Ze),0,0⟩:Ze))))]) (O:=[]) kr (sound _ _) trivial ?_
 refine WA.ret ?_
 obtain rfl:=Option.some.inj hF
 exact Zp (.val true (pvL (Zd (⟨1,([(⟨48,57⟩:Zb)]:List Zb),([]:List Ze),0,0⟩:Ze)))) [.box (pvL (Zc ({ y114.2 with f_I:=(w64 (y114.2.f_I+1)) }:Zf)))] kr kr kr kr (by decide) rfl rfl }
 {
 have hF:=Zj hF hb117
 refine WA.seq ?_
 refine WA.reg [0,2,5,48] [0,102] [] (env':=[(0,.val false [.ptr 0 1 0 0]),(2,.val false [.ptr 102 1 0 0]),(5,one (.int .u8 y116)),(48,one (.bool (y116 == 110)))]) (os':=[(0,.box (pvL (Zc ({ y114.2 with f_I:=(w64 (y114.2.f_I+1)) }:Zf)))),(102,.box (pvL (Zd (⟨0,([]:List Zb),([]:List Ze),0,0⟩:Ze))))]) (O:=[]) kr (sound _ _) trivial ?_
 refine WA.cond (b:=(y116 == 110)) rfl (fun hb118=>?_) (fun hb118=>?_)
 {
 have hF:=Zk hF hb118
 refine WA.seq ?_
 obtain ⟨y119,hy119,hF⟩:=bind_some hF
 refine WA.reg [2] [0,102] [(0,.callR [] (.val true (pvL (Zd y119))))] (env':=[(2,.val false [.ptr 102 1 0 0])]) (os':=[(0,.box (pvL (Zc ({ y114.2 with f_I:=(w64 (y114.2.f_I+1)) }:Zf)))),(102,.box (pvL (Zd y119)))]) (O:=[Sim Tryz.prog GL0 145 [one (.int .i64 10)] [] (.val true (pvL (Zd y119))) [],([]:List Nat).Nodup]) kr (sound _ _) ⟨(Zgi k _ _ hy119),(by decide),trivial⟩ ?_
 refine WA.ret ?_
 obtain rfl:=Option.some.inj hF
 exact Zp (.val true (pvL (Zd y119))) [.box (pvL (Zc ({ y114.2 with f_I:=(w64 (y114.2.f_I+1)) }:Zf)))] kr kr kr kr (by decide) rfl rfl }
 {
 have hF:=Zj hF hb118
 refine WA.seq ?_
 refine WA.reg [0,2,5,52] [0,102] [] (env':=[(0,.val false [.ptr 0 1 0 0]),(2,.val false [.ptr 102 1 0 0]),(5,one (.int .u8 y116)),(52,one (.bool (y116 == 116)))]) (os':=[(0,.box (pvL (Zc ({ y114.2 with f_I:=(w64 (y114.2.f_I+1)) }:Zf)))),(102,.box (pvL (Zd (⟨0,([]:List Zb),([]:List Ze),0,0⟩:Ze))))]) (O:=[]) kr (sound _ _) trivial ?_
 refine WA.cond (b:=(y116 == 116)) rfl (fun hb120=>?_) (fun hb120=>?_)
 {
 have hF:=Zk hF hb120
 refine WA.seq ?_
 obtain ⟨y121,hy121,hF⟩:=bind_some hF
 refine WA.reg [2] [0,102] [(0,.callR [] (.val true (pvL (Zd y121))))] (env':=[(2,.val false [.ptr 102 1 0 0])]) (os':=[(0,.box (pvL (Zc ({ y114.2 with f_I:=(w64 (y114.2.f_I+1)) }:Zf)))),(102,.box (pvL (Zd y121)))]) (O:=[Sim Tryz.prog GL0 145 [one (.int .i64 9)] [] (.val true (pvL (Zd y121))) [],([]:List Nat).Nodup]) kr (sound _ _) ⟨(Zgi k _ _ hy121),(by decide),trivial⟩ ?_
 refine WA.ret ?_
 obtain rfl:=Option.some.inj hF
 exact Zp (.val true (pvL (Zd y121))) [.box (pvL (Zc ({ y114.2 with f_I:=(w64 (y114.2.f_I+1)) }:Zf)))] kr kr kr kr (by decide) rfl rfl }
 {
 have hF:=Zj hF hb120
 refine WA.join (fun s_=>∃(v124:Bool),Zl s_.env [0,2,5,56]=[(0,.val false [.ptr 0 1 0 0]),(2,.val false [.ptr 102 1 0 0]),(5,one (.int .u8 y116)),(56,one (.bool v124))]∧Zl s_.os [0,102]=[(0,.box (pvL (Zc ({ y114.2 with f_I:=(w64 (y114.2.f_I+1)) }:Zf)))),(102,.box (pvL (Zd (⟨0,([]:List Zb),([]:List Ze),0,0⟩:Ze))))]∧Zc1 k y114 y116 v124=some r) ?_ ?_
 {
 rintro s_ ⟨v124,he,ho,hF⟩
 refine WA.keep _ _ he ho ?_
 clear he ho
 refine WA.cond (b:=v124) rfl (fun hb125=>?_) (fun hb125=>?_)
 {
 have hF:=Zk hF hb125
 refine WA.seq ?_
 obtain ⟨y126,hy126,hF⟩:=bind_some hF
 refine WA.reg [2] [0,102] [(2,.callR [] (.val true (pvL (Zd y126))))] (env':=[(2,.val false [.ptr 102 1 0 0])]) (os':=[(0,.box (pvL (Zc ({ y114.2 with f_I:=(w64 (y114.2.f_I+1)) }:Zf)))),(102,.box (pvL (Zd y126)))]) (O:=[Sim Tryz.prog GL0 145 [one (.int .i64 (w64 y116))] [] (.val true (pvL (Zd y126))) [],([]:List Nat).Nodup]) kr (sound _ _) ⟨(Zgi k _ _ hy126),(by decide),trivial⟩ ?_
 refine WA.ret ?_
 obtain rfl:=Option.some.inj hF
 exact Zp (.val true (pvL (Zd y126))) [.box (pvL (Zc ({ y114.2 with f_I:=(w64 (y114.2.f_I+1)) }:Zf)))] kr kr kr kr (by decide) rfl rfl }
 {
 have hF:=Zj hF hb125
 refine WA.skip ?_
 refine WA.reg [0,2] [0,102] [] (env':=[(0,.val false [.ptr 0 1 0 0]),(2,.val false [.ptr 102 1 0 0])]) (os':=[(0,.box (pvL (Zc ({ ({ y114.2 with f_I:=(w64 (y114.2.f_I+1)) }:Zf) with f_Bad:=true }:Zf)))),(102,.box (pvL (Zd (⟨0,([]:List Zb),([]:List Ze),0,0⟩:Ze))))]) (O:=[]) kr (sound _ _) trivial ?_
 exact ⟨({ ({ y114.2 with f_I:=(w64 (y114.2.f_I+1)) }:Zf) with f_Bad:=true }:Zf),kr,kr,hF⟩ } }
 {
 rcases Bool.eq_false_or_eq_true (y116 != 0) with hb122 | hb122
 {
 have hF:=Zk hF hb122
 obtain ⟨y123,hy123,hF⟩:=bind_some hF
 refine WA.reg [0,2,5,56] [0,102] [(2,.bool true),(4,.callR [] (one (.bool y123)))] (env':=[(0,.val false [.ptr 0 1 0 0]),(2,.val false [.ptr 102 1 0 0]),(5,one (.int .u8 y116)),(56,one (.bool y123))]) (os':=[(0,.box (pvL (Zc ({ y114.2 with f_I:=(w64 (y114.2.f_I+1)) }:Zf)))),(102,.box (pvL (Zd (⟨0,([]:List Zb),([]:List Ze),0,0⟩:Ze))))]) (O:=[(y116 != 0)=true,Sim Tryz.prog GL0 146 [one (.str ([92,46,91,93,40,41,123,125,42,43,63,124,94,36,45,47]:List UInt8)),one (.int .u8 y116)] [] (one (.bool y123)) [],([]:List Nat).Nodup]) kr (sound _ _) ⟨hb122,(Zgj k _ _ _ hy123),(by decide),trivial⟩ ?_
 exact ⟨y123,kr,kr,hF⟩ }
 {
 have hF:=Zj hF hb122
 refine WA.reg [0,2,5,56] [0,102] [(2,.bool false)] (env':=[(0,.val false [.ptr 0 1 0 0]),(2,.val false [.ptr 102 1 0 0]),(5,one (.int .u8 y116)),(56,one (.bool false))]) (os':=[(0,.box (pvL (Zc ({ y114.2 with f_I:=(w64 (y114.2.f_I+1)) }:Zf)))),(102,.box (pvL (Zd (⟨0,([]:List Zb),([]:List Ze),0,0⟩:Ze))))]) (O:=[(y116 != 0)=false]) kr (sound _ _) ⟨hb122,trivial⟩ ?_
 exact ⟨false,kr,kr,hF⟩ } } } } } }
 {
 have hF:=Zj hF hb115
 refine WA.join (fun s_=>∃(v129:Bool),Zl s_.env [0,2,69]=[(0,.val false [.ptr 0 1 0 0]),(2,.val false [.ptr 102 1 0 0]),(69,one (.bool v129))]∧Zl s_.os [0,102]=[(0,.box (pvL (Zc y114.2))),(102,.box (pvL (Zd (⟨0,([]:List Zb),([]:List Ze),0,0⟩:Ze))))]∧Zga k y114 v129=some r) ?_ ?_
 {
 rintro s_ ⟨v129,he,ho,hF⟩
 refine WA.keep _ _ he ho ?_
 clear he ho
 refine WA.cond (b:=v129) rfl (fun hb130=>?_) (fun hb130=>?_)
 {
 have hF:=Zk hF hb130
 refine WA.reg [0,2] [0,102] [] (env':=[(0,.val false [.ptr 0 1 0 0]),(2,.val false [.ptr 102 1 0 0])]) (os':=[(0,.box (pvL (Zc ({ y114.2 with f_Bad:=true }:Zf)))),(102,.box (pvL (Zd (⟨0,([]:List Zb),([]:List Ze),0,0⟩:Ze))))]) (O:=[]) kr (sound _ _) trivial ?_
 exact ⟨({ y114.2 with f_Bad:=true }:Zf),kr,kr,hF⟩ }
 {
 have hF:=Zj hF hb130
 refine WA.skip ?_
 exact ⟨y114.2,kr,kr,hF⟩ } }
 {
 rcases Bool.eq_false_or_eq_true (decide (y114.2.f_I<(y114.2.f_S.length:Int))) with hb127 | hb127
 {
 have hF:=Zk hF hb127
 obtain ⟨y128,hy128,hF⟩:=bind_some hF
 refine WA.regD kr [0,2,69] [0,102] [(10,.bool true),(12,.callR [] (one (.bool y128)))] (env':=[(0,.val false [.ptr 0 1 0 0]),(2,.val false [.ptr 102 1 0 0]),(69,one (.bool y128))]) (os':=[(0,.box (pvL (Zc y114.2))),(102,.box (pvL (Zd (⟨0,([]:List Zb),([]:List Ze),0,0⟩:Ze))))]) (O:=[(decide (y114.2.f_I<(y114.2.f_S.length:Int)))=true,Sim Tryz.prog GL0 146 [one (.str ([93,91,40,41,123,125,42,43,63,124,94,36]:List UInt8)),one (.int .u8 y101)] [] (one (.bool y128)) [],([]:List Nat).Nodup]) kr kr (sound _ _) ⟨hb127,(Zgj k _ _ _ hy128),(by decide),trivial⟩ ?_
 exact ⟨y128,kr,kr,hF⟩ }
 {
 have hF:=Zj hF hb127
 refine WA.regD kr [0,2,69] [0,102] [(10,.bool false),(12,.callR [] (.tup []))] (env':=[(0,.val false [.ptr 0 1 0 0]),(2,.val false [.ptr 102 1 0 0]),(69,one (.bool false))]) (os':=[(0,.box (pvL (Zc y114.2))),(102,.box (pvL (Zd (⟨0,([]:List Zb),([]:List Ze),0,0⟩:Ze))))]) (O:=[(decide (y114.2.f_I<(y114.2.f_S.length:Int)))=false]) kr kr (sound _ _) ⟨hb127,trivial⟩ ?_
 exact ⟨false,kr,kr,hF⟩ } } } } } } }
def F101 (R51:Zf→Option (Ze×Zf)) (k:Nat) (v0:Zf):Option (Ze×Zf):=
  (F119 R51 k v0).bind fun y101=>(F74 k y101.2 42).bind fun y102=>(cond y102.1 ((some ((⟨4,([]:List Zb),([y101.1]:List Ze),0,(-1)⟩:Ze),y102.2))) ((F74 k y102.2 43).bind fun y104=>(cond y104.1 ((some ((⟨4,([]:List Zb),([y101.1]:List Ze),1,(-1)⟩:Ze),y104.2))) ((F74 k y104.2 63).bind fun y106=>(cond y106.1 ((some ((⟨4,([]:List Zb),([y101.1]:List Ze),0,1⟩:Ze),y106.2))) ((F74 k y106.2 123).bind fun y108=>(cond y108.1 ((F120 k y108.2 y101.1).bind fun y110=>(some (y110.1,y110.2))) (((some (y101.1,y108.2)))))))))))
theorem ZnN (R51:Zf→Option (Ze×Zf)) (IH51:∀(v0:Zf) (r:Ze×Zf),R51 v0=some r→Sim Tryz.prog GL0 51 [.val false [.ptr 0 1 0 0]] [.box (pvL (Zc v0))] (.val true (pvL (Zd r.1))) [.box (pvL (Zc r.2))]) (k:Nat) (v0:Zf) (r:Ze×Zf) (hF:F101 R51 k v0=some r):Sim Tryz.prog GL0 101 [.val false [.ptr 0 1 0 0]] [.box (pvL (Zc v0))] (.val true (pvL (Zd r.1))) [.box (pvL (Zc r.2))]:=by
 refine ZB [0] Tryz.func101 rfl kr kr ?_
 show WA _ _ 31 _ _ _
 refine WA.seq ?_
 refine WA.reg [0,2] [0,102] [(0,.obj 102)] (env':=[(0,.val false [.ptr 0 1 0 0]),(2,.val false [.ptr 102 1 0 0])]) (os':=[(0,.box (pvL (Zc v0))),(102,.box (pvL (Zd (⟨0,([]:List Zb),([]:List Ze),0,0⟩:Ze))))]) (O:=[]) kr (sound _ _) trivial ?_
 refine WA.seq ?_
 obtain ⟨y101,hy101,hF⟩:=bind_some hF
 refine WA.reg [0,2,3] [0,102,103] [(1,.call [0] (.val true (pvL (Zd y101.1))) [.box (pvL (Zc y101.2))] []),(2,.obj 103)] (env':=[(0,.val false [.ptr 0 1 0 0]),(2,.val false [.ptr 102 1 0 0]),(3,.val false [.ptr 103 1 0 0])]) (os':=[(0,.box (pvL (Zc y101.2))),(102,.box (pvL (Zd (⟨0,([]:List Zb),([]:List Ze),0,0⟩:Ze)))),(103,.box (pvL (Zd y101.1)))]) (O:=[Sim Tryz.prog GL0 119 [.val false [.ptr 0 1 0 0]] [.box (pvL (Zc v0))] (.val true (pvL (Zd y101.1))) [.box (pvL (Zc y101.2))],([0]:List Nat).Nodup]) kr (sound _ _) ⟨(ZnT R51 IH51 k _ _ hy101),(by decide),trivial⟩ ?_
 refine WA.seq ?_
 refine WA.block ?_
 refine WA.seq ?_
 obtain ⟨y102,hy102,hF⟩:=bind_some hF
 refine WA.reg [0,2,3,6] [0,102,103] [(1,.call [0] (one (.bool y102.1)) [.box (pvL (Zc y102.2))] [])] (env':=[(0,.val false [.ptr 0 1 0 0]),(2,.val false [.ptr 102 1 0 0]),(3,.val false [.ptr 103 1 0 0]),(6,one (.bool y102.1))]) (os':=[(0,.box (pvL (Zc y102.2))),(102,.box (pvL (Zd (⟨0,([]:List Zb),([]:List Ze),0,0⟩:Ze)))),(103,.box (pvL (Zd y101.1)))]) (O:=[Sim Tryz.prog GL0 74 [.val false [.ptr 0 1 0 0],one (.int .u8 42)] [.box (pvL (Zc y101.2))] (one (.bool y102.1)) [.box (pvL (Zc y102.2))],([0]:List Nat).Nodup]) kr (sound _ _) ⟨(Zat k _ _ _ hy102),(by decide),trivial⟩ ?_
 refine WA.cond (b:=y102.1) rfl (fun hb103=>?_) (fun hb103=>?_)
 {
 have hF:=Zk hF hb103
 refine WA.seq ?_
 refine WA.rm (α:=(List (List PV))) (raw:=[(Zd y101.1)]) (can:=(Zm ([y101.1]:List Ze))) (fun m_=>([(2,.val false [.ptr 102 1 0 0])],[(0,.box (pvL (Zc y102.2))),(102,.box (pvL ([.int .i64 4] ++ [.sl (([]:List Zb).map Za)] ++ [.sl m_] ++ [.int .i64 0] ++ [.int .i64 (-1)])))],[])) (zm) [2] [0,102] [] kr (sound _ _) trivial ?_
 refine WA.ret ?_
 obtain rfl:=Option.some.inj hF
 exact Zp (.val true (pvL (Zd (⟨4,([]:List Zb),([y101.1]:List Ze),0,(-1)⟩:Ze)))) [.box (pvL (Zc y102.2))] kr kr kr kr (by decide) rfl rfl }
 {
 have hF:=Zj hF hb103
 refine WA.seq ?_
 obtain ⟨y104,hy104,hF⟩:=bind_some hF
 refine WA.reg [0,2,3,12] [0,102,103] [(1,.call [0] (one (.bool y104.1)) [.box (pvL (Zc y104.2))] [])] (env':=[(0,.val false [.ptr 0 1 0 0]),(2,.val false [.ptr 102 1 0 0]),(3,.val false [.ptr 103 1 0 0]),(12,one (.bool y104.1))]) (os':=[(0,.box (pvL (Zc y104.2))),(102,.box (pvL (Zd (⟨0,([]:List Zb),([]:List Ze),0,0⟩:Ze)))),(103,.box (pvL (Zd y101.1)))]) (O:=[Sim Tryz.prog GL0 74 [.val false [.ptr 0 1 0 0],one (.int .u8 43)] [.box (pvL (Zc y102.2))] (one (.bool y104.1)) [.box (pvL (Zc y104.2))],([0]:List Nat).Nodup]) kr (sound _ _) ⟨(Zat k _ _ _ hy104),(by decide),trivial⟩ ?_
 refine WA.cond (b:=y104.1) rfl (fun hb105=>?_) (fun hb105=>?_)
 {
 have hF:=Zk hF hb105
 refine WA.seq ?_
 refine WA.rm (α:=(List (List PV))) (raw:=[(Zd y101.1)]) (can:=(Zm ([y101.1]:List Ze))) (fun m_=>([(2,.val false [.ptr 102 1 0 0])],[(0,.box (pvL (Zc y104.2))),(102,.box (pvL ([.int .i64 4] ++ [.sl (([]:List Zb).map Za)] ++ [.sl m_] ++ [.int .i64 1] ++ [.int .i64 (-1)])))],[])) (zm) [2] [0,102] [] kr (sound _ _) trivial ?_
 refine WA.ret ?_
 obtain rfl:=Option.some.inj hF
 exact Zp (.val true (pvL (Zd (⟨4,([]:List Zb),([y101.1]:List Ze),1,(-1)⟩:Ze)))) [.box (pvL (Zc y104.2))] kr kr kr kr (by decide) rfl rfl }
 {
 have hF:=Zj hF hb105
 refine WA.seq ?_
 obtain ⟨y106,hy106,hF⟩:=bind_some hF
 refine WA.reg [0,2,3,18] [0,102,103] [(1,.call [0] (one (.bool y106.1)) [.box (pvL (Zc y106.2))] [])] (env':=[(0,.val false [.ptr 0 1 0 0]),(2,.val false [.ptr 102 1 0 0]),(3,.val false [.ptr 103 1 0 0]),(18,one (.bool y106.1))]) (os':=[(0,.box (pvL (Zc y106.2))),(102,.box (pvL (Zd (⟨0,([]:List Zb),([]:List Ze),0,0⟩:Ze)))),(103,.box (pvL (Zd y101.1)))]) (O:=[Sim Tryz.prog GL0 74 [.val false [.ptr 0 1 0 0],one (.int .u8 63)] [.box (pvL (Zc y104.2))] (one (.bool y106.1)) [.box (pvL (Zc y106.2))],([0]:List Nat).Nodup]) kr (sound _ _) ⟨(Zat k _ _ _ hy106),(by decide),trivial⟩ ?_
 refine WA.cond (b:=y106.1) rfl (fun hb107=>?_) (fun hb107=>?_)
 {
 have hF:=Zk hF hb107
 refine WA.seq ?_
 refine WA.rm (α:=(List (List PV))) (raw:=[(Zd y101.1)]) (can:=(Zm ([y101.1]:List Ze))) (fun m_=>([(2,.val false [.ptr 102 1 0 0])],[(0,.box (pvL (Zc y106.2))),(102,.box (pvL ([.int .i64 4] ++ [.sl (([]:List Zb).map Za)] ++ [.sl m_] ++ [.int .i64 0] ++ [.int .i64 1])))],[])) (zm) [2] [0,102] [] kr (sound _ _) trivial ?_
 refine WA.ret ?_
 obtain rfl:=Option.some.inj hF
 exact Zp (.val true (pvL (Zd (⟨4,([]:List Zb),([y101.1]:List Ze),0,1⟩:Ze)))) [.box (pvL (Zc y106.2))] kr kr kr kr (by decide) rfl rfl }
 {
 have hF:=Zj hF hb107
 refine WA.seq ?_
 obtain ⟨y108,hy108,hF⟩:=bind_some hF
 refine WA.reg [0,2,3,24] [0,102,103] [(1,.call [0] (one (.bool y108.1)) [.box (pvL (Zc y108.2))] [])] (env':=[(0,.val false [.ptr 0 1 0 0]),(2,.val false [.ptr 102 1 0 0]),(3,.val false [.ptr 103 1 0 0]),(24,one (.bool y108.1))]) (os':=[(0,.box (pvL (Zc y108.2))),(102,.box (pvL (Zd (⟨0,([]:List Zb),([]:List Ze),0,0⟩:Ze)))),(103,.box (pvL (Zd y101.1)))]) (O:=[Sim Tryz.prog GL0 74 [.val false [.ptr 0 1 0 0],one (.int .u8 123)] [.box (pvL (Zc y106.2))] (one (.bool y108.1)) [.box (pvL (Zc y108.2))],([0]:List Nat).Nodup]) kr (sound _ _) ⟨(Zat k _ _ _ hy108),(by decide),trivial⟩ ?_
 refine WA.cond (b:=y108.1) rfl (fun hb109=>?_) (fun hb109=>?_)
 {
 have hF:=Zk hF hb109
 refine WA.seq ?_
 obtain ⟨y110,hy110,hF⟩:=bind_some hF
 refine WA.reg [2] [0,102] [(2,.call [0] (.val true (pvL (Zd y110.1))) [.box (pvL (Zc y110.2))] [])] (env':=[(2,.val false [.ptr 102 1 0 0])]) (os':=[(0,.box (pvL (Zc y110.2))),(102,.box (pvL (Zd y110.1)))]) (O:=[Sim Tryz.prog GL0 120 [.val false [.ptr 0 1 0 0],.val true (pvL (Zd y101.1))] [.box (pvL (Zc y108.2))] (.val true (pvL (Zd y110.1))) [.box (pvL (Zc y110.2))],([0]:List Nat).Nodup]) kr (sound _ _) ⟨(ZnU k _ _ _ hy110),(by decide),trivial⟩ ?_
 refine WA.ret ?_
 obtain rfl:=Option.some.inj hF
 exact Zp (.val true (pvL (Zd y110.1))) [.box (pvL (Zc y110.2))] kr kr kr kr (by decide) rfl rfl }
 {
 have hF:=Zj hF hb109
 refine WA.skip ?_
 refine WA.seq ?_
 refine WA.reg [2] [0,102] [] (env':=[(2,.val false [.ptr 102 1 0 0])]) (os':=[(0,.box (pvL (Zc y108.2))),(102,.box (pvL (Zd y101.1)))]) (O:=[]) kr (sound _ _) trivial ?_
 refine WA.ret ?_
 obtain rfl:=Option.some.inj hF
 exact Zp (.val true (pvL (Zd y101.1))) [.box (pvL (Zc y108.2))] kr kr kr kr (by decide) rfl rfl } } } }
def Zcb (R51:Zf→Option (Ze×Zf)) (k:Nat) (self2:Zf→(List Ze)→Option (Ze×Zf)) (v122:Zf) (v123:List Ze) (v130:Bool):Option (Ze×Zf):=
  cond v130 ((F101 R51 k v122).bind fun y132=>if v123.length+([y132.1]:List Ze).length≤1073741824 then self2 y132.2 (v123 ++ ([y132.1]:List Ze)) else none) (((cond ((v123.length:Int) == 1) (if (0:Int)≤0∧0<(v123.length:Int) then (idxL v123 0).bind fun y136=>(some (y136,v122)) else none) (((some ((⟨2,([]:List Zb),v123,0,0⟩:Ze),v122)))))))
def ZcM (R51:Zf→Option (Ze×Zf)) (k:Nat) (self2:Zf→(List Ze)→Option (Ze×Zf)) (v122:Zf) (v123:List Ze):Option (Ze×Zf):=
  cond (!v122.f_Bad) (cond (decide (v122.f_I<(v122.f_S.length:Int))) ((F100 k v122).bind fun y127=>cond (y127 != 124) ((F100 k v122).bind fun y129=>(Zcb R51 k self2 v122 v123 (y129 != 41))) ((Zcb R51 k self2 v122 v123 false))) ((Zcb R51 k self2 v122 v123 false))) ((Zcb R51 k self2 v122 v123 false))
def ZbQ (R51:Zf→Option (Ze×Zf)) (k:Nat):Nat→Zf→(List Ze)→Option (Ze×Zf)
  | 0,_,_=>none
  | m_+1,v122,v123=>ZcM R51 k (ZbQ R51 k m_) v122 v123
def F73 (R51:Zf→Option (Ze×Zf)) (k:Nat) (v0:Zf):Option (Ze×Zf):=
  ((ZbQ R51 k k v0 ([]:List Ze)))
theorem Zl8 (R51:Zf→Option (Ze×Zf)) (IH51:∀(v0:Zf) (r:Ze×Zf),R51 v0=some r→Sim Tryz.prog GL0 51 [.val false [.ptr 0 1 0 0]] [.box (pvL (Zc v0))] (.val true (pvL (Zd r.1))) [.box (pvL (Zc r.2))]) (k:Nat) (v0:Zf) (r:Ze×Zf) (hF:F73 R51 k v0=some r):Sim Tryz.prog GL0 73 [.val false [.ptr 0 1 0 0]] [.box (pvL (Zc v0))] (.val true (pvL (Zd r.1))) [.box (pvL (Zc r.2))]:=by
 refine ZB [0] Tryz.func73 rfl kr kr ?_
 show WA _ _ 44 _ _ _
 refine WA.seq ?_
 refine WA.reg [0,2] [0,102] [(0,.obj 102)] (env':=[(0,.val false [.ptr 0 1 0 0]),(2,.val false [.ptr 102 1 0 0])]) (os':=[(0,.box (pvL (Zc v0))),(102,.box (pvL (Zd (⟨0,([]:List Zb),([]:List Ze),0,0⟩:Ze))))]) (O:=[]) kr (sound _ _) trivial ?_
 refine WA.seq ?_
 refine WA.reg [0,2,3] [0,102,103] [(0,.obj 103)] (env':=[(0,.val false [.ptr 0 1 0 0]),(2,.val false [.ptr 102 1 0 0]),(3,.val false [.arr 103 0])]) (os':=[(0,.box (pvL (Zc v0))),(102,.box (pvL (Zd (⟨0,([]:List Zb),([]:List Ze),0,0⟩:Ze)))),(103,.arr 5 (Zm ([]:List Ze)))]) (O:=[]) kr (sound _ _) trivial ?_
 refine WA.seq ?_
 refine WA.block ?_
 refine WA.loop (fun m s_=>∃(v122:Zf) (v123:List Ze) (v124:Nat),Zl s_.env [0,2,3]=[(0,.val false [.ptr 0 1 0 0]),(2,.val false [.ptr 102 1 0 0]),(3,.val false [.arr 103 v124])]∧Zl s_.os [0,102,103]=[(0,.box (pvL (Zc v122))),(102,.box (pvL (Zd (⟨0,([]:List Zb),([]:List Ze),0,0⟩:Ze)))),(103,.arr 5 (Zm v123))]∧v124=(v123:List _).length∧ZbQ R51 k m v122 v123=some r) k ⟨v0,([]:List Ze),0,kr,kr,zt,hF⟩ ?_
 clear hF
 rintro m2 s_ ⟨v122,v123,v124,he,ho,hn_v124,hF⟩
 refine WA.keep _ _ he ho ?_
 clear he ho
 cases m2 with
 | zero=>cases hF
 | succ m2=>
  obtain ⟨self2,hself2⟩:∃g,g=ZbQ R51 k m2:=⟨_,rfl⟩
  have hF:ZcM R51 k self2 v122 v123=some r:=by first | (rw [hself2];exact hF) | exact hF
  refine WA.seq ?_
  refine WA.join (fun s_=>∃(v130:Bool),Zl s_.env [0,2,3,30]=[(0,.val false [.ptr 0 1 0 0]),(2,.val false [.ptr 102 1 0 0]),(3,.val false [.arr 103 v124]),(30,one (.bool v130))]∧Zl s_.os [0,102,103]=[(0,.box (pvL (Zc v122))),(102,.box (pvL (Zd (⟨0,([]:List Zb),([]:List Ze),0,0⟩:Ze)))),(103,.arr 5 (Zm v123))]∧Zcb R51 k self2 v122 v123 v130=some r) ?_ ?_
  {
 rintro s_ ⟨v130,he,ho,hF⟩
 refine WA.keep _ _ he ho ?_
 clear he ho
 refine WA.cond (b:=v130) rfl (fun hb131=>?_) (fun hb131=>?_)
 {
 have hF:=Zk hF hb131
 refine WA.skip ?_
 refine WA.block ?_
 obtain ⟨y132,hy132,hF⟩:=bind_some hF
 obtain ⟨hc133,hF⟩:=Zo hF
 refine WA.rm (α:=(List (List PV))×(List (List PV))) (raw:=(((Zm v123) ++ ([(Zd y132.1)])),[(Zd y132.1)])) (can:=((Zm (v123 ++ ([y132.1]:List Ze))),(Zm ([y132.1]:List Ze)))) (fun m_=>([(0,.val false [.ptr 0 1 0 0]),(2,.val false [.ptr 102 1 0 0]),(3,.val false [.arr 103 (v124+1)])],[(0,.box (pvL (Zc y132.2))),(102,.box (pvL (Zd (⟨0,([]:List Zb),([]:List Ze),0,0⟩:Ze)))),(103,.arr 5 m_.1)],[Sim Tryz.prog GL0 101 [.val false [.ptr 0 1 0 0]] [.box (pvL (Zc v122))] (.val true (pvL (Zd y132.1))) [.box (pvL (Zc y132.2))],([0]:List Nat).Nodup,v124=(Zm v123).length,(Zm v123).length+m_.2.length≤1073741824,∀es,es∈m_.2→es.length=5])) (ZE zm zm) [0,2,3] [0,102,103] [(2,.call [0] (.val true (pvL (Zd y132.1))) [.box (pvL (Zc y132.2))] [])] kr (sound _ _) ⟨(ZnN R51 IH51 k _ _ hy132),(by decide),zt,(by first | exact hc133 | (simp only [List.length_map,Zh];exact hc133)),(Zci ([y132.1]:List Ze)),trivial⟩ ?_
 exact ⟨m2,Nat.lt_succ_self _,y132.2,(v123 ++ ([y132.1]:List Ze)),(v124+1),kr,kr,zt,by rw [hself2] at hF;exact hF⟩ }
 {
 have hF:=Zj hF hb131
 refine WA.exit ?_
 refine WA.seq ?_
 refine WA.seq ?_
 refine WA.rm (α:=Int) (raw:=((v124:Nat):Int)) (can:=(v123.length:Int)) (fun m_=>([(2,.val false [.ptr 102 1 0 0]),(3,.val false [.arr 103 v124]),(38,one (.bool (m_ == 1)))],[(0,.box (pvL (Zc v122))),(102,.box (pvL (Zd (⟨0,([]:List Zb),([]:List Ze),0,0⟩:Ze)))),(103,.arr 5 (Zm v123))],[])) ((by first | (simp only [zl,Zh];done) | (simp only [zl,Zh];omega) | omega)) [2,3,38] [0,102,103] [] kr (sound _ _) trivial ?_
 refine WA.cond (b:=((v123.length:Int) == 1)) rfl (fun hb134=>?_) (fun hb134=>?_)
 {
 have hF:=Zk hF hb134
 refine WA.seq ?_
 obtain ⟨hc135,hF⟩:=Zo hF
 obtain ⟨y136,hy136,hF⟩:=bind_some hF
 refine WA.reg [2] [0,102] [(2,.cells (Zd y136))] (env':=[(2,.val false [.ptr 102 1 0 0])]) (os':=[(0,.box (pvL (Zc v122))),(102,.box (pvL (Zd y136)))]) (O:=[v124=(Zm v123).length,(0:Int)≤0,0<((v124:Nat):Int),v124=(Zm v123).length,(Zm v123)[Int.toNat 0]?=some (Zd y136)]) kr (sound _ _) ⟨zt,hc135.1,(by have h_:=hc135.2;(try simp only [zl,Zh] at h_ ⊢);omega),zt,(Zr (ZR hy136)),trivial⟩ ?_
 refine WA.ret ?_
 obtain rfl:=Option.some.inj hF
 exact Zp (.val true (pvL (Zd y136))) [.box (pvL (Zc v122))] kr kr kr kr (by decide) rfl rfl }
 {
 have hF:=Zj hF hb134
 refine WA.skip ?_
 refine WA.seq ?_
 refine WA.freeze 103 3 (s:=5) (n:=v124) (els:=(Zm v123)) rfl rfl zt ?_
 refine WA.keep [2,3] [0,102] (env':=[(2,.val false [.ptr 102 1 0 0]),(3,one (.sl (Zm v123)))]) (os':=[(0,.box (pvL (Zc v122))),(102,.box (pvL (Zd (⟨0,([]:List Zb),([]:List Ze),0,0⟩:Ze))))]) kr kr ?_
 refine WA.reg [2] [0,102] [] (env':=[(2,.val false [.ptr 102 1 0 0])]) (os':=[(0,.box (pvL (Zc v122))),(102,.box (pvL (Zd (⟨2,([]:List Zb),v123,0,0⟩:Ze))))]) (O:=[]) kr (sound _ _) trivial ?_
 refine WA.ret ?_
 obtain rfl:=Option.some.inj hF
 exact Zp (.val true (pvL (Zd (⟨2,([]:List Zb),v123,0,0⟩:Ze)))) [.box (pvL (Zc v122))] kr kr kr kr (by decide) rfl rfl } } }
  {
 rcases Bool.eq_false_or_eq_true (!v122.f_Bad) with hb125 | hb125
 {
 have hF:=Zk hF hb125
 rcases Bool.eq_false_or_eq_true (decide (v122.f_I<(v122.f_S.length:Int))) with hb126 | hb126
 {
 have hF:=Zk hF hb126
 obtain ⟨y127,hy127,hF⟩:=bind_some hF
 rcases Bool.eq_false_or_eq_true (y127 != 124) with hb128 | hb128
 {
 have hF:=Zk hF hb128
 obtain ⟨y129,hy129,hF⟩:=bind_some hF
 refine WA.regD kr [0,2,3,30] [0,102,103] [(5,.bool true),(17,.bool true),(19,.callR [0] (one (.int .u8 y127))),(22,.bool true),(24,.callR [0] (one (.int .u8 y129)))] (env':=[(0,.val false [.ptr 0 1 0 0]),(2,.val false [.ptr 102 1 0 0]),(3,.val false [.arr 103 v124]),(30,one (.bool (y129 != 41)))]) (os':=[(0,.box (pvL (Zc v122))),(102,.box (pvL (Zd (⟨0,([]:List Zb),([]:List Ze),0,0⟩:Ze)))),(103,.arr 5 (Zm v123))]) (O:=[(!v122.f_Bad)=true,(decide (v122.f_I<(v122.f_S.length:Int)))=true,Sim Tryz.prog GL0 100 [.val false [.ptr 0 1 0 0]] [.box (pvL (Zc v122))] (one (.int .u8 y127)) [.box (pvL (Zc v122))],([0]:List Nat).Nodup,(y127 != 124)=true,Sim Tryz.prog GL0 100 [.val false [.ptr 0 1 0 0]] [.box (pvL (Zc v122))] (one (.int .u8 y129)) [.box (pvL (Zc v122))],([0]:List Nat).Nodup]) kr kr (sound _ _) ⟨hb125,hb126,(Zao k _ _ hy127),(by decide),hb128,(Zao k _ _ hy129),(by decide),trivial⟩ ?_
 exact ⟨(y129 != 41),kr,kr,hF⟩ }
 {
 have hF:=Zj hF hb128
 refine WA.regD kr [0,2,3,30] [0,102,103] [(5,.bool true),(17,.bool true),(19,.callR [0] (one (.int .u8 y127))),(22,.bool false),(24,.callR [] (.tup []))] (env':=[(0,.val false [.ptr 0 1 0 0]),(2,.val false [.ptr 102 1 0 0]),(3,.val false [.arr 103 v124]),(30,one (.bool false))]) (os':=[(0,.box (pvL (Zc v122))),(102,.box (pvL (Zd (⟨0,([]:List Zb),([]:List Ze),0,0⟩:Ze)))),(103,.arr 5 (Zm v123))]) (O:=[(!v122.f_Bad)=true,(decide (v122.f_I<(v122.f_S.length:Int)))=true,Sim Tryz.prog GL0 100 [.val false [.ptr 0 1 0 0]] [.box (pvL (Zc v122))] (one (.int .u8 y127)) [.box (pvL (Zc v122))],([0]:List Nat).Nodup,(y127 != 124)=false]) kr kr (sound _ _) ⟨hb125,hb126,(Zao k _ _ hy127),(by decide),hb128,trivial⟩ ?_
 exact ⟨false,kr,kr,hF⟩ } }
 {
 have hF:=Zj hF hb126
 refine WA.regD kr [0,2,3,30] [0,102,103] [(5,.bool true),(17,.bool false),(19,.callR [] (.tup [])),(24,.callR [] (.tup []))] (env':=[(0,.val false [.ptr 0 1 0 0]),(2,.val false [.ptr 102 1 0 0]),(3,.val false [.arr 103 v124]),(30,one (.bool false))]) (os':=[(0,.box (pvL (Zc v122))),(102,.box (pvL (Zd (⟨0,([]:List Zb),([]:List Ze),0,0⟩:Ze)))),(103,.arr 5 (Zm v123))]) (O:=[(!v122.f_Bad)=true,(decide (v122.f_I<(v122.f_S.length:Int)))=false]) kr kr (sound _ _) ⟨hb125,hb126,trivial⟩ ?_
 exact ⟨false,kr,kr,hF⟩ } }
 {
 have hF:=Zj hF hb125
 refine WA.regD kr [0,2,3,30] [0,102,103] [(5,.bool false),(19,.callR [] (.tup [])),(24,.callR [] (.tup []))] (env':=[(0,.val false [.ptr 0 1 0 0]),(2,.val false [.ptr 102 1 0 0]),(3,.val false [.arr 103 v124]),(30,one (.bool false))]) (os':=[(0,.box (pvL (Zc v122))),(102,.box (pvL (Zd (⟨0,([]:List Zb),([]:List Ze),0,0⟩:Ze)))),(103,.arr 5 (Zm v123))]) (O:=[(!v122.f_Bad)=false]) kr kr (sound _ _) ⟨hb125,trivial⟩ ?_
 exact ⟨false,kr,kr,hF⟩ } }
def ZbO (R51:Zf→Option (Ze×Zf)) (k:Nat) (self0:Zf→(List Ze)→Option (Ze×Zf)) (v113:Zf) (v114:List Ze):Option (Ze×Zf):=
  (F74 k v113 124).bind fun y116=>(cond y116.1 ((F73 R51 k y116.2).bind fun y118=>if v114.length+([y118.1]:List Ze).length≤1073741824 then self0 y118.2 (v114 ++ ([y118.1]:List Ze)) else none) (((cond ((v114.length:Int) == 1) (if (0:Int)≤0∧0<(v114.length:Int) then (idxL v114 0).bind fun y122=>(some (y122,y116.2)) else none) (((some ((⟨3,([]:List Zb),v114,0,0⟩:Ze),y116.2))))))))
def ZbP (R51:Zf→Option (Ze×Zf)) (k:Nat):Nat→Zf→(List Ze)→Option (Ze×Zf)
  | 0,_,_=>none
  | m_+1,v113,v114=>ZbO R51 k (ZbP R51 k m_) v113 v114
def Zgv (R51:Zf→Option (Ze×Zf)) (k:Nat) (v0:Zf):Option (Ze×Zf):=
  (F73 R51 k v0).bind fun y101=>(ZbP R51 k k y101.2 ([y101.1]:List Ze))
theorem Zm1 (R51:Zf→Option (Ze×Zf)) (IH51:∀(v0:Zf) (r:Ze×Zf),R51 v0=some r→Sim Tryz.prog GL0 51 [.val false [.ptr 0 1 0 0]] [.box (pvL (Zc v0))] (.val true (pvL (Zd r.1))) [.box (pvL (Zc r.2))]) (k:Nat) (v0:Zf) (r:Ze×Zf) (hF:Zgv R51 k v0=some r):Sim Tryz.prog GL0 51 [.val false [.ptr 0 1 0 0]] [.box (pvL (Zc v0))] (.val true (pvL (Zd r.1))) [.box (pvL (Zc r.2))]:=by
 refine ZB [0] Tryz.func51 rfl kr kr ?_
 show WA _ _ 22 _ _ _
 refine WA.seq ?_
 refine WA.reg [0,2] [0,102] [(0,.obj 102)] (env':=[(0,.val false [.ptr 0 1 0 0]),(2,.val false [.ptr 102 1 0 0])]) (os':=[(0,.box (pvL (Zc v0))),(102,.box (pvL (Zd (⟨0,([]:List Zb),([]:List Ze),0,0⟩:Ze))))]) (O:=[]) kr (sound _ _) trivial ?_
 refine WA.seq ?_
 obtain ⟨y101,hy101,hF⟩:=bind_some hF
 refine WA.rm (α:=(List (List PV))) (raw:=[(Zd y101.1)]) (can:=(Zm ([y101.1]:List Ze))) (fun m_=>([(0,.val false [.ptr 0 1 0 0]),(2,.val false [.ptr 102 1 0 0]),(3,.val false [.arr 106 1])],[(0,.box (pvL (Zc y101.2))),(102,.box (pvL (Zd (⟨0,([]:List Zb),([]:List Ze),0,0⟩:Ze)))),(106,.arr 5 m_)],[Sim Tryz.prog GL0 73 [.val false [.ptr 0 1 0 0]] [.box (pvL (Zc v0))] (.val true (pvL (Zd y101.1))) [.box (pvL (Zc y101.2))],([0]:List Nat).Nodup])) (zm) [0,2,3] [0,102,106] [(1,.call [0] (.val true (pvL (Zd y101.1))) [.box (pvL (Zc y101.2))] []),(2,.obj 106)] kr (sound _ _) ⟨(Zl8 R51 IH51 k _ _ hy101),(by decide),trivial⟩ ?_
 refine WA.seq ?_
 refine WA.block ?_
 refine WA.loop (fun m s_=>∃(v113:Zf) (v114:List Ze) (v115:Nat),Zl s_.env [0,2,3]=[(0,.val false [.ptr 0 1 0 0]),(2,.val false [.ptr 102 1 0 0]),(3,.val false [.arr 106 v115])]∧Zl s_.os [0,102,106]=[(0,.box (pvL (Zc v113))),(102,.box (pvL (Zd (⟨0,([]:List Zb),([]:List Ze),0,0⟩:Ze)))),(106,.arr 5 (Zm v114))]∧v115=(v114:List _).length∧ZbP R51 k m v113 v114=some r) k ⟨y101.2,([y101.1]:List Ze),1,kr,kr,zt,hF⟩ ?_
 clear hF
 rintro m0 s_ ⟨v113,v114,v115,he,ho,hn_v115,hF⟩
 refine WA.keep _ _ he ho ?_
 clear he ho
 cases m0 with
 | zero=>cases hF
 | succ m0=>
  obtain ⟨self0,hself0⟩:∃g,g=ZbP R51 k m0:=⟨_,rfl⟩
  have hF:ZbO R51 k self0 v113 v114=some r:=by first | (rw [hself0];exact hF) | exact hF
  refine WA.seq ?_
  refine WA.seq ?_
  obtain ⟨y116,hy116,hF⟩:=bind_some hF
  refine WA.reg [0,2,3,8] [0,102,106] [(1,.call [0] (one (.bool y116.1)) [.box (pvL (Zc y116.2))] [])] (env':=[(0,.val false [.ptr 0 1 0 0]),(2,.val false [.ptr 102 1 0 0]),(3,.val false [.arr 106 v115]),(8,one (.bool y116.1))]) (os':=[(0,.box (pvL (Zc y116.2))),(102,.box (pvL (Zd (⟨0,([]:List Zb),([]:List Ze),0,0⟩:Ze)))),(106,.arr 5 (Zm v114))]) (O:=[Sim Tryz.prog GL0 74 [.val false [.ptr 0 1 0 0],one (.int .u8 124)] [.box (pvL (Zc v113))] (one (.bool y116.1)) [.box (pvL (Zc y116.2))],([0]:List Nat).Nodup]) kr (sound _ _) ⟨(Zat k _ _ _ hy116),(by decide),trivial⟩ ?_
  refine WA.cond (b:=y116.1) rfl (fun hb117=>?_) (fun hb117=>?_)
  {
 have hF:=Zk hF hb117
 refine WA.skip ?_
 refine WA.block ?_
 obtain ⟨y118,hy118,hF⟩:=bind_some hF
 obtain ⟨hc119,hF⟩:=Zo hF
 refine WA.rm (α:=(List (List PV))×(List (List PV))) (raw:=(((Zm v114) ++ ([(Zd y118.1)])),[(Zd y118.1)])) (can:=((Zm (v114 ++ ([y118.1]:List Ze))),(Zm ([y118.1]:List Ze)))) (fun m_=>([(0,.val false [.ptr 0 1 0 0]),(2,.val false [.ptr 102 1 0 0]),(3,.val false [.arr 106 (v115+1)])],[(0,.box (pvL (Zc y118.2))),(102,.box (pvL (Zd (⟨0,([]:List Zb),([]:List Ze),0,0⟩:Ze)))),(106,.arr 5 m_.1)],[Sim Tryz.prog GL0 73 [.val false [.ptr 0 1 0 0]] [.box (pvL (Zc y116.2))] (.val true (pvL (Zd y118.1))) [.box (pvL (Zc y118.2))],([0]:List Nat).Nodup,v115=(Zm v114).length,(Zm v114).length+m_.2.length≤1073741824,∀es,es∈m_.2→es.length=5])) (ZE zm zm) [0,2,3] [0,102,106] [(2,.call [0] (.val true (pvL (Zd y118.1))) [.box (pvL (Zc y118.2))] [])] kr (sound _ _) ⟨(Zl8 R51 IH51 k _ _ hy118),(by decide),zt,(by first | exact hc119 | (simp only [List.length_map,Zh];exact hc119)),(Zci ([y118.1]:List Ze)),trivial⟩ ?_
 exact ⟨m0,Nat.lt_succ_self _,y118.2,(v114 ++ ([y118.1]:List Ze)),(v115+1),kr,kr,zt,by rw [hself0] at hF;exact hF⟩ }
  {
 have hF:=Zj hF hb117
 refine WA.exit ?_
 refine WA.seq ?_
 refine WA.seq ?_
 refine WA.rm (α:=Int) (raw:=((v115:Nat):Int)) (can:=(v114.length:Int)) (fun m_=>([(2,.val false [.ptr 102 1 0 0]),(3,.val false [.arr 106 v115]),(16,one (.bool (m_ == 1)))],[(0,.box (pvL (Zc y116.2))),(102,.box (pvL (Zd (⟨0,([]:List Zb),([]:List Ze),0,0⟩:Ze)))),(106,.arr 5 (Zm v114))],[])) ((by first | (simp only [zl,Zh];done) | (simp only [zl,Zh];omega) | omega)) [2,3,16] [0,102,106] [] kr (sound _ _) trivial ?_
 refine WA.cond (b:=((v114.length:Int) == 1)) rfl (fun hb120=>?_) (fun hb120=>?_)
 {
 have hF:=Zk hF hb120
 refine WA.seq ?_
 obtain ⟨hc121,hF⟩:=Zo hF
 obtain ⟨y122,hy122,hF⟩:=bind_some hF
 refine WA.reg [2] [0,102] [(2,.cells (Zd y122))] (env':=[(2,.val false [.ptr 102 1 0 0])]) (os':=[(0,.box (pvL (Zc y116.2))),(102,.box (pvL (Zd y122)))]) (O:=[v115=(Zm v114).length,(0:Int)≤0,0<((v115:Nat):Int),v115=(Zm v114).length,(Zm v114)[Int.toNat 0]?=some (Zd y122)]) kr (sound _ _) ⟨zt,hc121.1,(by have h_:=hc121.2;(try simp only [zl,Zh] at h_ ⊢);omega),zt,(Zr (ZR hy122)),trivial⟩ ?_
 refine WA.ret ?_
 obtain rfl:=Option.some.inj hF
 exact Zp (.val true (pvL (Zd y122))) [.box (pvL (Zc y116.2))] kr kr kr kr (by decide) rfl rfl }
 {
 have hF:=Zj hF hb120
 refine WA.skip ?_
 refine WA.seq ?_
 refine WA.freeze 106 3 (s:=5) (n:=v115) (els:=(Zm v114)) rfl rfl zt ?_
 refine WA.keep [2,3] [0,102] (env':=[(2,.val false [.ptr 102 1 0 0]),(3,one (.sl (Zm v114)))]) (os':=[(0,.box (pvL (Zc y116.2))),(102,.box (pvL (Zd (⟨0,([]:List Zb),([]:List Ze),0,0⟩:Ze))))]) kr kr ?_
 refine WA.reg [2] [0,102] [] (env':=[(2,.val false [.ptr 102 1 0 0])]) (os':=[(0,.box (pvL (Zc y116.2))),(102,.box (pvL (Zd (⟨3,([]:List Zb),v114,0,0⟩:Ze))))]) (O:=[]) kr (sound _ _) trivial ?_
 refine WA.ret ?_
 obtain rfl:=Option.some.inj hF
 exact Zp (.val true (pvL (Zd (⟨3,([]:List Zb),v114,0,0⟩:Ze)))) [.box (pvL (Zc y116.2))] kr kr kr kr (by decide) rfl rfl } }
def F51:Nat→Zf→Option (Ze×Zf)
  | 0,_=>none
  | k+1,v0=>Zgv (F51 k) k v0
theorem Zl4:∀(k:Nat),∀(v0:Zf) (r:Ze×Zf),F51 k v0=some r→Sim Tryz.prog GL0 51 [.val false [.ptr 0 1 0 0]] [.box (pvL (Zc v0))] (.val true (pvL (Zd r.1))) [.box (pvL (Zc r.2))]
  | 0=>fun _ _ hF=>by cases hF
  | k+1=>fun v0 r hF=>Zm1 (F51 k) (Zl4 k) k v0 r hF
def Zfv (y104:Ze×Zf) (v112:Bool):Option (Ze×Int):=
  cond v112 ((some ((⟨0,([]:List Zb),([]:List Ze),0,0⟩:Ze),8))) (((some (y104.1,0))))
def Zhq (k:Nat) (y104:Ze×Zf) (v106:Bool):Option (Ze×Int):=
  cond v106 ((some ((⟨0,([]:List Zb),([]:List Ze),0,0⟩:Ze),3))) ((cond y104.2.f_Long ((Zfv y104 true)) ((F20 k y104.1).bind fun y109=>cond (decide (y109 > 200)) ((Zfv y104 true)) ((F42 k y104.1 1).bind fun y111=>(Zfv y104 (decide (y111 > 14)))))))
def F28 (k:Nat) (v0:List UInt8):Option (Ze×Int):=
  ((cond (decide ((v0.length:Int) > 400)) ((some ((⟨0,([]:List Zb),([]:List Ze),0,0⟩:Ze),8))) ((F25 k v0).bind fun y102=>(cond (!y102) ((some ((⟨0,([]:List Zb),([]:List Ze),0,0⟩:Ze),3))) (((F51 k (⟨v0,0,false,false⟩:Zf)).bind fun y104=>(cond y104.2.f_Bad ((Zhq k y104 true)) ((Zhq k y104 (y104.2.f_I != (v0.length:Int)))))))))))
theorem ZoF (k:Nat) (v0:List UInt8) (r:Ze×Int) (hF:F28 k v0=some r):Sim Tryz.prog GL0 28 [one (.str v0)] [] (.tup [(true,pvL (Zd r.1)),(false,[.pv (.int .i64 r.2)])]) []:=by
 refine ZB [] Tryz.func28 rfl kr kr ?_
 show WA _ _ 49 _ _ _
 refine WA.seq ?_
 refine WA.reg [0,2] [102] [(0,.obj 102)] (env':=[(0,one (.str v0)),(2,.val false [.ptr 102 1 0 0])]) (os':=[(102,.box (pvL (Zd (⟨0,([]:List Zb),([]:List Ze),0,0⟩:Ze))))]) (O:=[]) kr (sound _ _) trivial ?_
 refine WA.seq ?_
 refine WA.seq ?_
 refine WA.reg [0,2,8] [102] [] (env':=[(0,one (.str v0)),(2,.val false [.ptr 102 1 0 0]),(8,one (.bool (decide ((v0.length:Int) > 400))))]) (os':=[(102,.box (pvL (Zd (⟨0,([]:List Zb),([]:List Ze),0,0⟩:Ze))))]) (O:=[]) kr (sound _ _) trivial ?_
 refine WA.cond (b:=(decide ((v0.length:Int) > 400))) rfl (fun hb101=>?_) (fun hb101=>?_)
 {
 have hF:=Zk hF hb101
 refine WA.seq ?_
 refine WA.reg [2,3] [102] [] (env':=[(2,.val false [.ptr 102 1 0 0]),(3,one (.int .i64 8))]) (os':=[(102,.box (pvL (Zd (⟨0,([]:List Zb),([]:List Ze),0,0⟩:Ze))))]) (O:=[]) kr (sound _ _) trivial ?_
 refine WA.ret ?_
 obtain rfl:=Option.some.inj hF
 exact Zp (.tup [(true,pvL (Zd (⟨0,([]:List Zb),([]:List Ze),0,0⟩:Ze))),(false,[.pv (.int .i64 8)])]) [] kr kr kr kr (by decide) rfl rfl }
 {
 have hF:=Zj hF hb101
 refine WA.skip ?_
 refine WA.seq ?_
 refine WA.seq ?_
 obtain ⟨y102,hy102,hF⟩:=bind_some hF
 refine WA.reg [0,2,12] [102] [(1,.callR [] (one (.bool y102)))] (env':=[(0,one (.str v0)),(2,.val false [.ptr 102 1 0 0]),(12,one (.bool (!y102)))]) (os':=[(102,.box (pvL (Zd (⟨0,([]:List Zb),([]:List Ze),0,0⟩:Ze))))]) (O:=[Sim Tryz.prog GL0 25 [one (.str v0)] [] (one (.bool y102)) [],([]:List Nat).Nodup]) kr (sound _ _) ⟨(ZoE k _ _ hy102),(by decide),trivial⟩ ?_
 refine WA.cond (b:=(!y102)) rfl (fun hb103=>?_) (fun hb103=>?_)
 {
 have hF:=Zk hF hb103
 refine WA.seq ?_
 refine WA.reg [2,3] [102] [] (env':=[(2,.val false [.ptr 102 1 0 0]),(3,one (.int .i64 3))]) (os':=[(102,.box (pvL (Zd (⟨0,([]:List Zb),([]:List Ze),0,0⟩:Ze))))]) (O:=[]) kr (sound _ _) trivial ?_
 refine WA.ret ?_
 obtain rfl:=Option.some.inj hF
 exact Zp (.tup [(true,pvL (Zd (⟨0,([]:List Zb),([]:List Ze),0,0⟩:Ze))),(false,[.pv (.int .i64 3)])]) [] kr kr kr kr (by decide) rfl rfl }
 {
 have hF:=Zj hF hb103
 refine WA.skip ?_
 refine WA.seq ?_
 refine WA.reg [0,2,4] [102,116] [(2,.obj 116)] (env':=[(0,one (.str v0)),(2,.val false [.ptr 102 1 0 0]),(4,.val false [.ptr 116 1 0 0])]) (os':=[(102,.box (pvL (Zd (⟨0,([]:List Zb),([]:List Ze),0,0⟩:Ze)))),(116,.box (pvL (Zc (⟨v0,0,false,false⟩:Zf))))]) (O:=[]) kr (sound _ _) trivial ?_
 refine WA.seq ?_
 obtain ⟨y104,hy104,hF⟩:=bind_some hF
 refine WA.reg [0,2,4,5] [102,105,116] [(1,.call [116] (.val true (pvL (Zd y104.1))) [.box (pvL (Zc y104.2))] []),(2,.obj 105)] (env':=[(0,one (.str v0)),(2,.val false [.ptr 102 1 0 0]),(4,.val false [.ptr 116 1 0 0]),(5,.val false [.ptr 105 1 0 0])]) (os':=[(102,.box (pvL (Zd (⟨0,([]:List Zb),([]:List Ze),0,0⟩:Ze)))),(105,.box (pvL (Zd y104.1))),(116,.box (pvL (Zc y104.2)))]) (O:=[Sim Tryz.prog GL0 51 [.val false [.ptr 0 1 0 0]] [.box (pvL (Zc (⟨v0,0,false,false⟩:Zf)))] (.val true (pvL (Zd y104.1))) [.box (pvL (Zc y104.2))],([116]:List Nat).Nodup]) kr (sound _ _) ⟨(Zl4 k _ _ hy104),(by decide),trivial⟩ ?_
 refine WA.seq ?_
 refine WA.join (fun s_=>∃(v106:Bool),Zl s_.env [2,4,5,31]=[(2,.val false [.ptr 102 1 0 0]),(4,.val false [.ptr 116 1 0 0]),(5,.val false [.ptr 105 1 0 0]),(31,one (.bool v106))]∧Zl s_.os [102,105,116]=[(102,.box (pvL (Zd (⟨0,([]:List Zb),([]:List Ze),0,0⟩:Ze)))),(105,.box (pvL (Zd y104.1))),(116,.box (pvL (Zc y104.2)))]∧Zhq k y104 v106=some r) ?_ ?_
 {
 rintro s_ ⟨v106,he,ho,hF⟩
 refine WA.keep _ _ he ho ?_
 clear he ho
 refine WA.cond (b:=v106) rfl (fun hb107=>?_) (fun hb107=>?_)
 {
 have hF:=Zk hF hb107
 refine WA.seq ?_
 refine WA.reg [2,3] [102] [] (env':=[(2,.val false [.ptr 102 1 0 0]),(3,one (.int .i64 3))]) (os':=[(102,.box (pvL (Zd (⟨0,([]:List Zb),([]:List Ze),0,0⟩:Ze))))]) (O:=[]) kr (sound _ _) trivial ?_
 refine WA.ret ?_
 obtain rfl:=Option.some.inj hF
 exact Zp (.tup [(true,pvL (Zd (⟨0,([]:List Zb),([]:List Ze),0,0⟩:Ze))),(false,[.pv (.int .i64 3)])]) [] kr kr kr kr (by decide) rfl rfl }
 {
 have hF:=Zj hF hb107
 refine WA.skip ?_
 refine WA.seq ?_
 refine WA.join (fun s_=>∃(v112:Bool),Zl s_.env [2,5,46]=[(2,.val false [.ptr 102 1 0 0]),(5,.val false [.ptr 105 1 0 0]),(46,one (.bool v112))]∧Zl s_.os [102,105]=[(102,.box (pvL (Zd (⟨0,([]:List Zb),([]:List Ze),0,0⟩:Ze)))),(105,.box (pvL (Zd y104.1)))]∧Zfv y104 v112=some r) ?_ ?_
 {
 rintro s_ ⟨v112,he,ho,hF⟩
 refine WA.keep _ _ he ho ?_
 clear he ho
 refine WA.cond (b:=v112) rfl (fun hb113=>?_) (fun hb113=>?_)
 {
 have hF:=Zk hF hb113
 refine WA.seq ?_
 refine WA.reg [2,3] [102] [] (env':=[(2,.val false [.ptr 102 1 0 0]),(3,one (.int .i64 8))]) (os':=[(102,.box (pvL (Zd (⟨0,([]:List Zb),([]:List Ze),0,0⟩:Ze))))]) (O:=[]) kr (sound _ _) trivial ?_
 refine WA.ret ?_
 obtain rfl:=Option.some.inj hF
 exact Zp (.tup [(true,pvL (Zd (⟨0,([]:List Zb),([]:List Ze),0,0⟩:Ze))),(false,[.pv (.int .i64 8)])]) [] kr kr kr kr (by decide) rfl rfl }
 {
 have hF:=Zj hF hb113
 refine WA.skip ?_
 refine WA.seq ?_
 refine WA.reg [2,3] [102] [] (env':=[(2,.val false [.ptr 102 1 0 0]),(3,one (.int .i64 0))]) (os':=[(102,.box (pvL (Zd y104.1)))]) (O:=[]) kr (sound _ _) trivial ?_
 refine WA.ret ?_
 obtain rfl:=Option.some.inj hF
 exact Zp (.tup [(true,pvL (Zd y104.1)),(false,[.pv (.int .i64 0)])]) [] kr kr kr kr (by decide) rfl rfl } }
 {
 rcases Bool.eq_false_or_eq_true y104.2.f_Long with hb108 | hb108
 {
 have hF:=Zk hF hb108
 refine WA.reg [2,5,46] [102,105] [(4,.bool true)] (env':=[(2,.val false [.ptr 102 1 0 0]),(5,.val false [.ptr 105 1 0 0]),(46,one (.bool true))]) (os':=[(102,.box (pvL (Zd (⟨0,([]:List Zb),([]:List Ze),0,0⟩:Ze)))),(105,.box (pvL (Zd y104.1)))]) (O:=[y104.2.f_Long=true]) kr (sound _ _) ⟨hb108,trivial⟩ ?_
 exact ⟨true,kr,kr,hF⟩ }
 {
 have hF:=Zj hF hb108
 obtain ⟨y109,hy109,hF⟩:=bind_some hF
 rcases Bool.eq_false_or_eq_true (decide (y109 > 200)) with hb110 | hb110
 {
 have hF:=Zk hF hb110
 refine WA.reg [2,5,46] [102,105] [(4,.bool false),(6,.callR [] (one (.int .i64 y109))),(9,.bool true)] (env':=[(2,.val false [.ptr 102 1 0 0]),(5,.val false [.ptr 105 1 0 0]),(46,one (.bool true))]) (os':=[(102,.box (pvL (Zd (⟨0,([]:List Zb),([]:List Ze),0,0⟩:Ze)))),(105,.box (pvL (Zd y104.1)))]) (O:=[y104.2.f_Long=false,Sim Tryz.prog GL0 20 [.val true (pvL (Zd y104.1))] [] (one (.int .i64 y109)) [],([]:List Nat).Nodup,(decide (y109 > 200))=true]) kr (sound _ _) ⟨hb108,(ZjG k _ _ hy109),(by decide),hb110,trivial⟩ ?_
 exact ⟨true,kr,kr,hF⟩ }
 {
 have hF:=Zj hF hb110
 obtain ⟨y111,hy111,hF⟩:=bind_some hF
 refine WA.reg [2,5,46] [102,105] [(4,.bool false),(6,.callR [] (one (.int .i64 y109))),(9,.bool false),(11,.callR [] (one (.int .i64 y111)))] (env':=[(2,.val false [.ptr 102 1 0 0]),(5,.val false [.ptr 105 1 0 0]),(46,one (.bool (decide (y111 > 14))))]) (os':=[(102,.box (pvL (Zd (⟨0,([]:List Zb),([]:List Ze),0,0⟩:Ze)))),(105,.box (pvL (Zd y104.1)))]) (O:=[y104.2.f_Long=false,Sim Tryz.prog GL0 20 [.val true (pvL (Zd y104.1))] [] (one (.int .i64 y109)) [],([]:List Nat).Nodup,(decide (y109 > 200))=false,Sim Tryz.prog GL0 42 [.val true (pvL (Zd y104.1)),one (.int .i64 1)] [] (one (.int .i64 y111)) [],([]:List Nat).Nodup]) kr (sound _ _) ⟨hb108,(ZjG k _ _ hy109),(by decide),hb110,(Zl1 k _ _ _ hy111),(by decide),trivial⟩ ?_
 exact ⟨(decide (y111 > 14)),kr,kr,hF⟩ } } } } }
 {
 rcases Bool.eq_false_or_eq_true y104.2.f_Bad with hb105 | hb105
 {
 have hF:=Zk hF hb105
 refine WA.reg [2,4,5,31] [102,105,116] [(4,.bool true)] (env':=[(2,.val false [.ptr 102 1 0 0]),(4,.val false [.ptr 116 1 0 0]),(5,.val false [.ptr 105 1 0 0]),(31,one (.bool true))]) (os':=[(102,.box (pvL (Zd (⟨0,([]:List Zb),([]:List Ze),0,0⟩:Ze)))),(105,.box (pvL (Zd y104.1))),(116,.box (pvL (Zc y104.2)))]) (O:=[y104.2.f_Bad=true]) kr (sound _ _) ⟨hb105,trivial⟩ ?_
 exact ⟨true,kr,kr,hF⟩ }
 {
 have hF:=Zj hF hb105
 refine WA.reg [2,4,5,31] [102,105,116] [(4,.bool false)] (env':=[(2,.val false [.ptr 102 1 0 0]),(4,.val false [.ptr 116 1 0 0]),(5,.val false [.ptr 105 1 0 0]),(31,one (.bool (y104.2.f_I != (v0.length:Int))))]) (os':=[(102,.box (pvL (Zd (⟨0,([]:List Zb),([]:List Ze),0,0⟩:Ze)))),(105,.box (pvL (Zd y104.1))),(116,.box (pvL (Zc y104.2)))]) (O:=[y104.2.f_Bad=false]) kr (sound _ _) ⟨hb105,trivial⟩ ?_
 exact ⟨(y104.2.f_I != (v0.length:Int)),kr,kr,hF⟩ } } } }
end Go.Proofs.YthilboheomikjaaGreatDoor
end
section
namespace Go.Proofs.YthilboheomikjaaGreatDoor
open Go.AL Go.Lib
set_option maxRecDepth 100000
def rx (s:List UInt8) (q:Nat) (b o:Bool):Zf:=⟨s,(q:Int),b,o⟩
def BadR (s:List UInt8) (r:Zf):Prop:=∃(q:Nat) (o:Bool),r=rx s q true o∧q≤s.length+1
def pk (s:List UInt8) (q:Nat):Int:=match s[q]? with
  | some x=>(x.toNat:Int)
  | none=>0
theorem ZaZ {s:List UInt8} {q:Nat} {x:UInt8} (h:s[q]?=some x):pk s q=x.toNat:=by unfold pk;rw [h]
theorem ZeT {s:List UInt8} {q:Nat} (h:s.length≤q):pk s q=0:=by unfold pk;rw [List.getElem?_eq_none h]
theorem ZaM {k q:Nat} {s:List UInt8} {b o:Bool}:F100 k (rx s q b o)=some (pk s q):=by
  unfold F100 rx
  simp only
  by_cases h:q<s.length
  · obtain ⟨x,hx⟩:∃x,s[q]?=some x:=⟨_,List.getElem?_eq_getElem h⟩
    rw [dt (by omega),cond_true,Zy,hx,Option.bind_some,ZaZ hx]
  · rw [df (by omega),cond_false,ZeT (by omega)]
theorem Zcz {k q:Nat} {s:List UInt8} {b o:Bool} {x:UInt8} {c:Int} (hs:s.length≤1000000) (h:s[q]?=some x) (hc:(x.toNat:Int)=c):F74 k (rx s q b o) c=some (true,rx s (q+1) b o):=by
  have hq:=(List.getElem?_eq_some_iff.1 h).1
  unfold F74 Zfz rx
  simp only
  rw [dt (by omega),cond_true,Zy,h,Option.bind_some,ZaE hc,cond_true,Z2 (by omega)]
theorem ZaG {k q:Nat} {s:List UInt8} {b o:Bool} {c:Int} (h:∀x,s[q]?=some x→(x.toNat:Int)≠c):F74 k (rx s q b o) c=some (false,rx s q b o):=by
  unfold F74 Zfz rx
  simp only
  by_cases hq:q<s.length
  · obtain ⟨x,hx⟩:∃x,s[q]?=some x:=⟨_,List.getElem?_eq_getElem hq⟩
    rw [dt (by omega),cond_true,Zy,hx,Option.bind_some,ZG (h x hx),cond_false]
  · rw [df (by omega),cond_false,cond_false]
theorem Za0 (k:Nat) {q:Nat} {s:List UInt8} {b o:Bool} (c:Int) (hs:s.length≤1000000):∃t q',F74 k (rx s q b o) c=some (t,rx s q' b o)∧((t=true∧q'=q+1∧q<s.length)∨(t=false∧q'=q)):=by
  by_cases h:∃x,s[q]?=some x∧(x.toNat:Int)=c
  · obtain ⟨x,hx,hc⟩:=h
    exact ⟨true,q+1,Zcz hs hx hc,.inl ⟨rfl,rfl,(List.getElem?_eq_some_iff.1 hx).1⟩⟩
  · exact ⟨false,q,ZaG fun x hx hc=>h ⟨x,hx,hc⟩,.inr ⟨rfl,rfl⟩⟩
theorem Zan {k k' p:Nat} {s:List UInt8} {o o':Bool} (c:UInt8) (hs:s.length≤1000000) (hp:p≤s.length) :
    (s[p]?=some c∧F71 k (rd s p o) [c]=some (true,rd s (p+1) o)∧F74 k' (rx s p false o') (c.toNat:Int)=some (true,rx s (p+1) false o')∧p+1≤s.length)∨
    (s[p]?≠some c∧F71 k (rd s p o) [c]=some (false,rd s p o)∧F74 k' (rx s p false o') (c.toNat:Int)=some (false,rx s p false o')):=by
  by_cases h:s[p]?=some c
  · exact .inl ⟨h,ZcC hs h,Zcz hs h rfl,(List.getElem?_eq_some_iff.1 h).1⟩
  · refine .inr ⟨h,ZcB hp h,ZaG fun x hx hc=>h ?_⟩
    rw [hx]
    congr 1
    exact UInt8.toNat_inj.1 (by omega)
theorem Zoa {k q:Nat} {s:List UInt8} (h:s.length≤q):F46 k s (q:Int)=some (0,0):=by
  unfold F46 Zfw
  rw [df (by omega),cond_false,dt (by omega),cond_true]
theorem Zfp {k q:Nat} {s:List UInt8} {b o:Bool} (h:s.length≤q):F147 k (rx s q b o)=some (0,rx s q true o):=by
  unfold F147 Zda rx
  simp only
  rw [Zoa h,Option.bind_some]
  rfl
theorem Zcl {k q:Nat} {s:List UInt8} {b o:Bool} (hk:5≤k) (hs:s.length≤1000000) (h:q<s.length) (hb:bad (s.drop q)):F147 k (rx s q b o)=some (0,rx s q true o):=by
  unfold F147 Zda rx
  simp only
  rw [ZjN hk h (by omega),Option.bind_some]
  unfold nxt
  rw [if_pos hb]
  rfl
theorem Zbj {k q:Nat} {s:List UInt8} {b o:Bool} (hk:5≤k) (hs:s.length≤1000000) (h:q<s.length) (hb:¬bad (s.drop q)):F147 k (rx s q b o)=some (((decodeL (s.drop q)).1:Int),rx s (q+(decodeL (s.drop q)).2) b o):=by
  have hne:s.drop q≠[]:=fun c=>by have:=List.drop_eq_nil_iff.1 c;omega
  have hw:=decodeL_width (s.drop q)
  have hle:=decodeL_le _ hne
  rw [List.length_drop] at hle
  unfold F147 Zda rx
  simp only
  rw [ZjN hk h (by omega),Option.bind_some]
  unfold nxt
  rw [if_neg hb]
  simp only
  rw [df (by omega),cond_false,ZG (by omega),cond_false,Zu (by omega) (by omega)]
  rfl
theorem Zii {k q:Nat} {s:List UInt8} {o:Bool} (hk:5≤k) (hs:s.length≤1000000) (hq:q≤s.length+1):∃c r,F147 k (rx s q true o)=some (c,r)∧BadR s r:=by
  by_cases h:q<s.length
  · by_cases hb:bad (s.drop q)
    · exact ⟨_,_,Zcl hk hs h hb,q,o,rfl,hq⟩
    · have hne:s.drop q≠[]:=fun c=>by have:=List.drop_eq_nil_iff.1 c;omega
      have hle:=decodeL_le _ hne
      rw [List.length_drop] at hle
      exact ⟨_,_,Zbj hk hs h hb,_,o,rfl,by omega⟩
  · exact ⟨_,_,Zfp (by omega),q,o,rfl,hq⟩
theorem ZhP {l:List UInt8} {c:Int} (hl:l.length≤1000):∀(t:List UInt8) (i m:Nat),l.drop i=t→t.length<m→i≤l.length→Zc9 l c m (i:Int)=some (t.any fun b=>(b.toNat:Int) == c)
  | [],i,m,hd,hm,hi=>by
    obtain ⟨m,rfl⟩:∃q,m=q+1:=⟨m-1,by simp at hm;omega⟩
    have:=Z5 hd
    show Zc8 _ _ _ _=_
    unfold Zc8
    rw [df (by omega),cond_false]
    rfl
  | x :: t,i,m,hd,hm,hi=>by
    obtain ⟨m,rfl⟩:∃q,m=q+1:=⟨m-1,by omega⟩
    obtain ⟨g1,g2,g3⟩:=Z0 hd
    rw [List.length_cons] at hm
    show Zc8 (Zc9 l c m) l c (i:Int)=_
    unfold Zc8
    rw [dt (by omega),cond_true,Zy,g2,Option.bind_some,Z2 (by omega),ZhP hl t (i+1) m g3 (by omega) (by omega),List.any_cons]
    cases (x.toNat:Int) == c <;> rfl
theorem Zbu {k:Nat} {l:List UInt8} {c:Int} (hl:l.length≤1000) (hk:l.length<k):F146 k l c=some (l.any fun b=>(b.toNat:Int) == c):=ZhP hl l 0 k rfl hk (Nat.zero_le _)
def isD (x:UInt8):Prop:=48≤x.toNat∧x.toNat≤57
instance (x:UInt8):Decidable (isD x):=by unfold isD;infer_instance
def dv (x:UInt8):Nat:=x.toNat-48
theorem ZbU {k q m:Nat} {s:List UInt8} {b o:Bool} {n:Int} {j:Nat} {x:UInt8} (hs:s.length≤1000000) (hx:s[q]?=some x) (hd:isD x) (hj:j<4) (hn:0≤n) (hn2:n≤100000) :
    Zaz k (m+1) (rx s q b o) n (j:Int)=Zaz k m (rx s (q+1) b o) (n*10+dv x) ((j+1:Nat):Int):=by
  have hq:=(List.getElem?_eq_some_iff.1 hx).1
  unfold isD at hd
  show Zdb k (Zaz k m) (rx s q b o) n (j:Int)=_
  unfold Zdb Zcp
  rw [ZaM,Option.bind_some,ZaZ hx,dt (by omega),cond_true,Option.bind_some,dt (by omega),cond_true,dt (by omega),cond_true,Option.bind_some]
  have e1:IntKind.wrap .u8 ((x.toNat:Int)-48)=(dv x:Int):=by unfold dv;simp [IntKind.wrap,IntKind.bits,IntKind.signed];omega
  have hdv:dv x≤9:=by unfold dv;omega
  rw [e1,Z2 (by omega),Zu (x:=(dv x:Int)) (by omega) (by omega),Zu (x:=n*10) (by omega) (by omega),Zu (x:=n*10+(dv x:Int)) (by omega) (by omega)]
  unfold rx
  simp only
  rw [Z2 (by omega)]
theorem ZaT {k q m:Nat} {s:List UInt8} {b o:Bool} {n:Int} {j:Nat} (h:(∀x,s[q]?=some x→¬isD x)∨4≤j) :
    Zaz k (m+1) (rx s q b o) n (j:Int)=some (n,rx s q (b || decide (j=0∨3<j)) o):=by
  show Zdb k (Zaz k m) (rx s q b o) n (j:Int)=_
  have fin:Zcp k (Zaz k m) (rx s q b o) n (j:Int) false=some (n,rx s q (b || decide (j=0∨3<j)) o):=by
    unfold Zcp Zgk Zgl
    rw [cond_false]
    by_cases h0:j=0
    · rw [ZaE (by omega),cond_true,cond_true,dt (.inl h0),Bool.or_true];rfl
    · rw [ZG (by omega),cond_false]
      by_cases h3:3<j
      · rw [dt (by omega),cond_true,dt (.inr h3),Bool.or_true];rfl
      · rw [df (by omega),cond_false,df (by omega),Bool.or_false]
  unfold Zdb
  rw [ZaM,Option.bind_some]
  by_cases hq:q<s.length
  · obtain ⟨x,hx⟩:∃x,s[q]?=some x:=⟨_,List.getElem?_eq_getElem hq⟩
    rw [ZaZ hx]
    by_cases h1:(x.toNat:Int)≥48
    · rw [dt h1,cond_true,Option.bind_some]
      by_cases h2:(x.toNat:Int)≤57
      · rw [dt h2,cond_true,df ?_]
        · exact fin
        · rcases h with h | h
          · exact absurd ⟨by omega,by omega⟩ (h x hx)
          · omega
      · rw [df h2,cond_false];exact fin
    · rw [df h1,cond_false];exact fin
  · rw [ZeT (by omega),df (by omega),cond_false];exact fin
theorem Zie {k:Nat} {s:List UInt8} {o:Bool} (hs:s.length≤1000000):∀(d m q:Nat) (n:Int) (j:Nat),j+d=4→d<m→q≤s.length+1→0≤n→n+1≤10 ^ j→∃n' r,Zaz k m (rx s q true o) n (j:Int)=some (n',r)∧BadR s r
  | d,0,q,n,j,_,hm,_,_,_=>by omega
  | 0,m+1,q,n,j,hj,hm,hq,h0,h1=>⟨_,_,ZaT (.inr (by omega)),q,o,rfl,hq⟩
  | d+1,m+1,q,n,j,hj,hm,hq,h0,h1=>by
    by_cases h:∃x,s[q]?=some x∧isD x
    · obtain ⟨x,hx,hd⟩:=h
      have hqq:=(List.getElem?_eq_some_iff.1 hx).1
      have hb:(10:Int) ^ j≤1000:=by
        have:j=0∨j=1∨j=2∨j=3:=by omega
        rcases this with rfl | rfl | rfl | rfl <;> decide
      rw [ZbU hs hx hd (by omega) h0 (by omega)]
      have hdv:dv x≤9:=by unfold dv;unfold isD at hd;omega
      refine Zie hs d m (q+1) _ (j+1) (by omega) (by omega) (by omega) (by omega) ?_
      rw [Int.pow_succ];omega
    · exact ⟨_,_,ZaT (.inl fun x hx hd=>h ⟨x,hx,hd⟩),q,o,rfl,hq⟩
theorem ZfG {k q:Nat} {s:List UInt8} {o:Bool} (hk:5≤k) (hs:s.length≤1000000) (hq:q≤s.length+1):∃n r,F148 k (rx s q true o)=some (n,r)∧BadR s r:=Zie hs 4 k q 0 0 rfl (by omega) hq (by omega) (by decide)
theorem Zfa {k p q m:Nat} {s:List UInt8} {o:Bool} {x:UInt8} (hs:s.length≤1000000) (hx:s[q]?=some x) (hd:isD x) (hp:q<p+4) (hpl:p≤s.length):ZaI k (rd s p o) (m+1) (rd s q o)=ZaI k (rd s p o) m (rd s (q+1) o):=by
  have hq:=(List.getElem?_eq_some_iff.1 hx).1
  unfold isD at hd
  show Zc7 k (ZaI k (rd s p o) m) (rd s p o) (rd s q o)=_
  unfold Zc7 Zb2
  have e4:w64 ((p:Int)+4)=(p:Int)+4:=Zu (by omega) (by omega)
  unfold rd
  simp only
  rw [e4,dt (by omega),cond_true,dt (by omega),cond_true,Zy,hx,Option.bind_some,dt (by omega),cond_true,Option.bind_some,dt (by omega),cond_true,Z2 (by omega)]
theorem ZdI {k p q m:Nat} {s:List UInt8} {o:Bool} (hs:s.length≤1000000) (hpl:p≤s.length) (h:(∀x,s[q]?=some x→¬isD x)∨p+4≤q) :
    ZaI k (rd s p o) (m+1) (rd s q o)=Zb3 k (rd s p o) (rd s q o) (decide (q=p∨p+3<q)):=by
  show Zc7 k (ZaI k (rd s p o) m) (rd s p o) (rd s q o)=_
  have fin:Zb2 k (ZaI k (rd s p o) m) (rd s p o) (rd s q o) false=Zb3 k (rd s p o) (rd s q o) (decide (q=p∨p+3<q)):=by
    unfold Zb2 rd
    simp only
    rw [cond_false,Zu (x:=(p:Int)+3) (by omega) (by omega)]
    by_cases h0:q=p
    · rw [ZaE (by omega),cond_true,dt (.inl h0)]
    · rw [ZG (by omega),cond_false]
      congr 1
      by_cases h3:p+3<q
      · rw [dt (by omega),dt (.inr h3)]
      · rw [df (by omega),df (by omega)]
  unfold Zc7
  have e4:w64 ((rd s p o).f_at+4)=(p:Int)+4:=Zu (by show -9223372036854775808≤(p:Int)+4;omega) (by show (p:Int)+4≤_;omega)
  rw [e4]
  by_cases hq:q<s.length
  · obtain ⟨x,hx⟩:∃x,s[q]?=some x:=⟨_,List.getElem?_eq_getElem hq⟩
    have ex:idxL (rd s q o).f_s (rd s q o).f_at=some x:=by show idxL s (q:Int)=_;rw [Zy,hx]
    rw [show decide ((rd s q o).f_at<((rd s q o).f_s.length:Int))=true from dt (by show (q:Int)<s.length;omega),cond_true]
    by_cases h4:q<p+4
    · rw [show decide ((rd s q o).f_at<(p:Int)+4)=true from dt (by show (q:Int)<_;omega),cond_true,ex,Option.bind_some]
      by_cases h1:(x.toNat:Int)≥48
      · rw [dt h1,cond_true,Option.bind_some,df ?_]
        · exact fin
        · rcases h with h | h
          · intro c;exact h x hx ⟨by omega,by omega⟩
          · omega
      · rw [df h1,cond_false];exact fin
    · rw [show decide ((rd s q o).f_at<(p:Int)+4)=false from df (by show ¬(q:Int)<_;omega),cond_false];exact fin
  · rw [show decide ((rd s q o).f_at<((rd s q o).f_s.length:Int))=false from df (by show ¬(q:Int)<s.length;omega),cond_false];exact fin
theorem ZgZ:((List.range 10).all fun a=>(atoi [UInt8.ofNat (48+a)] == some (a:Int)) && (List.range 10).all fun b=>(atoi [UInt8.ofNat (48+a),UInt8.ofNat (48+b)] == some ((a*10+b:Nat):Int)) && (List.range 10).all fun c=>atoi [UInt8.ofNat (48+a),UInt8.ofNat (48+b),UInt8.ofNat (48+c)] == some (((a*10+b)*10+c:Nat):Int))=true:=by kernel_rfl
theorem d_of {x:UInt8} (h:isD x):x=UInt8.ofNat (48+dv x)∧dv x<10:=by
  unfold isD at h
  unfold dv
  refine ⟨?_,by omega⟩
  rw [show 48+(x.toNat-48)=x.toNat by omega,UInt8.ofNat_toNat]
theorem ZoS {a:UInt8} (ha:isD a):atoi [a]=some (dv a:Int):=by
  obtain ⟨e,h⟩:=d_of ha
  have:=List.all_eq_true.1 ZgZ (dv a) (List.mem_range.2 h)
  simp only [Bool.and_eq_true,beq_iff_eq] at this
  rw [←e] at this
  exact this.1
theorem ZoT {a b:UInt8} (ha:isD a) (hb:isD b):atoi [a,b]=some ((dv a*10+dv b:Nat):Int):=by
  obtain ⟨e,h⟩:=d_of ha
  obtain ⟨e2,h2⟩:=d_of hb
  have:=List.all_eq_true.1 ZgZ (dv a) (List.mem_range.2 h)
  simp only [Bool.and_eq_true] at this
  have:=List.all_eq_true.1 this.2 (dv b) (List.mem_range.2 h2)
  simp only [Bool.and_eq_true,beq_iff_eq] at this
  rw [←e,←e2] at this
  exact this.1
theorem ZoU {a b c:UInt8} (ha:isD a) (hb:isD b) (hc:isD c):atoi [a,b,c]=some (((dv a*10+dv b)*10+dv c:Nat):Int):=by
  obtain ⟨e,h⟩:=d_of ha
  obtain ⟨e2,h2⟩:=d_of hb
  obtain ⟨e3,h3⟩:=d_of hc
  have:=List.all_eq_true.1 ZgZ (dv a) (List.mem_range.2 h)
  simp only [Bool.and_eq_true] at this
  have:=List.all_eq_true.1 this.2 (dv b) (List.mem_range.2 h2)
  simp only [Bool.and_eq_true] at this
  have:=List.all_eq_true.1 this.2 (dv c) (List.mem_range.2 h3)
  simp only [beq_iff_eq] at this
  rw [←e,←e2,←e3] at this
  exact this
theorem ZiF {k p q:Nat} {s:List UInt8} {o:Bool} {n:Nat} (hs:s.length≤1000000) (h1:p<q) (h2:q≤p+3) (hq:q≤s.length) (hn:atoi ((s.take q).drop p)=some (n:Int)) :
    Zb3 k (rd s p o) (rd s q o) (decide (q=p∨p+3<q))=some (some ((n:Int),rd s q (o || decide (20<n)))):=by
  rw [df (by omega)]
  unfold Zb3 Zge F172 rd
  simp only
  rw [cond_false,if_pos ⟨by omega,by omega,by omega⟩,Int.toNat_natCast,Int.toNat_natCast,if_pos (by rw [List.length_drop,List.length_take];omega),hn,Option.bind_some]
  cases o
  · rw [cond_false,Bool.false_or]
    congr 4
    exact decide_eq_decide.2 (by omega)
  · rw [cond_true,Bool.true_or]
theorem Zi3 {k k' p:Nat} {s:List UInt8} {o o':Bool} (hk:6≤k) (hk':6≤k') (hs:s.length≤1000000) (hp:p≤s.length) :
    (F142 k (rd s p o)=some none∧∃n r,F148 k' (rx s p false o')=some (n,r)∧BadR s r)∨
    (∃n p':Nat,F142 k (rd s p o)=some (some ((n:Int),rd s p' (o || decide (20<n))))∧F148 k' (rx s p false o')=some ((n:Int),rx s p' false o')∧p<p'∧p'≤s.length):=by
  obtain ⟨m,rfl⟩:∃m,k=m+1:=⟨k-1,by omega⟩
  obtain ⟨m',rfl⟩:∃m,k'=m+1:=⟨k'-1,by omega⟩
  have bad4:∀q,(q=p∨p+3<q)→Zb3 (m+1) (rd s p o) (rd s q o) (decide (q=p∨p+3<q))=some none:=fun q h=>by rw [dt h];rfl
  show (ZaI (m+1) (rd s p o) (m+1) (rd s p o)=_∧∃n r,Zaz (m'+1) (m'+1) (rx s p false o') 0 ((0:Nat):Int)=_∧_)∨(∃n p':Nat,ZaI (m+1) (rd s p o) (m+1) (rd s p o)=_∧Zaz (m'+1) (m'+1) (rx s p false o') 0 ((0:Nat):Int)=_∧_)
  by_cases h0:¬(∃x,s[p]?=some x∧isD x)
  · have h0':∀x,s[p]?=some x→¬isD x:=fun x hx hd=>h0 ⟨x,hx,hd⟩
    refine .inl ⟨by rw [ZdI hs hp (.inl h0')];exact bad4 p (.inl rfl),_,_,ZaT (.inl h0'),p,o',rfl,by omega⟩
  obtain ⟨x,hx,dx⟩:=Classical.not_not.1 h0
  have hx1:=(List.getElem?_eq_some_iff.1 hx).1
  have bx:dv x≤9:=by have:=d_of dx;omega
  obtain ⟨m,rfl⟩:∃q,m=q+1:=⟨m-1,by omega⟩
  obtain ⟨m',rfl⟩:∃q,m'=q+1:=⟨m'-1,by omega⟩
  rw [Zfa hs hx dx (by omega) hp,ZbU hs hx dx (by omega) (by omega) (by omega)]
  have eds:(s.take (p+1)).drop p=[x]:=by
    rw [List.drop_take,Zai hx,show p+1-p=1 by omega];rfl
  by_cases h1:¬(∃y,s[p+1]?=some y∧isD y)
  · have h1':∀y,s[p+1]?=some y→¬isD y:=fun y hy hd=>h1 ⟨y,hy,hd⟩
    refine .inr ⟨dv x,p+1,?_,?_,by omega,by omega⟩
    · rw [ZdI hs hp (.inl h1')];exact ZiF hs (by omega) (by omega) (by omega) (by rw [eds];exact ZoS dx)
    · rw [ZaT (.inl h1'),df (by omega)];simp
  obtain ⟨y,hy,dy⟩:=Classical.not_not.1 h1
  have hy1:=(List.getElem?_eq_some_iff.1 hy).1
  have by_:dv y≤9:=by have:=d_of dy;omega
  obtain ⟨m,rfl⟩:∃q,m=q+1:=⟨m-1,by omega⟩
  obtain ⟨m',rfl⟩:∃q,m'=q+1:=⟨m'-1,by omega⟩
  rw [Zfa hs hy dy (by omega) hp,ZbU hs hy dy (by omega) (by omega) (by omega)]
  have eds2:(s.take (p+1+1)).drop p=[x,y]:=by
    rw [List.drop_take,Zai hx,Zai hy,show p+1+1-p=2 by omega];rfl
  by_cases h2:¬(∃z,s[p+1+1]?=some z∧isD z)
  · have h2':∀z,s[p+1+1]?=some z→¬isD z:=fun z hz hd=>h2 ⟨z,hz,hd⟩
    refine .inr ⟨dv x*10+dv y,p+1+1,?_,?_,by omega,by omega⟩
    · rw [ZdI hs hp (.inl h2')];exact ZiF hs (by omega) (by omega) (by omega) (by rw [eds2];exact ZoT dx dy)
    · rw [ZaT (.inl h2'),df (by omega)];simp
  obtain ⟨z,hz,dz⟩:=Classical.not_not.1 h2
  have hz1:=(List.getElem?_eq_some_iff.1 hz).1
  have bz:dv z≤9:=by have:=d_of dz;omega
  obtain ⟨m,rfl⟩:∃q,m=q+1:=⟨m-1,by omega⟩
  obtain ⟨m',rfl⟩:∃q,m'=q+1:=⟨m'-1,by omega⟩
  rw [Zfa hs hz dz (by omega) hp,ZbU hs hz dz (by omega) (by omega) (by omega)]
  have eds3:(s.take (p+1+1+1)).drop p=[x,y,z]:=by
    rw [List.drop_take,Zai hx,Zai hy,Zai hz,show p+1+1+1-p=3 by omega];rfl
  by_cases h3:¬(∃u,s[p+1+1+1]?=some u∧isD u)
  · have h3':∀u,s[p+1+1+1]?=some u→¬isD u:=fun u hu hd=>h3 ⟨u,hu,hd⟩
    refine .inr ⟨(dv x*10+dv y)*10+dv z,p+1+1+1,?_,?_,by omega,by omega⟩
    · rw [ZdI hs hp (.inl h3')];exact ZiF hs (by omega) (by omega) (by omega) (by rw [eds3];exact ZoU dx dy dz)
    · rw [ZaT (.inl h3'),df (by omega)];simp
  obtain ⟨u,hu,du⟩:=Classical.not_not.1 h3
  have hu1:=(List.getElem?_eq_some_iff.1 hu).1
  obtain ⟨m,rfl⟩:∃q,m=q+1:=⟨m-1,by omega⟩
  obtain ⟨m',rfl⟩:∃q,m'=q+1:=⟨m'-1,by omega⟩
  rw [Zfa hs hu du (by omega) hp,ZbU hs hu du (by omega) (by omega) (by omega),ZdI hs hp (.inr (by omega)),ZaT (.inr (by omega))]
  exact .inl ⟨bad4 _ (.inr (by omega)),_,_,rfl,p+1+1+1+1,o',by rw [dt (by omega)];rfl,by omega⟩
theorem ZjD {q:Nat} {s:List UInt8} {b o:Bool} {a:Ze} {y:Int×Zf} {m:Int}:Zef a y m (rx s q b o)=some (⟨4,[],[a],y.1,m⟩,rx s q b (o || decide (20<y.1∨20<m∨(0≤m∧m<y.1)))):=by
  unfold Zef Zc2 Zgb rx
  simp only
  by_cases h1:y.1 > 20
  · rw [dt h1,cond_true,cond_true,dt (.inl h1),Bool.or_true]
  · rw [df h1,cond_false]
    by_cases h2:m > 20
    · rw [dt h2,cond_true,cond_true,dt (.inr (.inl h2)),Bool.or_true]
    · rw [df h2,cond_false]
      by_cases h3:m≥0
      · rw [dt h3,cond_true]
        by_cases h4:m<y.1
        · rw [dt h4,cond_true,dt (.inr (.inr ⟨h3,h4⟩)),Bool.or_true]
        · rw [df h4,cond_false,df (by omega),Bool.or_false]
      · rw [df h3,cond_false,cond_false,df (by omega),Bool.or_false]
theorem ZcA {k q:Nat} {s:List UInt8} {o:Bool} {a:Ze} {y:Int×Zf} {m:Int} (hs:s.length≤1000000) (hq:q≤s.length+1):∃x r,ZbA k a y (rx s q true o) m=some (x,r)∧BadR s r:=by
  obtain ⟨t,q3,e3,h3⟩:=Za0 k (q:=q) (b:=true) (o:=o) 125 hs
  unfold ZbA
  rw [e3,Option.bind_some]
  cases t
  · have e:({ (false,rx s q3 true o).2 with f_Bad:=true }:Zf)=rx s q3 true o:=rfl
    simp only [Bool.not_false,cond_true]
    rw [e,ZjD]
    exact ⟨_,_,rfl,q3,_,rfl,by omega⟩
  · simp only [Bool.not_true,cond_false]
    rw [ZjD]
    exact ⟨_,_,rfl,q3,_,rfl,by omega⟩
theorem ZmQ {k q:Nat} {s:List UInt8} {o:Bool} {a:Ze} (hk:6≤k) (hs:s.length≤1000000) (hq:q≤s.length+1):∃x r,F120 k (rx s q true o) a=some (x,r)∧BadR s r:=by
  obtain ⟨n,r,e1,q1,o1,rfl,h1⟩:=ZfG (k:=k) (o:=o) (by omega) hs hq
  unfold F120
  rw [e1,Option.bind_some]
  obtain ⟨t,q2,e2,h2⟩:=Za0 k (q:=q1) (b:=true) (o:=o1) 44 hs
  simp only
  rw [e2,Option.bind_some]
  cases t
  · exact ZcA hs (by omega)
  · simp only [cond_true]
    rw [ZaM,Option.bind_some]
    cases pk s q2 != 125
    · exact ZcA hs (by omega)
    · obtain ⟨n2,r2,e3,q3,o3,rfl,h3⟩:=ZfG (k:=k) (q:=q2) (o:=o1) (by omega) hs (by omega)
      rw [cond_true,e3,Option.bind_some]
      exact ZcA hs h3
theorem Zny {k k' p:Nat} {s:List UInt8} {o:Bool} {a:Ze} (hk:6≤k) (hk':6≤k') (hs:s.length≤1000000) (hp:p≤s.length) :
    (F118 k (rd s p o)=some none∧∃x r,F120 k' (rx s p false o) a=some (x,r)∧BadR s r)∨
    (∃(n m:Int) (p':Nat) (o':Bool),F118 k (rd s p o)=some (some (n,m,rd s p' o'))∧F120 k' (rx s p false o) a=some (⟨4,[],[a],n,m⟩,rx s p' false o')∧p<p'∧p'≤s.length):=by
  unfold F118 F120
  rcases Zi3 (k:=k) (k':=k') (o:=o) (o':=o) hk hk' hs hp with ⟨e1,n,r,e2,q,o2,rfl,hq⟩ | ⟨n,p1,e1,e2,h1,h2⟩
  · rw [e1,e2,Option.bind_some]
    refine .inl ⟨rfl,?_⟩
    obtain ⟨t,q2,e3,h3⟩:=Za0 k' (q:=q) (b:=true) (o:=o2) 44 hs
    simp only
    rw [e3,Option.bind_some]
    cases t
    · exact ZcA hs (by omega)
    · simp only [cond_true]
      rw [ZaM,Option.bind_some]
      cases pk s q2 != 125
      · exact ZcA hs (by omega)
      · obtain ⟨n2,r2,e3,q3,o3,rfl,h3⟩:=ZfG (k:=k') (q:=q2) (o:=o2) (by omega) hs (by omega)
        rw [cond_true,e3,Option.bind_some]
        exact ZcA hs h3
  · rw [e1,e2,Option.bind_some]
    simp only [orP,Option.bind_some]
    have last:∀(m:Int) (p2:Nat) (o1 o2:Bool),p<p2→p2≤s.length→(o1=(o2 || decide (20<(n:Int)∨20<m∨(0≤m∧m<(n:Int)))))→
        (ZaX k ((n:Int),rd s p1 (o || decide (20<n))) (rd s p2 o1) m=some none∧∃x r,ZbA k' a ((n:Int),rx s p1 false o) (rx s p2 false o2) m=some (x,r)∧BadR s r)∨
        (∃(n' m':Int) (p':Nat) (o':Bool),ZaX k ((n:Int),rd s p1 (o || decide (20<n))) (rd s p2 o1) m=some (some (n',m',rd s p' o'))∧ZbA k' a ((n:Int),rx s p1 false o) (rx s p2 false o2) m=some (⟨4,[],[a],n',m'⟩,rx s p' false o')∧p<p'∧p'≤s.length):=fun m p2 o1 o2 hp2 hp3 ho=>by
      unfold ZaX ZbA
      rcases Zan (k:=k) (k':=k') (o:=o1) (o':=o2) 125 hs hp3 with ⟨_,f1,f2,f3⟩ | ⟨_,f1,f2⟩
      · have f2':F74 k' (rx s p2 false o2) 125=_:=f2
        rw [f1,f2',Option.bind_some,Option.bind_some]
        refine .inr ⟨n,m,p2+1,o1,rfl,?_,by omega,f3⟩
        simp only [Bool.not_true,cond_false]
        rw [ZjD,ho]
      · have f2':F74 k' (rx s p2 false o2) 125=_:=f2
        rw [f1,f2',Option.bind_some,Option.bind_some]
        refine .inl ⟨rfl,?_⟩
        simp only [Bool.not_false,cond_true]
        have e:({ rx s p2 false o2 with f_Bad:=true }:Zf)=rx s p2 true o2:=rfl
        rw [e,ZjD]
        exact ⟨_,_,rfl,p2,_,rfl,by omega⟩
    rcases Zan (k:=k) (k':=k') (o:=o || decide (20<n)) (o':=o) 44 hs h2 with ⟨_,f1,f2,f3⟩ | ⟨_,f1,f2⟩
    · have f2':F74 k' (rx s p1 false o) 44=_:=f2
      rw [f1,f2',Option.bind_some,Option.bind_some]
      simp only [cond_true]
      rw [is1 f3,Option.bind_some,ZaM,Option.bind_some]
      by_cases hb:s[p1+1]?=some 125
      · rw [dt hb,ZaZ hb,Bool.not_true,cond_false]
        have:(((125:UInt8).toNat:Int) != 125)=false:=rfl
        rw [this,cond_false]
        exact last (-1) (p1+1) _ _ (by omega) f3 (by congr 1;exact decide_eq_decide.2 (by omega))
      · have hpk:(pk s (p1+1) != 125)=true:=by
          by_cases hl:p1+1<s.length
          · obtain ⟨x,hx⟩:∃x,s[p1+1]?=some x:=⟨_,List.getElem?_eq_getElem hl⟩
            rw [ZaZ hx]
            have:x.toNat≠125:=fun c=>hb (by rw [hx];congr 1;exact UInt8.toNat_inj.1 (by simpa using c))
            simp;omega
          · rw [ZeT (by omega)];rfl
        rw [df hb,hpk,Bool.not_false,cond_true,cond_true]
        rcases Zi3 (k:=k) (k':=k') (o:=o || decide (20<n)) (o':=o) hk hk' hs f3 with ⟨e3,n2,r,e4,q,o2,rfl,hq⟩ | ⟨n2,p2,e3,e4,h3,h4⟩
        · rw [e3,e4,Option.bind_some]
          exact .inl ⟨rfl,ZcA hs hq⟩
        · rw [e3,e4,Option.bind_some,Option.bind_some]
          simp only
          have hflag:∀z:Bool,cond z (ZaX k ((n:Int),rd s p1 (o || decide (20<n))) { rd s p2 z with f_over:=true } (n2:Int)) (ZaX k ((n:Int),rd s p1 (o || decide (20<n))) { rd s p2 z with f_over:=decide ((n2:Int)<(n:Int)) } (n2:Int)) =
              ZaX k ((n:Int),rd s p1 (o || decide (20<n))) (rd s p2 (z || decide ((n2:Int)<(n:Int)))) (n2:Int):=fun z=>by
            cases z
            · rw [cond_false,Bool.false_or];rfl
            · rw [cond_true,Bool.true_or];rfl
          have e5:=hflag ((o || decide (20<n)) || decide (20<n2))
          have e6:(rd s p2 ((o || decide (20<n)) || decide (20<n2))).f_over=((o || decide (20<n)) || decide (20<n2)):=rfl
          rw [e6,e5]
          refine last (n2:Int) p2 _ o (by omega) h4 ?_
          cases o
          · simp only [Bool.false_or]
            rw [Bool.eq_iff_iff]
            simp only [Bool.or_eq_true,decide_eq_true_eq]
            omega
          · simp
    · have f2':F74 k' (rx s p1 false o) 44=_:=f2
      rw [f1,f2',Option.bind_some,Option.bind_some]
      simp only [cond_false]
      exact last (n:Int) p1 _ _ h1 h2 (by congr 1;exact decide_eq_decide.2 (by omega))
end Go.Proofs.YthilboheomikjaaGreatDoor
end
section
namespace Go.Proofs.YthilboheomikjaaGreatDoor
open Go.AL Go.Lib
set_option maxRecDepth 100000
theorem Zgg (k:Nat):F143 k=some ptsR:=rfl
theorem Zf1 {self8:List Zb→Int→Option (List Zb)} {v0 v1:List Zb} {i:Nat} {x:Zb} (hx:v0[i]?=some x) (h1:v1.length≤1000) (h0:v0.length≤1048576):∀(l acc:List Zb) (j m:Nat),v1.drop j=l→acc.length+l.length≤1073741824→l.length<m→j≤v1.length→
    ZbZ self8 v0 v1 (i:Int) m acc (j:Int)=self8 (acc ++ l.flatMap (cutR x)) (w64 ((i:Int)+1))
  | [],acc,j,m,hd,ha,hm,hj=>by
    obtain ⟨m,rfl⟩:∃q,m=q+1:=⟨m-1,by simp at hm;omega⟩
    have:=Z5 hd
    show Zcu _ _ _ _ _ _ _=_
    unfold Zcu
    rw [df (by omega),cond_false,List.flatMap_nil,List.append_nil]
  | y :: l,acc,j,m,hd,ha,hm,hj=>by
    obtain ⟨m,rfl⟩:∃q,m=q+1:=⟨m-1,by omega⟩
    obtain ⟨g1,g2,g3⟩:=Z0 hd
    rw [List.length_cons] at ha hm
    show Zcu self8 (ZbZ self8 v0 v1 (i:Int) m) v0 v1 (i:Int) acc (j:Int)=_
    unfold Zcu
    have ex:idxL v0 (i:Int)=some x:=by rw [Zy];exact hx
    have ey:idxL v1 (j:Int)=some y:=by rw [Zy];exact g2
    rw [dt (by omega),cond_true,ex,Option.bind_some,ey,Option.bind_some,Option.bind_some,Option.bind_some,List.flatMap_cons]
    unfold Ze8
    rw [Z2 (by omega)]
    by_cases hc:mx x.f_Lo y.f_Lo≤mn x.f_Hi y.f_Hi
    · have ec:cutR x y=[⟨mx x.f_Lo y.f_Lo,mn x.f_Hi y.f_Hi⟩]:=if_pos hc
      rw [dt hc,cond_true,if_pos (by simp;omega),Zf1 hx h1 h0 l _ (j+1) m g3 (by simp;omega) (by omega) (by omega),ec,List.append_assoc]
    · have ec:cutR x y=[]:=if_neg hc
      rw [df hc,cond_false,Zf1 hx h1 h0 l _ (j+1) m g3 (by omega) (by omega) (by omega),ec,List.nil_append]
theorem Zih {k:Nat} {v0 v1:List Zb} (h1:v1.length≤1000) (hk:v1.length<k) (h0:v0.length≤1048576):∀(l acc:List Zb) (i m:Nat),v0.drop i=l→acc.length+l.length*v1.length≤1073741824→l.length<m→i≤v0.length→
    ZbI k v0 v1 m acc (i:Int)=some (acc ++ Zaw l v1)
  | [],acc,i,m,hd,ha,hm,hi=>by
    obtain ⟨m,rfl⟩:∃q,m=q+1:=⟨m-1,by simp at hm;omega⟩
    have:=Z5 hd
    show Zdm _ _ _ _ _ _=_
    unfold Zdm
    rw [df (by omega),cond_false]
    show _=some (acc ++ [])
    rw [List.append_nil]
  | x :: l,acc,i,m,hd,ha,hm,hi=>by
    obtain ⟨m,rfl⟩:∃q,m=q+1:=⟨m-1,by omega⟩
    obtain ⟨g1,g2,g3⟩:=Z0 hd
    rw [List.length_cons] at ha hm
    rw [Nat.add_mul,Nat.one_mul] at ha
    have hrl:=ZgH x v1
    show Zdm k (ZbI k v0 v1 m) v0 v1 acc (i:Int)=_
    unfold Zdm
    rw [dt (by omega),cond_true]
    have e:=Zf1 (self8:=ZbI k v0 v1 m) (x:=x) g2 h1 h0 v1 acc 0 k rfl (by omega) hk (Nat.zero_le _)
    have e':ZbZ (ZbI k v0 v1 m) v0 v1 (i:Int) k acc 0=ZbI k v0 v1 m (acc ++ v1.flatMap (cutR x)) (w64 ((i:Int)+1)):=e
    rw [e',Z2 (by omega),Zih h1 hk h0 l _ (i+1) m g3 (by rw [List.length_append];omega) (by omega) (by omega),List.append_assoc]
    rfl
theorem ZiV {c:Int}:∀{l1 l2:List Zb} {b:Int},Z8 b l1→(∀r∈l1,r.f_Hi+2≤c)→Z8 c l2→b≤c→Z8 b (l1 ++ l2)
  | [],l2,b,_,_,h2,hbc=>h2.mono hbc
  | r :: l1,l2,b,⟨h1,h3,h4⟩,hr,h2,hbc=>⟨h1,h3,ZiV h4 (fun x hx=>hr x (List.mem_cons_of_mem _ hx)) h2 (hr r List.mem_cons_self)⟩
theorem Zi2 {x y:Zb}:Z8 x.f_Lo (cutR x y)∧∀r∈cutR x y,r.f_Hi≤x.f_Hi∧r.f_Hi≤y.f_Hi∧y.f_Lo≤r.f_Lo:=by
  have h2:=ZgE.1 (Int.le_refl (mx x.f_Lo y.f_Lo))
  have h3:=Zh4.1 (Int.le_refl (mn x.f_Hi y.f_Hi))
  unfold cutR
  split
  · rename_i h
    refine ⟨⟨h2.1,h,trivial⟩,fun r hr=>?_⟩
    obtain rfl:=List.mem_singleton.1 hr
    exact ⟨h3.1,h3.2,h2.2⟩
  · exact ⟨trivial,fun r hr=>by cases hr⟩
theorem ZgU:∀{l:List Zb} {b:Int},Z8 b l→Z8 b (Zaw l ptsR)
  | [],_,_=>trivial
  | x :: l,b,⟨h1,h2,h3⟩=>by
    have ih:=ZgU h3
    have e:Zaw (x :: l) ptsR=(cutR x ⟨0,55295⟩ ++ (cutR x ⟨57344,1114111⟩ ++ [])) ++ Zaw l ptsR:=rfl
    rw [e,List.append_nil]
    obtain ⟨a1,a2⟩:=Zi2 (x:=x) (y:=⟨0,55295⟩)
    obtain ⟨b1,b2⟩:=Zi2 (x:=x) (y:=⟨57344,1114111⟩)
    refine ZiV (c:=x.f_Hi+2) ?_ (fun r hr=>?_) ih (by omega)
    ·
      unfold cutR at a1 a2 b1 b2 ⊢
      simp only at a1 a2 b1 b2 ⊢
      split
      · rename_i c1
        rw [if_pos c1] at a1 a2
        have q:=a2 _ List.mem_cons_self
        simp only at q
        split
        · rename_i c2
          rw [if_pos c2] at b1 b2
          have q2:=b2 _ List.mem_cons_self
          simp only at q2
          have m1:=ZgE.1 (Int.le_refl (mx x.f_Lo 0))
          have h9:x.f_Lo≤mx x.f_Lo 0:=a1.1
          exact ⟨by show b≤mx x.f_Lo 0;omega,c1,⟨by show mn x.f_Hi 55295+2≤mx x.f_Lo 57344;omega,c2,trivial⟩⟩
        · have h9:x.f_Lo≤mx x.f_Lo 0:=a1.1
          exact ⟨by show b≤mx x.f_Lo 0;omega,c1,trivial⟩
      · split
        · rename_i c2
          rw [if_pos c2] at b1
          have h9:x.f_Lo≤mx x.f_Lo 57344:=b1.1
          exact ⟨by show b≤mx x.f_Lo 57344;omega,c2,trivial⟩
        · trivial
    · rcases List.mem_append.1 hr with hr | hr
      · have:=(a2 r hr).1;omega
      · have:=(b2 r hr).1;omega
theorem ZkD {k:Nat} {a:List Zb} (ha:a.length≤100000) (hk:a.length+3≤k) (hap:Z8 0 a):F190 k a ptsR=some (Zaw a ptsR)∧ZcT (Zaw a ptsR)∧(∀c,inR (Zaw a ptsR) c↔inR a c∧ZM c)∧(Zaw a ptsR).length≤2*a.length:=by
  have h2:ptsR.length=2:=rfl
  have hl:=Zf0 ptsR a
  rw [h2] at hl
  have e:F190 k a ptsR=some ([] ++ Zaw a ptsR):=Zih (k:=k) (v0:=a) (v1:=ptsR) (by rw [h2];omega) (by rw [h2];omega) (by omega) a [] 0 k rfl (by rw [h2];simp;omega) (by omega) (Nat.zero_le _)
  rw [List.nil_append] at e
  have ei:∀c,inR (Zaw a ptsR) c↔inR a c∧ZM c:=fun c=>by rw [ZkC,ZmK]
  exact ⟨e,⟨ZgU hap,fun c hc=>((ei c).1 hc).2⟩,ei,by omega⟩
theorem ZhS:∀(l:List Zb) (b:Int),Z8 b l→Bd l→Z8 b (comp b l)
  | [],b,_,_=>by
    unfold comp
    split
    · rename_i h;exact ⟨Int.le_refl _,h,trivial⟩
    · trivial
  | r :: l,b,⟨h1,h2,h3⟩,hb=>by
    have ih:=ZhS l (r.f_Hi+1) (h3.mono (by omega)) fun x hx=>hb x (List.mem_cons_of_mem _ hx)
    unfold comp
    split
    · rename_i h
      exact ⟨Int.le_refl _,by simp only;omega,ih.mono (by simp only;omega)⟩
    · exact ih.mono (by omega)
theorem Zf2 {k:Nat} {y:List Zb} (hy:y.length≤100000) (hb:Bd y):∀(l acc:List Zb) (b:Int) (i m:Nat),y.drop i=l→acc.length+l.length+1≤1073741824→l.length<m→i≤y.length→0≤b→b≤1114112→
    Zdl k y m acc b (i:Int)=F190 k (acc ++ comp b l) ptsR
  | [],acc,b,i,m,hd,ha,hm,hi,h0,h1=>by
    obtain ⟨m,rfl⟩:∃q,m=q+1:=⟨m-1,by simp at hm;omega⟩
    have:=Z5 hd
    have fin:∀a,Zen k a=F190 k a ptsR:=fun a=>by
      unfold Zen
      rw [Zgg,Option.bind_some]
      cases F190 k a ptsR <;> rfl
    show Zdk _ _ _ _ _ _=_
    unfold Zdk
    rw [df (by omega),cond_false]
    unfold comp
    by_cases hc:b≤1114111
    · rw [dt hc,cond_true,if_pos (by simp at ha ⊢;omega),fin,if_pos hc]
    · rw [df hc,cond_false,fin,if_neg hc,List.append_nil]
  | r :: l,acc,b,i,m,hd,ha,hm,hi,h0,h1=>by
    obtain ⟨m,rfl⟩:∃q,m=q+1:=⟨m-1,by omega⟩
    obtain ⟨g1,g2,g3⟩:=Z0 hd
    rw [List.length_cons] at ha hm
    have hr:=hb r (List.mem_of_getElem? g2)
    have ex:idxL y (i:Int)=some r:=by rw [Zy];exact g2
    show Zdk k (Zdl k y m) y acc b (i:Int)=_
    unfold Zdk Zgs
    rw [dt (by omega),cond_true]
    simp only [ex,Option.bind_some]
    rw [Z2 (by omega),Zu (x:=r.f_Hi+1) (by omega) (by omega),Zu (x:=r.f_Lo-1) (by omega) (by omega)]
    conv=>rhs;unfold comp
    by_cases hc:b<r.f_Lo
    · rw [dt hc,cond_true,if_pos (by simp;omega),Zf2 hy hb l _ _ (i+1) m g3 (by simp;omega) (by omega) (by omega) (by omega) (by omega),if_pos hc,List.append_assoc]
    · rw [df hc,cond_false,Zf2 hy hb l _ _ (i+1) m g3 (by omega) (by omega) (by omega) (by omega) (by omega),if_neg hc,List.nil_append]
theorem Zov {k:Nat} {l:List Zb} (hl:l.length≤50000) (hk:l.length+10≤k) (hb:Bd l) (ha:Z8 0 l):∃l',F175 k l=some l'∧ZcT l'∧(∀c,inR l' c↔ZM c∧¬inR l c):=by
  have hc:=Zg3 l 0
  obtain ⟨e1,c1,i1,n1⟩:=ZkD (k:=k) (a:=comp 0 l) (by omega) (by omega) (ZhS l 0 ha hb)
  have e:F175 k l=F190 k ([] ++ comp 0 l) ptsR:=Zf2 (k:=k) (by omega) hb l [] 0 0 k rfl (by simp;omega) (by omega) (Nat.zero_le _) (by omega) (by omega)
  rw [List.nil_append,e1] at e
  refine ⟨_,e,c1,fun c=>?_⟩
  rw [i1,ZiE l 0 ha hb]
  exact ⟨fun h=>⟨h.2,h.1.2.2⟩,fun h=>⟨⟨h.1.1,h.1.2.1,h.2⟩,h.1⟩⟩
def Zaa (x:Zb) (out:List Zb):Nat→Nat
  | 0=>0
  | j+1=>match out[j]? with
    | some y=>if y.f_Lo > x.f_Lo then Zaa x out j else j+1
    | none=>j+1
theorem Zkr (x:Zb) (out:List Zb):∀j,Zaa x out j≤j
  | 0=>Nat.le_refl _
  | j+1=>by
    unfold Zaa
    split
    · split
      · have:=Zkr x out j;omega
      · exact Nat.le_refl _
    · exact Nat.le_refl _
def ins (x:Zb) (out:List Zb):List Zb:=out.take (Zaa x out out.length) ++ [x] ++ out.drop (Zaa x out out.length)
theorem Zkg (x:Zb) (out:List Zb):List.Perm (ins x out) (x :: out):=by
  unfold ins
  have:=List.take_append_drop (Zaa x out out.length) out
  conv=>rhs;rw [←this]
  rw [List.append_assoc]
  exact List.perm_middle
theorem Zhh:∀{l1 l2:List Zb},Rise l1→Rise l2→(∀a∈l1,∀b∈l2,a.f_Lo≤b.f_Lo)→Rise (l1 ++ l2)
  | [],_,_,h2,_=>h2
  | x :: l1,l2,⟨h1,h3⟩,h2,h=>⟨fun y hy=>by
      rcases List.mem_append.1 hy with hy | hy
      · exact h1 y hy
      · exact h x List.mem_cons_self y hy,Zhh h3 h2 fun a ha b hb=>h a (List.mem_cons_of_mem _ ha) b hb⟩
theorem Zjn:∀{l:List Zb} (n:Nat),Rise l→Rise (l.take n)
  | [],n,_=>by cases n <;> exact trivial
  | x :: l,0,_=>trivial
  | x :: l,n+1,⟨h1,h2⟩=>⟨fun y hy=>h1 y (List.mem_of_mem_take hy),Zjn n h2⟩
theorem Zjm:∀{l:List Zb} (n:Nat),Rise l→Rise (l.drop n)
  | [],n,_=>by cases n <;> exact trivial
  | x :: l,0,h=>h
  | x :: l,n+1,⟨h1,h2⟩=>Zjm n h2
theorem Zlq:∀{l:List Zb} {i j:Nat} {a b:Zb},Rise l→i≤j→l[i]?=some a→l[j]?=some b→a.f_Lo≤b.f_Lo
  | [],i,j,a,b,_,_,h,_=>by simp at h
  | x :: l,0,0,a,b,_,_,h1,h2=>by rw [h1] at h2;obtain rfl:=Option.some.inj h2;exact Int.le_refl _
  | x :: l,0,j+1,a,b,⟨h,_⟩,_,h1,h2=>by
    simp at h1;subst h1
    exact h b (List.mem_of_getElem? (by simpa using h2))
  | x :: l,i+1,0,a,b,_,hij,_,_=>by omega
  | x :: l,i+1,j+1,a,b,⟨_,h⟩,hij,h1,h2=>Zlq (i:=i) (j:=j) h (by omega) (by rw [List.getElem?_cons_succ] at h1;exact h1) (by rw [List.getElem?_cons_succ] at h2;exact h2)
theorem Zic {x:Zb} {out:List Zb} (hr:Rise out):∀j,j≤out.length→(∀i y,j≤i→out[i]?=some y→x.f_Lo≤y.f_Lo)→(∀i y,i<Zaa x out j→out[i]?=some y→y.f_Lo≤x.f_Lo)∧(∀i y,Zaa x out j≤i→out[i]?=some y→x.f_Lo≤y.f_Lo)
  | 0,_,h=>⟨fun i y hi=>by simp [Zaa] at hi,fun i y _ hy=>h i y (Nat.zero_le _) hy⟩
  | j+1,hj,h=>by
    obtain ⟨z,hz⟩:∃z,out[j]?=some z:=⟨_,List.getElem?_eq_getElem (by omega)⟩
    unfold Zaa
    rw [hz]
    simp only
    by_cases hc:z.f_Lo > x.f_Lo
    · rw [if_pos hc]
      exact Zic hr j (by omega) fun i y hi hy=>by
        by_cases e:i=j
        · subst e;rw [hz] at hy;obtain rfl:=Option.some.inj hy;omega
        · exact h i y (by omega) hy
    · rw [if_neg hc]
      exact ⟨fun i y hi hy=>by have:=Zlq hr (show i≤j by omega) hy hz;omega,h⟩
theorem Zne {x:Zb} {out:List Zb} (hr:Rise out):Rise (ins x out):=by
  obtain ⟨h1,h2⟩:=Zic (x:=x) hr out.length (Nat.le_refl _) (fun i y hi hy=>by rw [List.getElem?_eq_none hi] at hy;cases hy)
  have hle:=Zkr x out out.length
  unfold ins
  have m1:∀a∈out.take (Zaa x out out.length),a.f_Lo≤x.f_Lo:=fun a ha=>by
    obtain ⟨i,hi,rfl⟩:=List.mem_iff_getElem.1 ha
    rw [List.length_take] at hi
    refine h1 i _ (by omega) ?_
    rw [List.getElem_take];exact List.getElem?_eq_getElem _
  have m2:∀b∈out.drop (Zaa x out out.length),x.f_Lo≤b.f_Lo:=fun b hb=>by
    obtain ⟨i,hi,rfl⟩:=List.mem_iff_getElem.1 hb
    rw [List.getElem_drop]
    exact h2 (Zaa x out out.length+i) _ (by omega) (List.getElem?_eq_getElem _)
  refine Zhh (Zhh (Zjn _ hr) ⟨(fun y hy=>by cases hy),trivial⟩ fun a ha b hb=>?_) (Zjm _ hr) fun a ha b hb=>?_
  · simp at hb;subst hb;exact m1 a ha
  · rcases List.mem_append.1 ha with ha | ha
    · have:=m1 a ha;have:=m2 b hb;omega
    · simp at ha;subst ha;exact m2 b hb
theorem Zib {self8:List Zb→Int→Option (List Zb)} {v0 out:List Zb} {i:Nat} {x:Zb} (hx:v0[i]?=some x) (h0:v0.length≤100000) (ho:out.length≤100000):∀(j m:Nat),j≤out.length→j<m→Zaa x out j=Zaa x out out.length→
    ZbY self8 v0 out (i:Int) m (j:Int)=self8 (ins x out) ((i+1:Nat):Int)
  | j,0,_,hm,_=>by omega
  | 0,m+1,hj,hm,hp=>by
    show Zct self8 (ZbY self8 v0 out (i:Int) m) v0 out (i:Int) ((0:Nat):Int)=_
    have ex:idxL v0 (i:Int)=some x:=by rw [Zy];exact hx
    have hi:=(List.getElem?_eq_some_iff.1 hx).1
    unfold Zct Zdx
    rw [df (by omega),cond_false,cond_false,if_pos ⟨by omega,by omega,by omega⟩,if_pos (by simp),ex,Option.bind_some,if_pos (by simp),if_pos ⟨by omega,by omega,by omega⟩,if_pos (by simp;omega),Z2 (by omega)]
    unfold ins
    rw [←hp]
    simp [Zaa]
  | j+1,m+1,hj,hm,hp=>by
    show Zct self8 (ZbY self8 v0 out (i:Int) m) v0 out (i:Int) ((j+1:Nat):Int)=_
    have ex:idxL v0 (i:Int)=some x:=by rw [Zy];exact hx
    have hi:=(List.getElem?_eq_some_iff.1 hx).1
    obtain ⟨z,hz⟩:∃z,out[j]?=some z:=⟨_,List.getElem?_eq_getElem (by omega)⟩
    have ez:idxL out (w64 (((j+1:Nat):Int)-1))=some z:=by rw [Zu (by omega) (by omega),show ((j+1:Nat):Int)-1=(j:Int) by omega,Zy];exact hz
    have hpj:Zaa x out (j+1)=if z.f_Lo > x.f_Lo then Zaa x out j else j+1:=by
      conv=>lhs;unfold Zaa
      rw [hz]
    unfold Zct Zdx
    rw [dt (by omega),cond_true,ez,Option.bind_some,ex,Option.bind_some]
    by_cases hc:z.f_Lo > x.f_Lo
    · rw [if_pos hc] at hpj
      rw [dt hc,cond_true,Zu (by omega) (by omega),show ((j+1:Nat):Int)-1=(j:Int) by omega]
      exact Zib hx h0 ho j m (by omega) (by omega) (by rw [←hpj];exact hp)
    · rw [if_neg hc] at hpj
      rw [df hc,cond_false,if_pos ⟨by omega,by omega,by omega⟩,if_pos (by simp;omega),Option.bind_some,if_pos (by simp;omega),if_pos ⟨by omega,by omega,by omega⟩,if_pos (by simp;omega),Z2 (by omega)]
      unfold ins
      rw [←hp,hpj]
      simp
def Zd4:List Zb→List Zb→List Zb
  | out,[]=>out
  | out,x :: l=>Zd4 (ins x out) l
theorem Zio:∀(l out:List Zb),List.Perm (Zd4 out l) (out ++ l)
  | [],out=>by rw [List.append_nil];exact List.Perm.refl _
  | x :: l,out=>by
    refine (Zio l (ins x out)).trans ?_
    exact ((Zkg x out).append_right l).trans List.perm_middle.symm
theorem Zip:∀(l out:List Zb),Rise out→Rise (Zd4 out l)
  | [],out,h=>h
  | x :: l,out,h=>Zip l _ (Zne h)
theorem Zed {k:Nat} {y:List Zb} (hy:y.length≤100000):∀(l acc:List Zb) (p:Zb) (i m:Nat),y.drop i=l→acc.length+1+l.length≤1073741824→l.length<m→i≤y.length→
    Zbr k y m (acc ++ [p]) (i:Int)=F190 k (acc ++ mrg p l) ptsR
  | [],acc,p,i,m,hd,ha,hm,hi=>by
    obtain ⟨m,rfl⟩:∃q,m=q+1:=⟨m-1,by simp at hm;omega⟩
    have:=Z5 hd
    show ZaS _ _ _ _ _=_
    unfold ZaS
    rw [df (by omega),cond_false,Zgg,Option.bind_some]
    show _=F190 k (acc ++ [p]) ptsR
    cases F190 k (acc ++ [p]) ptsR <;> rfl
  | r :: l,acc,p,i,m,hd,ha,hm,hi=>by
    obtain ⟨m,rfl⟩:∃q,m=q+1:=⟨m-1,by omega⟩
    obtain ⟨h1,h2,h3⟩:=Z0 hd
    rw [List.length_cons] at ha hm
    have hl:(acc ++ [p]).length=acc.length+1:=by simp
    have ew:w64 (((acc ++ [p]).length:Int)-1)=(acc.length:Int):=by rw [hl,Zu (by omega) (by omega)];omega
    have el:idxL (acc ++ [p]) (acc.length:Int)=some p:=by rw [Zy];simp
    have er:idxL y (i:Int)=some r:=by rw [Zy];exact h2
    show ZaS k (Zbr k y m) y _ _=_
    unfold ZaS
    rw [dt (by omega),cond_true,dt (by omega),cond_true,er,Option.bind_some,ew,if_pos ⟨by omega,by omega⟩,el,Option.bind_some]
    unfold Zdy Zdz
    rw [ew,er,Z2 (by omega)]
    by_cases hc:r.f_Lo≤w64 (p.f_Hi+1)
    · rw [dt hc,cond_true,if_pos ⟨by omega,by omega⟩,el,Option.bind_some,Option.bind_some,if_pos ⟨by omega,by omega⟩,Option.bind_some]
      have es:(acc ++ [p]).set (Int.toNat (acc.length:Int)) { p with f_Hi:=mx p.f_Hi r.f_Hi } = acc ++ [{ p with f_Hi:=mx p.f_Hi r.f_Hi }]:=by
        rw [Int.toNat_natCast,List.set_append_right (h:=Nat.le_refl _),Nat.sub_self];rfl
      rw [es,Zed hy l acc _ (i+1) m h3 (by omega) (by omega) (by omega)]
      conv=>rhs;unfold mrg
      rw [if_pos hc]
    · rw [df hc,cond_false,Option.bind_some,if_pos (by rw [hl];simp;omega),Zed hy l (acc ++ [p]) r (i+1) m h3 (by rw [hl];omega) (by omega) (by omega)]
      conv=>rhs;unfold mrg
      rw [if_neg hc,List.append_assoc]
      rfl
theorem ZlN {k m:Nat} {y:List Zb} (hy:y.length≤100000) (hm:y.length<m):Zbr k y m [] 0=F190 k (mrgs y) ptsR:=by
  obtain ⟨m,rfl⟩:∃q,m=q+1:=⟨m-1,by omega⟩
  cases y with
  | nil=>
    show ZaS _ _ _ _ _=_
    unfold ZaS
    rw [df (by simp),cond_false,Zgg,Option.bind_some]
    show _=F190 k [] ptsR
    cases F190 k [] ptsR <;> rfl
  | cons r l=>
    rw [List.length_cons] at hy hm
    show ZaS k (Zbr k (r :: l) m) (r :: l) _ _=_
    unfold ZaS
    rw [dt (by simp),cond_true,df (by simp),cond_false]
    unfold Zdy Zdz
    rw [cond_false,ZcF,Option.bind_some,if_pos (by simp)]
    have e1:w64 ((0:Int)+1)=((1:Nat):Int):=by rw [Zu (by omega) (by omega)];rfl
    rw [e1]
    have:=Zed (k:=k) (y:=r :: l) (by rw [List.length_cons];exact hy) l [] r 1 m rfl (by simp;omega) (by omega) (by simp)
    rw [List.nil_append] at this ⊢
    exact this
theorem Zjs {k:Nat} {v0:List Zb} (h0:v0.length≤50000) (hk:v0.length+2<k):∀(l out:List Zb) (i m:Nat),v0.drop i=l→out.length+l.length≤v0.length→l.length<m→i≤v0.length→
    Zdj k v0 m out (i:Int)=F190 k (mrgs (Zd4 out l)) ptsR
  | [],out,i,m,hd,ha,hm,hi=>by
    obtain ⟨m,rfl⟩:∃q,m=q+1:=⟨m-1,by simp at hm;omega⟩
    have:=Z5 hd
    show Zdi _ _ _ _ _=_
    unfold Zdi
    rw [df (by omega),cond_false]
    rw [List.length_nil] at ha
    exact ZlN (by omega) (by omega)
  | x :: l,out,i,m,hd,ha,hm,hi=>by
    obtain ⟨m,rfl⟩:∃q,m=q+1:=⟨m-1,by omega⟩
    obtain ⟨g1,g2,g3⟩:=Z0 hd
    rw [List.length_cons] at ha hm
    show Zdi k (Zdj k v0 m) v0 out (i:Int)=_
    unfold Zdi
    rw [dt (by omega),cond_true,Zib g2 (by omega) (by omega) out.length k (Nat.le_refl _) (by omega) rfl,Zjs h0 hk l (ins x out) (i+1) m g3 (by rw [(Zkg x out).length_eq,List.length_cons];omega) (by omega) (by omega)]
    rfl
theorem ZoP {k:Nat} {l:List Zb} (hl:l.length≤50000) (hk:l.length+10≤k) (hb:Bd l):∃l',F174 k l=some l'∧ZcT l'∧(∀c,inR l' c↔inR l c∧ZM c)∧l'.length≤2*l.length:=by
  have hp:List.Perm (Zd4 [] l) l:=Zio l []
  obtain ⟨h1,h2,h3⟩:=Zh6 (Zip l [] trivial) (hb.perm hp)
  have hm:=Zkk (Zd4 [] l)
  have hpl:=hp.length_eq
  obtain ⟨e1,c1,i1,n1⟩:=ZkD (k:=k) (a:=mrgs (Zd4 [] l)) (by omega) (by omega) h1
  have e:F174 k l=F190 k (mrgs (Zd4 [] l)) ptsR:=Zjs hl (by omega) l [] 0 k rfl (by simp) (by omega) (Nat.zero_le _)
  exact ⟨_,by rw [e,e1],c1,fun c=>by rw [i1,h2,Zkf hp],by omega⟩
end Go.Proofs.YthilboheomikjaaGreatDoor
end
section
namespace Go.Proofs.YthilboheomikjaaGreatDoor
open Go.AL Go.Lib
set_option maxRecDepth 100000
def mk16:List UInt8:=[92,46,91,93,40,41,123,125,42,43,63,124,94,36,45,47]
def esc (b:UInt8):Option Int:=if b=100 then some (-1) else if b=110 then some 10 else if b=116 then some 9 else if mk16.contains b then some (b.toNat:Int) else none
def rgv (v:Int):Zb:=if v = -1 then ⟨48,57⟩ else ⟨v,v⟩
theorem Zoi:((List.range 256).all fun n=>decide (UInt8.ofNat n=100) || decide (UInt8.ofNat n=110) || decide (UInt8.ofNat n=116) || (if mk16.contains (UInt8.ofNat n) then decide (n≤126) && decide (n≠0) && decide (0≤indexByte mk16 (UInt8.ofNat n)) && (mk16.any fun x=>(x.toNat:Int) == (n:Int)) else decide (indexByte mk16 (UInt8.ofNat n)<0) && !(mk16.any fun x=>(x.toNat:Int) == (n:Int))))=true:=by kernel_rfl
theorem Zb7 (b:UInt8):(b=100∧esc b=some (-1))∨(b=110∧esc b=some 10)∨(b=116∧esc b=some 9)∨
    ((b.toNat≠100∧b.toNat≠110∧b.toNat≠116)∧((b.toNat≤126∧b.toNat≠0∧0≤indexByte mk16 b∧(mk16.any fun x=>(x.toNat:Int) == (b.toNat:Int))=true∧esc b=some (b.toNat:Int))∨(indexByte mk16 b<0∧(mk16.any fun x=>(x.toNat:Int) == (b.toNat:Int))=false∧esc b=none))):=by
  by_cases h1:b=100
  · exact .inl ⟨h1,by subst h1;rfl⟩
  by_cases h2:b=110
  · exact .inr (.inl ⟨h2,by subst h2;rfl⟩)
  by_cases h3:b=116
  · exact .inr (.inr (.inl ⟨h3,by subst h3;rfl⟩))
  have h:=List.all_eq_true.1 Zoi b.toNat (List.mem_range.2 b.toNat_lt)
  simp only [UInt8.ofNat_toNat] at h
  rw [df h1,df h2,df h3,Bool.false_or,Bool.false_or,Bool.false_or] at h
  have n1:b.toNat≠100:=fun c=>h1 (UInt8.toNat_inj.1 c)
  have n2:b.toNat≠110:=fun c=>h2 (UInt8.toNat_inj.1 c)
  have n3:b.toNat≠116:=fun c=>h3 (UInt8.toNat_inj.1 c)
  refine .inr (.inr (.inr ⟨⟨n1,n2,n3⟩,?_⟩))
  unfold esc
  rw [if_neg h1,if_neg h2,if_neg h3]
  by_cases hc:mk16.contains b=true
  · rw [if_pos hc] at h ⊢
    simp only [Bool.and_eq_true,decide_eq_true_eq] at h
    exact .inl ⟨h.1.1.1,h.1.1.2,h.1.2,h.2,rfl⟩
  · rw [if_neg hc] at h ⊢
    simp only [Bool.and_eq_true,decide_eq_true_eq,Bool.not_eq_true'] at h
    exact .inr ⟨h.1,h.2,rfl⟩
theorem Zoj {b:UInt8} {v:Int} (h:esc b=some v):-1≤v∧v≤126:=by
  rcases Zb7 b with ⟨_,e⟩ | ⟨_,e⟩ | ⟨_,e⟩ | ⟨_,⟨h1,_,_,_,e⟩ | ⟨_,_,e⟩⟩
  all_goals (rw [e] at h;first | (obtain rfl:=Option.some.inj h;omega) | cases h)
theorem ZiU {l:List UInt8} (hb:¬bad l) (h:128≤(l.getD 0 0).toNat):128≤(decodeL l).1:=by
  unfold bad at hb
  rw [decodeL_N] at hb ⊢
  generalize (l.getD 0 0).toNat=b0 at *;generalize (l.getD 1 0).toNat=b1 at *;generalize (l.getD 2 0).toNat=b2 at *;generalize (l.getD 3 0).toNat=b3 at *
  unfold decodeN at hb ⊢
  repeat' split
  all_goals first | (exfalso;simp_all;done) | (simp only [];omega)
theorem Zmp {k p:Nat} {s:List UInt8} {o:Bool} {b:UInt8} {v:Int} (hs:s.length≤1000000) (h:s[p]?=some b) (he:esc b=some v):F139 k (rd s p o) [92,46,91,93,40,41,123,125,42,43,63,124,94,36,45,47]=some (some ([rgv v],rd s (p+1) o)):=by
  unfold F139 Zeg Zc5 F170
  rcases Zb7 b with ⟨e0,e⟩ | ⟨e0,e⟩ | ⟨e0,e⟩ | ⟨⟨n1,n2,n3⟩,⟨h1,h2,h3,h4,e⟩ | ⟨_,_,e⟩⟩
  · rw [e] at he;obtain rfl:=Option.some.inj he
    subst e0
    rw [Zcj hs h (by decide)]
    rfl
  · rw [e] at he;obtain rfl:=Option.some.inj he
    subst e0
    rw [Zcj hs h (by decide)]
    rfl
  · rw [e] at he;obtain rfl:=Option.some.inj he
    subst e0
    rw [Zcj hs h (by decide)]
    rfl
  · rw [e] at he;obtain rfl:=Option.some.inj he
    rw [Zcj hs h (by omega)]
    have eu:UInt8.ofNat b.toNat=b:=UInt8.ofNat_toNat
    have ew:(Int.toNat (IntKind.wrap .u8 (b.toNat:Int))).toUInt8=b:=by
      have:IntKind.wrap .u8 (b.toNat:Int)=b.toNat:=by simp [IntKind.wrap,IntKind.bits,IntKind.signed];omega
      rw [this];simp
    simp only [orP,Option.bind_some]
    rw [ZG (by omega),cond_false,ZG (by omega),cond_false,ZG (by omega),cond_false,df (by omega),cond_false,ew,df (by unfold mk16 at h3;omega),cond_false]
    unfold rgv
    rw [if_neg (by omega)]
  · rw [e] at he;cases he
theorem Zmo {k p:Nat} {s:List UInt8} {o:Bool} (hs:s.length≤1000000) (hp:p≤s.length) (h:∀b,s[p]?=some b→esc b=none):F139 k (rd s p o) [92,46,91,93,40,41,123,125,42,43,63,124,94,36,45,47]=some none:=by
  unfold F139 Zeg Zc5 F170
  by_cases hl:p<s.length
  · obtain ⟨b,hb⟩:∃b,s[p]?=some b:=⟨_,List.getElem?_eq_getElem hl⟩
    have he:=h b hb
    rcases Zb7 b with ⟨e0,e⟩ | ⟨e0,e⟩ | ⟨e0,e⟩ | ⟨⟨n1,n2,n3⟩,⟨h1,h2,h3,h4,e⟩ | ⟨h1,_,e⟩⟩
    · rw [e] at he;cases he
    · rw [e] at he;cases he
    · rw [e] at he;cases he
    · rw [e] at he;cases he
    · by_cases h8:b.toNat<128
      · rw [Zcj hs hb h8]
        have ew:(Int.toNat (IntKind.wrap .u8 (b.toNat:Int))).toUInt8=b:=by
          have:IntKind.wrap .u8 (b.toNat:Int)=b.toNat:=by simp [IntKind.wrap,IntKind.bits,IntKind.signed];omega
          rw [this];simp
        simp only [orP,Option.bind_some]
        rw [ZG (by omega),cond_false,ZG (by omega),cond_false,ZG (by omega),cond_false]
        by_cases h9:(b.toNat:Int) > 126
        · rw [dt h9,cond_true,cond_true]
        · rw [df h9,cond_false,ew,dt (by unfold mk16 at h1;omega),cond_true]
      · by_cases hbad:bad (s.drop p)
        · rw [Zhb hs hl hbad];rfl
        · have hw:=ZiU hbad (by rw [Zai hb];simpa using h8)
          rw [ZcX hs hl hbad]
          simp only [orP,Option.bind_some]
          rw [ZG (by omega),cond_false,ZG (by omega),cond_false,ZG (by omega),cond_false,dt (by omega),cond_true,cond_true]
  · obtain rfl:p=s.length:=by omega
    rw [Zhc hs]
    rfl
theorem ZgV {k p:Nat} {s:List UInt8} {b o:Bool} (hk:20≤k) (hs:s.length≤1000000) (h:s[p]?=some 92) :
    (∃c v,s[p+1]?=some c∧esc c=some v∧F173 k (rx s p b o)=some (v,rx s (p+1+1) b o))∨((∀c,s[p+1]?=some c→esc c=none)∧F173 k (rx s p b o)=some (0,rx s (p+1+1) true o)):=by
  have hp:=(List.getElem?_eq_some_iff.1 h).1
  have ep:∀c:Bool,({ rx s (p+1) c o with f_I:=w64 ((rx s (p+1) c o).f_I+1) }:Zf)=rx s (p+1+1) c o:=fun c=>by
    have:w64 (((p+1:Nat):Int)+1)=((p+1+1:Nat):Int):=Z2 (by omega)
    show ({ f_S:=s,f_I:=w64 (((p+1:Nat):Int)+1),f_Bad:=c,f_Long:=o }:Zf)=_
    rw [this];rfl
  have ew:w64 ((rx s (p+1) b o).f_I+1)=((p+1+1:Nat):Int):=Z2 (by omega)
  unfold F173 Zgr
  rw [Zcz (c:=92) hs h rfl,Option.bind_some]
  simp only [Bool.not_true,cond_false]
  rw [ZaM,Option.bind_some,ep]
  by_cases hl:p+1<s.length
  · obtain ⟨c,hc⟩:∃c,s[p+1]?=some c:=⟨_,List.getElem?_eq_getElem hl⟩
    rw [ZaZ hc]
    rcases Zb7 c with ⟨e0,e⟩ | ⟨e0,e⟩ | ⟨e0,e⟩ | ⟨⟨n1,n2,n3⟩,⟨h1,h2,h3,h4,e⟩ | ⟨h1,h4,e⟩⟩
    · subst e0;exact .inl ⟨_,_,hc,e,rfl⟩
    · subst e0;exact .inl ⟨_,_,hc,e,rfl⟩
    · subst e0;exact .inl ⟨_,_,hc,e,rfl⟩
    · refine .inl ⟨_,_,hc,e,?_⟩
      unfold mk16 at h4
      rw [ZG (by omega),cond_false,ZG (by omega),cond_false,ZG (by omega),cond_false,show ((c.toNat:Int) != 0)=true by simp;omega,cond_true,Zbu (by simp) (by simp;omega),Option.bind_some,h4,cond_true,Zu (by omega) (by omega)]
    · refine .inr ⟨fun c' hc'=>by rw [hc] at hc';obtain rfl:=Option.some.inj hc';exact e,?_⟩
      unfold mk16 at h4
      rw [ZG (by omega),cond_false,ZG (by omega),cond_false,ZG (by omega),cond_false]
      cases (c.toNat:Int) != 0
      · simp only [cond_false]
        rw [ew];rfl
      · rw [cond_true,Zbu (by simp) (by simp;omega),Option.bind_some,h4,cond_false,ew];rfl
  · rw [ZeT (by omega)]
    refine .inr ⟨(fun c hc=>by rw [List.getElem?_eq_none (by omega)] at hc;cases hc),?_⟩
    simp only [show ((0:Int) == 100)=false from rfl,show ((0:Int) == 110)=false from rfl,show ((0:Int) == 116)=false from rfl,show ((0:Int) != 0)=false from rfl,cond_false]
    rw [ew];rfl
theorem ZkT {k q:Nat} {s:List UInt8} {o:Bool} (hk:20≤k) (hs:s.length≤1000000) (hq:q≤s.length+1):∃v r,F173 k (rx s q true o)=some (v,r)∧BadR s r:=by
  by_cases h:s[q]?=some 92
  · have hp:=(List.getElem?_eq_some_iff.1 h).1
    rcases ZgV (b:=true) (o:=o) hk hs h with ⟨c,v,_,_,e⟩ | ⟨_,e⟩
    · exact ⟨_,_,e,_,o,rfl,by omega⟩
    · exact ⟨_,_,e,_,o,rfl,by omega⟩
  · obtain ⟨v,r,e,hr⟩:=Zii (k:=k) (o:=o) (by omega) hs hq
    have j1:Zb6 k (rx s q true o)=some (v,r):=by unfold Zb6;rw [e];rfl
    refine ⟨v,r,?_,hr⟩
    unfold F173 ZbG
    rw [ZaG fun x hx hc=>h (by rw [hx];congr 1;exact UInt8.toNat_inj.1 (by show x.toNat=92;omega)),Option.bind_some]
    simp only [Bool.not_false,cond_true]
    have eb:({ rx s q true o with f_Bad:=true }:Zf)=rx s q true o:=rfl
    rw [eb]
    cases decide ((rx s q true o).f_I<((rx s q true o).f_S.length:Int))
    · rw [cond_false,cond_false];exact j1
    · rw [cond_true,ZaM,Option.bind_some,Zbu (by simp) (by simp;omega),Option.bind_some]
      cases (([93,91,94,45]:List UInt8).any fun x=>(x.toNat:Int) == pk s q)
      · rw [cond_false];exact j1
      · rw [cond_true];exact j1
theorem ZnM {b:UInt8} (h:128≤b.toNat):(([93,91,94,45]:List UInt8).any fun x=>(x.toNat:Int) == (b.toNat:Int))=false∧(([93,91,40,41,123,125,42,43,63,124,94,36]:List UInt8).any fun x=>(x.toNat:Int) == (b.toNat:Int))=false:=by
  simp;omega
theorem Zd0 {k k' p:Nat} {s:List UInt8} {o o':Bool} (hk:20≤k) (hk':20≤k') (hs:s.length≤1000000) (hp:p≤s.length) :
    (F169 k (rd s p o)=some none∧∃v r,F173 k' (rx s p false o')=some (v,r)∧BadR s r)∨
    (∃(v:Int) (p':Nat),-1≤v∧v≤1114111∧F97 k (rd s p o) [92,100]=some (decide (v = -1))∧F169 k (rd s p o)=some (some ([rgv v],rd s p' o))∧F173 k' (rx s p false o')=some (v,rx s p' false o')∧p<p'∧p'≤s.length):=by
  by_cases h:s[p]?=some 92
  · have hp1:=(List.getElem?_eq_some_iff.1 h).1
    have e9:F169 k (rd s p o)=(orP (F139 k (rd s (p+1) o) ([92,46,91,93,40,41,123,125,42,43,63,124,94,36,45,47]:List UInt8)) fun y103=>(some (some (y103.1,y103.2)))):=by
      unfold F169
      rw [ZcC hs h];rfl
    rw [e9]
    rcases ZgV (k:=k') (b:=false) (o:=o') hk' hs h with ⟨c,v,hc,he,e⟩ | ⟨hc,e⟩
    · have hr:=Zoj he
      rw [Zmp hs hc he]
      refine .inr ⟨v,p+1+1,by omega,by omega,?_,rfl,e,by omega,by have:=(List.getElem?_eq_some_iff.1 hc).1;omega⟩
      rw [Zfd (by omega),Zai h,Zai hc]
      congr 1
      simp only [List.isPrefixOf,Bool.and_true,beq_self_eq_true,Bool.true_and]
      rcases Zb7 c with ⟨e0,e1⟩ | ⟨e0,e1⟩ | ⟨e0,e1⟩ | ⟨⟨n1,n2,n3⟩,⟨h1,h2,h3,h4,e1⟩ | ⟨_,_,e1⟩⟩
      · rw [e1] at he;obtain rfl:=Option.some.inj he;subst e0;rfl
      · rw [e1] at he;obtain rfl:=Option.some.inj he;subst e0;rfl
      · rw [e1] at he;obtain rfl:=Option.some.inj he;subst e0;rfl
      · rw [e1] at he;obtain rfl:=Option.some.inj he
        have:((100:UInt8) == c)=false:=by
          simp only [beq_eq_false_iff_ne];intro c2;apply n1;rw [←c2];rfl
        rw [this,df (by omega)]
      · rw [e1] at he;cases he
    · rw [Zmo hs (by omega) hc]
      exact .inl ⟨rfl,_,_,e,_,o',rfl,by omega⟩
  · have e9:F169 k (rd s p o)=(orP (F140 k (rd s p o)) fun y104=>(F141 k ([92,91,93,94,45]:List UInt8) (IntKind.wrap .i32 y104.1)).bind fun y105=>(cond y105 (some none) (((some (some (([(⟨y104.1,y104.1⟩:Zb)]:List Zb),y104.2))))))):=by
      unfold F169
      rw [ZcB hp h];rfl
    have er:F173 k' (rx s p false o')=cond (decide (p<s.length)) ((F146 k' ([93,91,94,45]:List UInt8) (pk s p)).bind fun y105=>ZbG k' (false,rx s p false o') y105) (ZbG k' (false,rx s p false o') false):=by
      unfold F173
      rw [ZaG fun x hx hc=>h (by rw [hx];congr 1;exact UInt8.toNat_inj.1 (by show x.toNat=92;omega)),Option.bind_some]
      simp only [Bool.not_false,cond_true]
      rw [ZaM,Option.bind_some]
      congr 1
      exact decide_eq_decide.2 (by show (p:Int)<(s.length:Int)↔_;omega)
    rw [e9,er]
    by_cases hl:p<s.length
    · obtain ⟨b,hb⟩:∃b,s[p]?=some b:=⟨_,List.getElem?_eq_getElem hl⟩
      rw [dt hl,cond_true,Zbu (by simp) (by simp;omega),Option.bind_some,ZaZ hb]
      unfold ZbG Zb6
      simp only
      by_cases hbad:bad (s.drop p)
      · rw [Zhb hs hl hbad]
        refine .inl ⟨rfl,?_⟩
        cases (([93,91,94,45]:List UInt8).any fun x=>(x.toNat:Int) == (b.toNat:Int))
        · rw [cond_false,Zcl (by omega) hs hl hbad]
          exact ⟨_,_,rfl,p,o',rfl,by omega⟩
        · have eb:({ rx s p false o' with f_Bad:=true }:Zf)=rx s p true o':=rfl
          rw [cond_true,eb,Zcl (by omega) hs hl hbad]
          exact ⟨_,_,rfl,p,o',rfl,by omega⟩
      · have hne:s.drop p≠[]:=fun c=>by have:=List.drop_eq_nil_iff.1 c;omega
        have hw:=decodeL_width (s.drop p)
        have hle:=decodeL_le _ hne
        rw [List.length_drop] at hle
        have hpt:=Zks hbad
        rw [ZcX hs hl hbad]
        simp only [orP,Option.bind_some]
        have okk:F141 k [92,91,93,94,45] (IntKind.wrap .i32 ((decodeL (s.drop p)).1:Int))=some (([93,91,94,45]:List UInt8).any fun x=>(x.toNat:Int) == (b.toNat:Int)):=by
          by_cases h8:b.toNat<128
          · obtain ⟨a1,a2⟩:=ZcV (l:=s.drop (p+1)) h8
            rw [←Zai hb] at a1
            rw [a1,ZeJ h8]
            have hb92:b≠92:=fun c=>h (by rw [hb,c])
            have key:((List.range 256).all fun n=>decide (UInt8.ofNat n=92) || (decide (0≤indexByte [92,91,93,94,45] (UInt8.ofNat n)) == (([93,91,94,45]:List UInt8).any fun x=>(x.toNat:Int) == (n:Int))))=true:=by kernel_rfl
            have:=List.all_eq_true.1 key b.toNat (List.mem_range.2 b.toNat_lt)
            simp only [UInt8.ofNat_toNat] at this
            rw [df hb92,Bool.false_or,beq_iff_eq] at this
            rw [this]
          · have hw2:=ZiU hbad (by rw [Zai hb];simpa using h8)
            rw [Zfr (by omega) (by decide) (by simp) (by simp) hpt (by omega),(ZnM (by omega)).1]
        rw [okk,Option.bind_some]
        cases hany:(([93,91,94,45]:List UInt8).any fun x=>(x.toNat:Int) == (b.toNat:Int))
        · rw [cond_false,cond_false,Zbj (by omega) hs hl hbad]
          refine .inr ⟨((decodeL (s.drop p)).1:Int),p+(decodeL (s.drop p)).2,by omega,hpt.2.1,?_,?_,rfl,by omega,by omega⟩
          · rw [Zo0 hp h,df (by omega)]
          · unfold rgv;rw [if_neg (by omega)]
        · have eb:({ rx s p false o' with f_Bad:=true }:Zf)=rx s p true o':=rfl
          rw [cond_true,cond_true,eb,Zbj (by omega) hs hl hbad]
          exact .inl ⟨rfl,_,_,rfl,_,o',rfl,by omega⟩
    · obtain rfl:p=s.length:=by omega
      rw [Zhc hs,df hl,cond_false]
      unfold ZbG Zb6
      simp only
      rw [cond_false,Zfp (Nat.le_refl _)]
      exact .inl ⟨rfl,_,_,rfl,s.length,o',rfl,by omega⟩
end Go.Proofs.YthilboheomikjaaGreatDoor
end
section
namespace Go.Proofs.YthilboheomikjaaGreatDoor
open Go.AL Go.Lib
set_option maxRecDepth 100000
theorem Zoe {k k' q:Nat} {s:List UInt8} {o neg:Bool} {R:Zi} {R':Zf} {self5:Zi→List Zb→Bool→Option (Option (Ze×Zi))} {acc:List Zb} (hb:Bd acc) (hl:acc.length≤401) (hk:5000≤k) (hk':5000≤k') :
    ∃l,Zbd k self5 (neg,R) acc (rd s q o) false=some (some (⟨1,l,[],0,0⟩,rd s q o))∧Zco k' (neg,R') (rx s q false o) acc=some (⟨1,l,[],0,0⟩,rx s q false o)∧l.length≤4*acc.length+2:=by
  obtain ⟨l1,e1,a1,i1,b1,n1⟩:=ZiL (k:=k) (l:=acc) (by omega) (by omega) hb
  obtain ⟨l2,e2,c2,i2,n2⟩:=Zll (k:=k) (a:=l1) (by omega) (by omega)
  obtain ⟨m2,f2,d2,j2,q2⟩:=ZoP (k:=k') (l:=acc) (by omega) (by omega) hb
  have h2:m2=l2:=Zj4 d2 c2 fun c=>by rw [j2,i2,i1]
  subst h2
  have hnb:(rx s q false o).f_Bad=false:=rfl
  unfold Zbd Zco Zgh Zgc
  rw [cond_false,e1,Option.bind_some,ZjS,Option.bind_some,e2,Option.bind_some,hnb,cond_false,f2,Option.bind_some]
  cases neg
  · exact ⟨m2,rfl,rfl,by omega⟩
  · obtain ⟨l3,e3,c3,i4,n3⟩:=Zo3 (k:=k) (l:=m2) (by omega) (by omega) c2.bd c2.1
    obtain ⟨m3,f3,d3,j3⟩:=Zov (k:=k') (l:=m2) (by omega) (by omega) c2.bd c2.1
    have h3:m3=l3:=Zj4 d3 c3 fun c=>by rw [j3,i4]
    subst h3
    simp only [cond_true]
    rw [e3,f3]
    exact ⟨m3,rfl,rfl,by omega⟩
theorem Zj6 {k q:Nat} {s:List UInt8} {o:Bool} {y:Bool×Zf} {acc:List Zb}:Zco k y (rx s q true o) acc=some (⟨0,[],[],0,0⟩,rx s q true o):=by
  unfold Zco
  rfl
theorem Zb0 {k m:Nat} {s:List UInt8} {r:Zf} {y:Bool×Zf} {acc:List Zb} (hs:s.length≤1000000) (hr:BadR s r):∃x r',Zbe k (Zay k y (m+1)) y r acc=some (x,r')∧BadR s r':=by
  obtain ⟨q,o,rfl,hq⟩:=hr
  obtain ⟨t,q2,e,h⟩:=Za0 k (q:=q) (b:=true) (o:=o) 93 hs
  unfold Zbe
  rw [e,Option.bind_some]
  cases t
  · simp only [cond_false]
    show ∃x r',ZbB k (Zay k y m) y (rx s q2 true o) acc=_∧_
    unfold ZbB
    rw [show (!(rx s q2 true o).f_Bad)=false from rfl,cond_false,Zj6]
    exact ⟨_,_,rfl,q2,o,rfl,by omega⟩
  · simp only [cond_true]
    rw [Zj6]
    exact ⟨_,_,rfl,q2,o,rfl,by omega⟩
def clsT (k:Nat) (self4:Zf→List Zb→Option (Ze×Zf)) (y101:Bool×Zf) (v138:List Zb) (y141:Int×Zf):Option (Ze×Zf):=
  cond (y141.1 == (-1)) (if v138.length+([(⟨48,57⟩:Zb)]:List Zb).length≤1073741824 then (Zbe k self4 y101 y141.2 (v138 ++ ([(⟨48,57⟩:Zb)]:List Zb))) else none) ((F74 k y141.2 45).bind fun y144=>(cond y144.1 ((F173 k y144.2).bind fun y146=>((cond (decide (y146.1<y141.1)) ((ZbC k self4 y101 v138 y141 ({ y146.2 with f_Bad:=true }:Zf) y146.1)) ((ZbC k self4 y101 v138 y141 y146.2 y146.1))))) ((ZbC k self4 y101 v138 y141 y144.2 y141.1))))
theorem ZlC {k q:Nat} {s:List UInt8} {o:Bool} {self4:Zf→List Zb→Option (Ze×Zf)} {y:Bool×Zf} {acc:List Zb}:ZbB k self4 y (rx s q false o) acc=(F173 k (rx s q false o)).bind fun y141=>clsT k self4 y acc y141:=rfl
theorem ZdZ {k:Nat} {self4:Zf→List Zb→Option (Ze×Zf)} {y:Bool×Zf} {acc:List Zb} {z:Int×Zf} {r:Zf} {v:Int} (ha:acc.length≤1000000):ZbC k self4 y acc z r v=Zbe k self4 y r (acc ++ [⟨z.1,v⟩]):=by
  unfold ZbC
  rw [if_pos (by simp;omega)]
theorem Zg2 {k m:Nat} {s:List UInt8} {r:Zf} {v:Int} {y:Bool×Zf} {acc:List Zb} (hk:20≤k) (hs:s.length≤1000000) (ha:acc.length≤1000000) (hr:BadR s r):∃x r',clsT k (Zay k y (m+1)) y acc (v,r)=some (x,r')∧BadR s r':=by
  unfold clsT
  simp only
  cases v == -1
  · rw [cond_false]
    obtain ⟨q,o,rfl,hq⟩:=hr
    obtain ⟨t,q2,e,h⟩:=Za0 k (q:=q) (b:=true) (o:=o) 45 hs
    rw [e,Option.bind_some]
    cases t
    · simp only [cond_false]
      rw [ZdZ ha]
      exact Zb0 hs ⟨q2,o,rfl,by omega⟩
    · simp only [cond_true]
      obtain ⟨w,r2,e2,h2⟩:=ZkT (k:=k) (q:=q2) (o:=o) hk hs (by omega)
      rw [e2,Option.bind_some,ZdZ ha,ZdZ ha]
      simp only
      cases decide (w<v)
      · exact Zb0 hs h2
      · obtain ⟨q3,o3,rfl,h3⟩:=h2
        exact Zb0 hs ⟨q3,o3,rfl,h3⟩
  · rw [cond_true,if_pos (by simp;omega)]
    exact Zb0 hs hr
theorem ZkB {acc:List Zb} {v w:Int} (hb:Bd acc) (h0:0≤v) (h1:v≤w) (h2:w≤1114111):Bd (acc ++ [⟨v,w⟩]):=fun r hr=>by
  rcases List.mem_append.1 hr with hr | hr
  · exact hb r hr
  · simp at hr;subst hr;exact ⟨h0,h1,h2⟩
def LSc (s:List UInt8) (p:Nat) (o:Bool) (n:Nat) (P:Option (Option (Ze×Zi))) (R:Option (Ze×Zf)):Prop:=
  (P=some none∧∃x r,R=some (x,r)∧BadR s r)∨∃(l:List Zb) (p':Nat),P=some (some (⟨1,l,[],0,0⟩,rd s p' o))∧R=some (⟨1,l,[],0,0⟩,rx s p' false o)∧p<p'∧p'≤s.length∧l.length≤4*(n+(p'-p))+2
theorem ZlG {k k':Nat} {s:List UInt8} {o neg:Bool} {R:Zi} {R':Zf} (hk:5000≤k) (hk':5000≤k') (hs:s.length≤400):∀(d p m m':Nat) (acc:List Zb),s.length-p≤d→p≤s.length→d<m→d+1<m'→acc.length≤p→Bd acc→
    LSc s p o acc.length (Zbd k (Zac k (neg,R) m) (neg,R) acc (rd s p o) true) (ZbB k' (Zay k' (neg,R') m') (neg,R') (rx s p false o) acc):=by
  intro d
  induction d with
  | zero=>
    intro p m m' acc hd hp hm hm' ha hb
    obtain rfl:p=s.length:=by omega
    rw [ZlC]
    rcases Zd0 (k:=k) (k':=k') (o:=o) (o':=o) (by omega) (by omega) (by omega) hp with ⟨e1,v,r,e2,hr⟩ | ⟨v,p',_,_,_,_,_,h1,h2⟩
    · obtain ⟨m',rfl⟩:∃q,m'=q+1:=⟨m'-1,by omega⟩
      refine .inl ⟨?_,?_⟩
      · unfold Zbd
        rw [cond_true,Zfd hp,Option.bind_some,e1];rfl
      · rw [e2,Option.bind_some]
        exact Zg2 (by omega) (by omega) (by omega) hr
    · omega
  | succ d ih=>
    intro p m m' acc hd hp hm hm' ha hb
    obtain ⟨m,rfl⟩:∃q,m=q+1:=⟨m-1,by omega⟩
    obtain ⟨m',rfl⟩:∃q,m'=q+1:=⟨m'-1,by omega⟩
    rw [ZlC]
    have after:∀(p2:Nat) (acc2:List Zb),p<p2→p2≤s.length→acc2.length=acc.length+1→Bd acc2→LSc s p o acc.length (Zac k (neg,R) (m+1) (rd s p2 o) acc2 false) (Zbe k' (Zay k' (neg,R') (m'+1)) (neg,R') (rx s p2 false o) acc2):=fun p2 acc2 h1 h2 h3 hb2=>by
      show LSc s p o acc.length (Zc3 k (Zac k (neg,R) m) (neg,R) (rd s p2 o) acc2 false) _
      unfold Zc3 Zbe
      rw [cond_false]
      rcases Zan (k:=k) (k':=k') (o:=o) (o':=o) 93 (by omega) h2 with ⟨_,f1,f2,f3⟩ | ⟨_,f1,f2⟩
      · have f2':F74 k' (rx s p2 false o) 93=_:=f2
        rw [f1,f2',Option.bind_some,Option.bind_some]
        simp only [Bool.not_true,cond_true]
        obtain ⟨l,e1,e2,hl⟩:=Zoe (k:=k) (k':=k') (q:=p2+1) (s:=s) (o:=o) (neg:=neg) (R:=R) (R':=R') (self5:=Zac k (neg,R) m) hb2 (by omega) hk hk'
        exact .inr ⟨l,p2+1,e1,e2,by omega,f3,by omega⟩
      · have f2':F74 k' (rx s p2 false o) 93=_:=f2
        rw [f1,f2',Option.bind_some,Option.bind_some]
        simp only [Bool.not_false,cond_false]
        show LSc s p o acc.length _ (ZbB k' (Zay k' (neg,R') m') (neg,R') (rx s p2 false o) acc2)
        rcases ih p2 m m' acc2 (by omega) h2 (by omega) (by omega) (by omega) hb2 with h | ⟨l,p',e1,e2,g1,g2,g3⟩
        · exact .inl h
        · exact .inr ⟨l,p',e1,e2,by omega,g2,by omega⟩
    rcases Zd0 (k:=k) (k':=k') (o:=o) (o':=o) (by omega) (by omega) (by omega) hp with ⟨e1,v,r,e2,hr⟩ | ⟨v,p1,v0,v1,d1,e1,e2,h1,h2⟩
    · refine .inl ⟨?_,?_⟩
      · unfold Zbd
        rw [cond_true,Zfd hp,Option.bind_some,e1];rfl
      · rw [e2,Option.bind_some]
        exact Zg2 (by omega) (by omega) (by omega) hr
    · have eP:Zbd k (Zac k (neg,R) (m+1)) (neg,R) acc (rd s p o) true=(F71 k (rd s p1 o) ([45]:List UInt8)).bind fun y163=>(cond y163.1 ((F97 k y163.2 ([92,100]:List UInt8)).bind fun y165=>(orP (F169 k y163.2) fun y166=>(cond (decide (v = -1)) ((Zb1 (Zac k (neg,R) (m+1)) acc ([rgv v],rd s p1 o) y166 true)) (cond y165 ((Zb1 (Zac k (neg,R) (m+1)) acc ([rgv v],rd s p1 o) y166 true)) ((idxL y166.1 0).bind fun y169=>if (0:Int)≤0∧0<(([rgv v]:List Zb).length:Int) then (idxL [rgv v] 0).bind fun y171=>(Zb1 (Zac k (neg,R) (m+1)) acc ([rgv v],rd s p1 o) y166 (decide (y169.f_Lo<y171.f_Lo))) else none))))) ((Zc4 (Zac k (neg,R) (m+1)) acc y163.2 [rgv v]))):=by
        unfold Zbd
        rw [cond_true,d1,Option.bind_some,e1]
        simp only [orP,Option.bind_some]
      have e8:∀(rdr:Zi) (x:Zb),Zc4 (Zac k (neg,R) (m+1)) acc rdr [x]=Zac k (neg,R) (m+1) rdr (acc ++ [x]) false:=fun rdr x=>by
        unfold Zc4
        rw [if_pos (by simp;omega)]
      rw [eP,e2,Option.bind_some]
      unfold clsT
      simp only
      rcases Zan (k:=k) (k':=k') (o:=o) (o':=o) 45 (by omega) h2 with ⟨g0,f1,f2,f3⟩ | ⟨g0,f1,f2⟩
      ·
        rw [f1,Option.bind_some]
        simp only [cond_true]
        by_cases hv:v = -1
        ·
          rw [ZaE hv,cond_true,if_pos (by simp;omega),dt hv]
          refine .inl ⟨?_,?_⟩
          · rw [Zfd f3,Option.bind_some]
            rcases Zd0 (k:=k) (k':=k') (o:=o) (o':=o) (by omega) (by omega) (by omega) f3 with ⟨e3,_⟩ | ⟨w,p2,_,_,_,e3,_⟩
            · rw [e3];rfl
            · rw [e3];rfl
          · unfold Zbe
            have n93:F74 k' (rx s p1 false o) 93=some (false,rx s p1 false o):=ZaG fun x hx hc=>by
              rw [g0] at hx
              obtain rfl:=Option.some.inj hx
              exact absurd hc (by decide)
            rw [n93,Option.bind_some]
            simp only [cond_false]
            show ∃x r,ZbB k' (Zay k' (neg,R') m') (neg,R') (rx s p1 false o) _=_∧_
            rw [ZlC]
            have h3:∃v r,F173 k' (rx s p1 false o)=some (v,r)∧BadR s r:=by
              obtain ⟨a1,a2⟩:=ZcV (l:=s.drop (p1+1)) (show (45:UInt8).toNat<128 by decide)
              rw [←Zai g0] at a1 a2
              unfold F173 ZbG Zb6
              rw [ZaG fun x hx hc=>by
                rw [g0] at hx
                obtain rfl:=Option.some.inj hx
                exact absurd hc (by decide),Option.bind_some]
              simp only [Bool.not_false,cond_true]
              have hlt:decide ((rx s p1 false o).f_I<((rx s p1 false o).f_S.length:Int))=true:=dt (by show (p1:Int)<_;have:(rx s p1 false o).f_S.length=s.length:=rfl;omega)
              have eb:({ rx s p1 false o with f_Bad:=true }:Zf)=rx s p1 true o:=rfl
              rw [hlt,cond_true,ZaM,Option.bind_some,ZaZ g0,Zbu (by simp) (by simp;omega),Option.bind_some,show (([93,91,94,45]:List UInt8).any fun x=>(x.toNat:Int) == ((45:UInt8).toNat:Int))=true from rfl,cond_true,eb,Zbj (by omega) (by omega) (by omega) a2,a1]
              exact ⟨_,_,rfl,_,o,rfl,by omega⟩
            obtain ⟨v',r,e3,hr⟩:=h3
            obtain ⟨m',rfl⟩:∃q,m'=q+1:=⟨m'-1,by omega⟩
            rw [e3,Option.bind_some]
            exact Zg2 (by omega) (by omega) (by simp;omega) hr
        · have f2':F74 k' (rx s p1 false o) 45=_:=f2
          rw [ZG hv,cond_false,f2',Option.bind_some,df hv]
          simp only [cond_true]
          rcases Zd0 (k:=k) (k':=k') (o:=o) (o':=o) (by omega) (by omega) (by omega) f3 with ⟨e3,w,r,e4,hr⟩ | ⟨w,p2,w0,w1,d2,e3,e4,h3,h4⟩
          · rw [Zfd f3,Option.bind_some,e3,e4,Option.bind_some,ZdZ (by omega),ZdZ (by omega)]
            refine .inl ⟨rfl,?_⟩
            simp only
            cases decide (w<v)
            · exact Zb0 (by omega) hr
            · obtain ⟨q3,o3,rfl,h3⟩:=hr
              exact Zb0 (by omega) ⟨q3,o3,rfl,h3⟩
          · rw [d2,Option.bind_some,e3,e4,Option.bind_some,ZdZ (by omega),ZdZ (by omega)]
            simp only [orP,Option.bind_some]
            have hrv:rgv v=⟨v,v⟩:=by unfold rgv;rw [if_neg hv]
            by_cases hw:w<v
            · rw [dt hw,cond_true]
              refine .inl ⟨?_,Zb0 (by omega) ⟨p2,o,rfl,by omega⟩⟩
              rw [cond_false]
              by_cases hw1:w = -1
              · rw [dt hw1,cond_true];rfl
              · have hrw:rgv w=⟨w,w⟩:=by unfold rgv;rw [if_neg hw1]
                rw [df hw1,cond_false,ZcF,Option.bind_some,if_pos ⟨by omega,by simp⟩,ZcF,Option.bind_some,hrv,hrw,dt hw]
                rfl
            · have hw1:w≠-1:=by omega
              have hrw:rgv w=⟨w,w⟩:=by unfold rgv;rw [if_neg hw1]
              rw [df hw,cond_false,cond_false,df hw1,cond_false,ZcF,Option.bind_some,if_pos ⟨by omega,by simp⟩,ZcF,Option.bind_some,hrv,hrw,df hw]
              unfold Zb1
              rw [cond_false,ZcF,Option.bind_some,if_pos ⟨by omega,by simp⟩,ZcF,Option.bind_some]
              have es:([⟨v,v⟩]:List Zb).set (Int.toNat 0) { (⟨v,v⟩:Zb) with f_Hi:=(⟨w,w⟩:Zb).f_Lo } = [⟨v,w⟩]:=rfl
              simp only
              rw [es,e8]
              exact after p2 _ (by omega) h4 (by simp) (ZkB hb (by omega) (by omega) w1)
      ·
        rw [f1,Option.bind_some]
        simp only [cond_false]
        rw [e8]
        by_cases hv:v = -1
        · have hrv:rgv v=⟨48,57⟩:=by unfold rgv;rw [if_pos hv]
          rw [ZaE hv,cond_true,if_pos (by simp;omega),hrv]
          exact after p1 _ h1 h2 (by simp) (ZkB hb (by omega) (by omega) (by omega))
        · have f2':F74 k' (rx s p1 false o) 45=_:=f2
          have hrv:rgv v=⟨v,v⟩:=by unfold rgv;rw [if_neg hv]
          rw [ZG hv,cond_false,f2',Option.bind_some,hrv]
          simp only [cond_false]
          rw [ZdZ (by omega)]
          exact after p1 _ h1 h2 (by simp) (ZkB hb (by omega) (by omega) v1)
theorem Zna {k k' p:Nat} {s:List UInt8} {o:Bool} (hk:5000≤k) (hk':5000≤k') (hs:s.length≤400) (hp:p≤s.length):LSc s p o 0 (F138 k (rd s p o)) (F144 k' (rx s p false o)):=by
  unfold F138 F144
  obtain ⟨m,rfl⟩:∃q,k=q+1:=⟨k-1,by omega⟩
  obtain ⟨m',rfl⟩:∃q,k'=q+1:=⟨k'-1,by omega⟩
  have go:∀(q:Nat) (neg:Bool) (R:Zi) (R':Zf),p≤q→q≤s.length→LSc s p o 0 (Zac (m+1) (neg,R) (m+1) (rd s q o) [] true) (Zay (m'+1) (neg,R') (m'+1) (rx s q false o) []):=fun q neg R R' h1 h2=>by
    show LSc s p o 0 (Zc3 (m+1) (Zac (m+1) (neg,R) m) (neg,R) (rd s q o) [] true) (ZbB (m'+1) (Zay (m'+1) (neg,R') m') (neg,R') (rx s q false o) [])
    unfold Zc3
    rw [cond_true]
    rcases ZlG (neg:=neg) (R:=R) (R':=R') (o:=o) hk hk' hs (s.length-q) q m m' [] (Nat.le_refl _) h2 (by omega) (by omega) (Nat.zero_le _) (fun r hr=>by cases hr) with h | ⟨l,p',e1,e2,g1,g2,g3⟩
    · exact .inl h
    · simp only [List.length_nil] at g3
      exact .inr ⟨l,p',e1,e2,by omega,g2,by omega⟩
  rcases Zan (k:=m+1) (k':=m'+1) (o:=o) (o':=o) 94 (by omega) hp with ⟨_,f1,f2,f3⟩ | ⟨_,f1,f2⟩
  · have f2':F74 (m'+1) (rx s p false o) 94=_:=f2
    rw [f1,f2',Option.bind_some,Option.bind_some]
    exact go (p+1) true _ _ (by omega) f3
  · have f2':F74 (m'+1) (rx s p false o) 94=_:=f2
    rw [f1,f2',Option.bind_some,Option.bind_some]
    exact go p false _ _ (Nat.le_refl _) hp
end Go.Proofs.YthilboheomikjaaGreatDoor
end
section
namespace Go.Proofs.YthilboheomikjaaGreatDoor
open Go.AL Go.Lib
set_option maxRecDepth 100000
def LSr (s:List UInt8) (p lo:Nat) (P:Option (Option (Ze×Zi))) (R:Option (Ze×Zf)):Prop:=
  (P=some none∧∃x r,R=some (x,r)∧BadR s r)∨∃(a:Ze) (p':Nat) (o':Bool),P=some (some (a,rd s p' o'))∧R=some (a,rx s p' false o')∧p+lo≤p'∧p'≤s.length∧fs a≤20*(p'-p)+100
def ZjC (k:Nat) (y114:Bool×Zf):Option (Ze×Zf):=
  (F100 k y114.2).bind fun y116=>cond (y116 == 100) (some ((⟨1,([(⟨48,57⟩:Zb)]:List Zb),([]:List Ze),0,0⟩:Ze),({ y114.2 with f_I:=(w64 (y114.2.f_I+1)) }:Zf))) (cond (y116 == 110) ((F145 k 10).bind fun y119=>(some (y119,({ y114.2 with f_I:=(w64 (y114.2.f_I+1)) }:Zf))))
    (cond (y116 == 116) ((F145 k 9).bind fun y121=>(some (y121,({ y114.2 with f_I:=(w64 (y114.2.f_I+1)) }:Zf)))) (cond (y116 != 0) ((F146 k ([92,46,91,93,40,41,123,125,42,43,63,124,94,36,45,47]:List UInt8) y116).bind fun y123=>(Zc1 k y114 y116 y123)) (Zc1 k y114 y116 false))))
theorem Zo1 {k q:Nat} {s:List UInt8} {o:Bool} (hk:5≤k) (hs:s.length≤1000000) (hq:q≤s.length+1):∃x r,Zbz k (rx s q true o)=some (x,r)∧BadR s r:=by
  obtain ⟨c,r,e,hr⟩:=Zii (k:=k) (o:=o) hk hs hq
  unfold Zbz
  rw [e]
  exact ⟨_,_,rfl,hr⟩
theorem Zm7 {k q:Nat} {s:List UInt8} {o:Bool} (hk:20≤k) (hs:s.length≤1000000) (hq:q≤s.length) :
    (∃c v,s[q]?=some c∧esc c=some v∧ZjC k (true,rx s q false o)=some (⟨1,[rgv v],[],0,0⟩,rx s (q+1) false o))∨((∀c,s[q]?=some c→esc c=none)∧∃x r,ZjC k (true,rx s q false o)=some (x,r)∧BadR s r):=by
  have ew:w64 ((rx s q false o).f_I+1)=((q+1:Nat):Int):=Z2 (by omega)
  have ep:({ rx s q false o with f_I:=w64 ((rx s q false o).f_I+1) }:Zf)=rx s (q+1) false o:=by rw [ew];rfl
  have eb:({ ({ rx s q false o with f_I:=w64 ((rx s q false o).f_I+1) }:Zf) with f_Bad:=true }:Zf)=rx s (q+1) true o:=by rw [ew];rfl
  unfold ZjC Zc1
  simp only
  rw [ZaM,Option.bind_some]
  have hbad:∃x r,Zbz k (rx s (q+1) true o)=some (x,r)∧BadR s r:=Zo1 (by omega) hs (by omega)
  by_cases hl:q<s.length
  · obtain ⟨c,hc⟩:∃c,s[q]?=some c:=⟨_,List.getElem?_eq_getElem hl⟩
    rw [ZaZ hc]
    rcases Zb7 c with ⟨e0,e⟩ | ⟨e0,e⟩ | ⟨e0,e⟩ | ⟨⟨n1,n2,n3⟩,⟨h1,h2,h3,h4,e⟩ | ⟨h1,h4,e⟩⟩
    · subst e0
      refine .inl ⟨_,_,hc,e,?_⟩
      show some (_,({ rx s q false o with f_I:=w64 ((rx s q false o).f_I+1) }:Zf))=_
      rw [ep];rfl
    · subst e0
      refine .inl ⟨_,_,hc,e,?_⟩
      show some (_,({ rx s q false o with f_I:=w64 ((rx s q false o).f_I+1) }:Zf))=_
      rw [ep];rfl
    · subst e0
      refine .inl ⟨_,_,hc,e,?_⟩
      show some (_,({ rx s q false o with f_I:=w64 ((rx s q false o).f_I+1) }:Zf))=_
      rw [ep];rfl
    · refine .inl ⟨_,_,hc,e,?_⟩
      unfold mk16 at h4
      rw [ZG (by omega),cond_false,ZG (by omega),cond_false,ZG (by omega),cond_false,show ((c.toNat:Int) != 0)=true by simp;omega,cond_true,Zbu (by simp) (by simp;omega),Option.bind_some,h4,cond_true,Zu (x:=(c.toNat:Int)) (by omega) (by omega)]
      have er:rgv (c.toNat:Int)=⟨(c.toNat:Int),(c.toNat:Int)⟩:=by unfold rgv;rw [if_neg (by omega)]
      rw [er,ep];rfl
    · refine .inr ⟨fun c' hc'=>by rw [hc] at hc';obtain rfl:=Option.some.inj hc';exact e,?_⟩
      unfold mk16 at h4
      rw [ZG (by omega),cond_false,ZG (by omega),cond_false,ZG (by omega),cond_false,eb]
      cases (c.toNat:Int) != 0
      · rw [cond_false,cond_false];exact hbad
      · rw [cond_true,Zbu (by simp) (by simp;omega),Option.bind_some,h4,cond_false];exact hbad
  · rw [ZeT (by omega),eb]
    exact .inr ⟨(fun c hc=>by rw [List.getElem?_eq_none (by omega)] at hc;cases hc),hbad⟩
theorem ZfC {s:List UInt8} {p:Nat} {c:UInt8} (h:s[p]?≠some c):∀x,s[p]?=some x→(x.toNat:Int)≠(c.toNat:Int):=fun x hx hc=>h (by rw [hx];congr 1;exact UInt8.toNat_inj.1 (by omega))
theorem Zmw:((List.range 256).all fun n=>decide (UInt8.ofNat n=92) || decide (UInt8.ofNat n=46) || decide (UInt8.ofNat n=91) || decide (UInt8.ofNat n=40) || (decide (0≤indexByte [92,46,91,93,40,41,123,125,42,43,63,124,94,36] (UInt8.ofNat n)) == (([93,91,40,41,123,125,42,43,63,124,94,36]:List UInt8).any fun x=>(x.toNat:Int) == (n:Int))))=true:=by kernel_rfl
theorem Zh0 (l:List Zb):fs ⟨1,l,[],0,0⟩=41+4*l.length:=by simp only [fs,fsL,List.length_nil];omega
theorem Zod {k k' p:Nat} {s:List UInt8} {o:Bool} {R48:Zi→Option (Option (Ze×Zi))} {R51:Zf→Option (Ze×Zf)} (hk:5000≤k) (hk':5000≤k') (hs:s.length≤400) (hp:p≤s.length)
    (hA:∀q o,p<q→q≤s.length→LSr s q 0 (R48 (rd s q o)) (R51 (rx s q false o))):LSr s p 1 (F117 R48 k (rd s p o)) (F119 R51 k' (rx s p false o)):=by
  unfold F117 F119
  rw [ZaM,Option.bind_some]
  by_cases c40:s[p]?=some 40
  ·
    have h1:=(List.getElem?_eq_some_iff.1 c40).1
    rw [ZcC (by omega) c40,Option.bind_some,ZaG (c:=46) (fun x hx=>by rw [c40] at hx;obtain rfl:=Option.some.inj hx;decide),Option.bind_some]
    simp only [cond_true,cond_false]
    rw [Zcz (c:=40) (by omega) c40 rfl,Option.bind_some]
    simp only [cond_true]
    rcases hA (p+1) o (by omega) (by omega) with ⟨e1,x,r,e2,q,o2,rfl,hq⟩ | ⟨a,p',o',e1,e2,h2,h3,h4⟩
    · rw [e1,e2,Option.bind_some]
      refine .inl ⟨rfl,?_⟩
      obtain ⟨t,q2,e3,h3⟩:=Za0 k' (q:=q) (b:=true) (o:=o2) 41 (by omega:s.length≤1000000)
      simp only
      rw [e3,Option.bind_some]
      unfold Zf9
      cases t
      · exact ⟨_,_,rfl,q2,o2,rfl,by omega⟩
      · exact ⟨_,_,rfl,q2,o2,rfl,by omega⟩
    · rw [e1,e2,Option.bind_some]
      simp only [orP,Option.bind_some]
      rcases Zan (k:=k) (k':=k') (o:=o') (o':=o') 41 (by omega) h3 with ⟨_,f1,f2,f3⟩ | ⟨_,f1,f2⟩
      · have f2':F74 k' (rx s p' false o') 41=_:=f2
        rw [f1,f2',Option.bind_some,Option.bind_some]
        exact .inr ⟨a,p'+1,o',rfl,rfl,by omega,f3,by omega⟩
      · have f2':F74 k' (rx s p' false o') 41=_:=f2
        rw [f1,f2',Option.bind_some,Option.bind_some]
        exact .inl ⟨rfl,_,_,rfl,p',o',rfl,by omega⟩
  rw [ZcB hp c40,Option.bind_some]
  simp only [cond_false]
  by_cases c91:s[p]?=some 91
  ·
    have h1:=(List.getElem?_eq_some_iff.1 c91).1
    rw [ZcC (by omega) c91,Option.bind_some,ZaG (c:=46) (fun x hx=>by rw [c91] at hx;obtain rfl:=Option.some.inj hx;decide),Option.bind_some]
    simp only [cond_true,cond_false]
    rw [ZaG (c:=40) (fun x hx=>by rw [c91] at hx;obtain rfl:=Option.some.inj hx;decide),Option.bind_some]
    simp only [cond_false]
    rw [Zcz (c:=91) (by omega) c91 rfl,Option.bind_some]
    simp only [cond_true]
    have hcls:=Zna (k:=k) (k':=k') (p:=p+1) (o:=o) hk hk' hs (by omega)
    rcases hcls with ⟨e1,x,r,e2,hr⟩ | ⟨l,p',e1,e2,h2,h3,h4⟩
    · rw [e1,e2,Option.bind_some]
      exact .inl ⟨rfl,_,_,rfl,hr⟩
    · rw [e1,e2,Option.bind_some]
      refine .inr ⟨_,p',o,rfl,rfl,by omega,h3,?_⟩
      rw [Zh0]
      omega
  rw [ZcB hp c91,Option.bind_some]
  simp only [cond_false]
  by_cases c46:s[p]?=some 46
  ·
    have h1:=(List.getElem?_eq_some_iff.1 c46).1
    rw [ZcC (by omega) c46,Option.bind_some,Zcz (c:=46) (by omega) c46 rfl,Option.bind_some]
    simp only [cond_true]
    rw [ZjS,Zgg]
    exact .inr ⟨⟨1,ptsR,[],0,0⟩,p+1,o,rfl,rfl,by omega,by omega,by rw [Zh0];have:ptsR.length=2:=rfl;omega⟩
  rw [ZcB hp c46,Option.bind_some,ZaG (c:=46) (ZfC c46),Option.bind_some]
  simp only [cond_false]
  rw [ZaG (c:=40) (ZfC c40),Option.bind_some]
  simp only [cond_false]
  rw [ZaG (c:=91) (ZfC c91),Option.bind_some]
  simp only [cond_false]
  by_cases c92:s[p]?=some 92
  ·
    have h1:=(List.getElem?_eq_some_iff.1 c92).1
    rw [ZcC (by omega) c92,Option.bind_some,Zcz (c:=92) (by omega) c92 rfl,Option.bind_some]
    simp only [cond_true]
    show LSr s p 1 _ (ZjC k' (true,rx s (p+1) false o))
    rcases Zm7 (k:=k') (q:=p+1) (o:=o) (by omega) (by omega:s.length≤1000000) (by omega) with ⟨c,v,hc,he,e⟩ | ⟨hc,x,r,e,hr⟩
    · rw [Zmp (by omega) hc he,e]
      exact .inr ⟨_,p+1+1,o,rfl,rfl,by omega,by have:=(List.getElem?_eq_some_iff.1 hc).1;omega,by rw [Zh0];simp only [List.length_singleton];omega⟩
    · rw [Zmo (by omega) (by omega) hc,e]
      exact .inl ⟨rfl,_,_,rfl,hr⟩
  · rw [ZcB hp c92,Option.bind_some,ZaG (c:=92) (ZfC c92),Option.bind_some]
    simp only [cond_false]
    have hd:decide ((rx s p false o).f_I<((rx s p false o).f_S.length:Int))=decide (p<s.length):=decide_eq_decide.2 (by show (p:Int)<(s.length:Int)↔_;omega)
    rw [hd]
    unfold Zga
    by_cases hl:p<s.length
    · obtain ⟨b,hb⟩:∃b,s[p]?=some b:=⟨_,List.getElem?_eq_getElem hl⟩
      rw [dt hl,cond_true,ZaZ hb,Zbu (by simp) (by simp;omega),Option.bind_some]
      unfold Zbz
      by_cases hbad:bad (s.drop p)
      · rw [Zhb (by omega) hl hbad]
        refine .inl ⟨rfl,?_⟩
        cases (([93,91,40,41,123,125,42,43,63,124,94,36]:List UInt8).any fun x=>(x.toNat:Int) == (b.toNat:Int))
        · rw [cond_false,Zcl (by omega) (by omega) hl hbad]
          exact ⟨_,_,rfl,p,o,rfl,by omega⟩
        · have eb:({ rx s p false o with f_Bad:=true }:Zf)=rx s p true o:=rfl
          rw [cond_true,eb,Zcl (by omega) (by omega) hl hbad]
          exact ⟨_,_,rfl,p,o,rfl,by omega⟩
      · have hne:s.drop p≠[]:=fun c=>by have:=List.drop_eq_nil_iff.1 c;omega
        have hw:=decodeL_width (s.drop p)
        have hle:=decodeL_le _ hne
        rw [List.length_drop] at hle
        have hpt:=Zks hbad
        rw [ZcX (by omega) hl hbad]
        simp only [orP,Option.bind_some]
        have okk:F141 k [92,46,91,93,40,41,123,125,42,43,63,124,94,36] (IntKind.wrap .i32 ((decodeL (s.drop p)).1:Int))=some (([93,91,40,41,123,125,42,43,63,124,94,36]:List UInt8).any fun x=>(x.toNat:Int) == (b.toNat:Int)):=by
          by_cases h8:b.toNat<128
          · obtain ⟨a1,a2⟩:=ZcV (l:=s.drop (p+1)) h8
            rw [←Zai hb] at a1
            rw [a1,ZeJ h8]
            have:=List.all_eq_true.1 Zmw b.toNat (List.mem_range.2 b.toNat_lt)
            simp only [UInt8.ofNat_toNat] at this
            rw [df (show ¬b=92 from fun c=>c92 (by rw [hb,c])),df (show ¬b=46 from fun c=>c46 (by rw [hb,c])),df (show ¬b=91 from fun c=>c91 (by rw [hb,c])),df (show ¬b=40 from fun c=>c40 (by rw [hb,c])),Bool.false_or,Bool.false_or,Bool.false_or,Bool.false_or,beq_iff_eq] at this
            rw [this]
          · have hw2:=ZiU hbad (by rw [Zai hb];simpa using h8)
            rw [Zfr (by omega) (by decide) (by simp) (by simp) hpt (by omega),(ZnM (by omega)).2]
        rw [okk,Option.bind_some]
        cases hany:(([93,91,40,41,123,125,42,43,63,124,94,36]:List UInt8).any fun x=>(x.toNat:Int) == (b.toNat:Int))
        · rw [cond_false,cond_false,Zbj (by omega) (by omega) hl hbad]
          exact .inr ⟨⟨1,[⟨((decodeL (s.drop p)).1:Int),((decodeL (s.drop p)).1:Int)⟩],[],0,0⟩,p+(decodeL (s.drop p)).2,o,rfl,rfl,by omega,by omega,by rw [Zh0];simp only [List.length_singleton];omega⟩
        · have eb:({ rx s p false o with f_Bad:=true }:Zf)=rx s p true o:=rfl
          rw [cond_true,cond_true,eb,Zbj (by omega) (by omega) hl hbad]
          exact .inl ⟨rfl,_,_,rfl,_,o,rfl,by omega⟩
    · obtain rfl:p=s.length:=by omega
      rw [Zhc (by omega),df hl,cond_false,cond_false]
      unfold Zbz
      rw [Zfp (Nat.le_refl _)]
      exact .inl ⟨rfl,_,_,rfl,s.length,o,rfl,by omega⟩
end Go.Proofs.YthilboheomikjaaGreatDoor
end
section
namespace Go.Proofs.YthilboheomikjaaGreatDoor
open Go.AL Go.Lib
set_option maxRecDepth 100000
theorem ZhZ (a:Ze) (n m:Int):fs ⟨4,[],[a],n,m⟩=1+max 41 (fs a):=by simp only [fs,fsL,List.length_cons,List.length_nil];omega
theorem Zg6 (k:Int) (l:List Ze) (n m:Int):fs ⟨k,[],l,n,m⟩=1+max (l.length+40) (fsL l):=by simp only [fs,List.length_nil,Nat.mul_zero,Nat.add_zero]
theorem Zlh (l:List Ze) (x:Ze):fsL (l ++ [x])=max (fsL l) (fs x):=by
  induction l with
  | nil=>simp [fsL]
  | cons y l ih=>simp only [List.cons_append,fsL,ih];omega
def Zia (k:Nat) (y101:Ze×Zf):Option (Ze×Zf):=
  (F74 k y101.2 42).bind fun y102=>cond y102.1 (some ((⟨4,([]:List Zb),([y101.1]:List Ze),0,(-1)⟩:Ze),y102.2)) ((F74 k y102.2 43).bind fun y104=>cond y104.1 (some ((⟨4,([]:List Zb),([y101.1]:List Ze),1,(-1)⟩:Ze),y104.2)) ((F74 k y104.2 63).bind fun y106=>cond y106.1 (some ((⟨4,([]:List Zb),([y101.1]:List Ze),0,1⟩:Ze),y106.2)) ((F74 k y106.2 123).bind fun y108=>cond y108.1 ((F120 k y108.2 y101.1).bind fun y110=>(some (y110.1,y110.2))) (some (y101.1,y108.2)))))
theorem ZmI {k:Nat} {s:List UInt8} {r:Zf} {a:Ze} (hk:20≤k) (hs:s.length≤1000000) (hr:BadR s r):∃x r',Zia k (a,r)=some (x,r')∧BadR s r':=by
  obtain ⟨q,o,rfl,hq⟩:=hr
  unfold Zia
  obtain ⟨t1,q1,e1,h1⟩:=Za0 k (q:=q) (b:=true) (o:=o) 42 hs
  simp only
  rw [e1,Option.bind_some]
  cases t1
  · simp only [cond_false]
    obtain ⟨t2,q2,e2,h2⟩:=Za0 k (q:=q1) (b:=true) (o:=o) 43 hs
    rw [e2,Option.bind_some]
    cases t2
    · simp only [cond_false]
      obtain ⟨t3,q3,e3,h3⟩:=Za0 k (q:=q2) (b:=true) (o:=o) 63 hs
      rw [e3,Option.bind_some]
      cases t3
      · simp only [cond_false]
        obtain ⟨t4,q4,e4,h4⟩:=Za0 k (q:=q3) (b:=true) (o:=o) 123 hs
        rw [e4,Option.bind_some]
        cases t4
        · exact ⟨_,_,rfl,q4,o,rfl,by omega⟩
        · simp only [cond_true]
          obtain ⟨x,r,e5,h5⟩:=ZmQ (k:=k) (q:=q4) (o:=o) (a:=a) (by omega) hs (by omega)
          rw [e5]
          exact ⟨_,_,rfl,h5⟩
      · exact ⟨_,_,rfl,q3,o,rfl,by omega⟩
    · exact ⟨_,_,rfl,q2,o,rfl,by omega⟩
  · exact ⟨_,_,rfl,q1,o,rfl,by omega⟩
theorem Znp {k k' p:Nat} {s:List UInt8} {o:Bool} {R48:Zi→Option (Option (Ze×Zi))} {R51:Zf→Option (Ze×Zf)} (hk:5000≤k) (hk':5000≤k') (hs:s.length≤400) (hp:p≤s.length)
    (hA:∀q o,p<q→q≤s.length→LSr s q 0 (R48 (rd s q o)) (R51 (rx s q false o))):LSr s p 1 (F98 R48 k (rd s p o)) (F101 R51 k' (rx s p false o)):=by
  have e0:F101 R51 k' (rx s p false o)=(F119 R51 k' (rx s p false o)).bind fun y=>Zia k' y:=rfl
  rw [e0]
  unfold F98
  rcases Zod hk hk' hs hp hA with ⟨e1,x,r,e2,hr⟩ | ⟨a,p1,o1,e1,e2,h1,h2,h3⟩
  · rw [e1,e2]
    exact .inl ⟨rfl,ZmI (by omega) (by omega) hr⟩
  rw [e1,e2]
  simp only [orP,Option.bind_some]
  unfold Zia ZeF
  simp only
  rcases Zan (k:=k) (k':=k') (o:=o1) (o':=o1) 42 (by omega) h2 with ⟨_,f1,f2,f3⟩ | ⟨_,f1,f2⟩
  · have f2':F74 k' (rx s p1 false o1) 42=_:=f2
    rw [f1,f2',Option.bind_some,Option.bind_some]
    exact .inr ⟨_,p1+1,o1,rfl,rfl,by omega,f3,by rw [ZhZ];omega⟩
  have f2':F74 k' (rx s p1 false o1) 42=_:=f2
  rw [f1,f2',Option.bind_some,Option.bind_some]
  simp only [cond_false]
  clear f1 f2 f2'
  rcases Zan (k:=k) (k':=k') (o:=o1) (o':=o1) 43 (by omega) h2 with ⟨_,f1,f2,f3⟩ | ⟨_,f1,f2⟩
  · have f2':F74 k' (rx s p1 false o1) 43=_:=f2
    rw [f1,f2',Option.bind_some,Option.bind_some]
    exact .inr ⟨_,p1+1,o1,rfl,rfl,by omega,f3,by rw [ZhZ];omega⟩
  have f2':F74 k' (rx s p1 false o1) 43=_:=f2
  rw [f1,f2',Option.bind_some,Option.bind_some]
  simp only [cond_false]
  clear f1 f2 f2'
  rcases Zan (k:=k) (k':=k') (o:=o1) (o':=o1) 63 (by omega) h2 with ⟨_,f1,f2,f3⟩ | ⟨_,f1,f2⟩
  · have f2':F74 k' (rx s p1 false o1) 63=_:=f2
    rw [f1,f2',Option.bind_some,Option.bind_some]
    exact .inr ⟨_,p1+1,o1,rfl,rfl,by omega,f3,by rw [ZhZ];omega⟩
  have f2':F74 k' (rx s p1 false o1) 63=_:=f2
  rw [f1,f2',Option.bind_some,Option.bind_some]
  simp only [cond_false]
  clear f1 f2 f2'
  rcases Zan (k:=k) (k':=k') (o:=o1) (o':=o1) 123 (by omega) h2 with ⟨_,f1,f2,f3⟩ | ⟨_,f1,f2⟩
  · have f2':F74 k' (rx s p1 false o1) 123=_:=f2
    rw [f1,f2',Option.bind_some,Option.bind_some]
    simp only [cond_true]
    rcases Zny (k:=k) (k':=k') (o:=o1) (a:=a) (by omega) (by omega) (by omega:s.length≤1000000) f3 with ⟨e3,x,r,e4,hr⟩ | ⟨n,m,p2,o2,e3,e4,h4,h5⟩
    · rw [e3,e4]
      exact .inl ⟨rfl,_,_,rfl,hr⟩
    · rw [e3,e4]
      exact .inr ⟨_,p2,o2,rfl,rfl,by omega,h5,by rw [ZhZ];omega⟩
  have f2':F74 k' (rx s p1 false o1) 123=_:=f2
  rw [f1,f2',Option.bind_some,Option.bind_some]
  exact .inr ⟨a,p1,o1,rfl,rfl,h1,h2,h3⟩
theorem Zlv {p:Nat} {s:List UInt8} {b o:Bool} {acc:List Ze}:∃x,(cond ((acc.length:Int) == 1) (if (0:Int)≤0∧0<(acc.length:Int) then (idxL acc 0).bind fun y136=>(some (y136,rx s p b o)) else none) ((some ((⟨2,([]:List Zb),acc,0,0⟩:Ze),rx s p b o))))=some (x,rx s p b o)∧
    (cond ((acc.length:Int) == 1) (if (0:Int)≤0∧0<(acc.length:Int) then (idxL acc 0).bind fun y133=>(some (some (y133,rd s p o))) else none) ((some (some ((⟨2,([]:List Zb),acc,0,0⟩:Ze),rd s p o)))))=some (some (x,rd s p o))∧((∃y,acc=[y]∧x=y)∨(acc.length≠1∧x=⟨2,[],acc,0,0⟩)):=by
  by_cases h:acc.length=1
  · obtain ⟨y,rfl⟩:=List.length_eq_one_iff.1 h
    exact ⟨y,rfl,rfl,.inl ⟨y,rfl,rfl⟩⟩
  · rw [ZG (by omega),cond_false,cond_false]
    exact ⟨_,rfl,rfl,.inr ⟨h,rfl⟩⟩
theorem Zlu {k m:Nat} {s:List UInt8} {r:Zf} {R51:Zf→Option (Ze×Zf)} {acc:List Ze} (hr:BadR s r):∃x,ZbQ R51 k (m+1) r acc=some (x,r):=by
  obtain ⟨q,o,rfl,hq⟩:=hr
  show ∃x,ZcM R51 k (ZbQ R51 k m) (rx s q true o) acc=_
  unfold ZcM Zcb
  rw [show (!(rx s q true o).f_Bad)=false from rfl,cond_false,cond_false]
  obtain ⟨x,e,_⟩:=Zlv (p:=q) (s:=s) (b:=true) (o:=o) (acc:=acc)
  exact ⟨x,e⟩
def Inv (acc:List Ze) (n:Nat):Prop:=acc.length≤n+1∧((∃x,acc=[x]∧fs x≤20*n+100)∨(2≤acc.length∧fsL acc≤20*n+80))
theorem Inv.add {acc:List Ze} {x:Ze} {n d:Nat} (h:Inv acc n) (hd:1≤d) (hx:fs x≤20*(n+d)+80):Inv (acc ++ [x]) (n+d):=by
  obtain ⟨h1,h2⟩:=h
  refine ⟨by simp;omega,.inr ?_⟩
  rcases h2 with ⟨y,rfl,hy⟩ | ⟨h2,h3⟩
  · exact ⟨by simp,by rw [Zlh];simp only [fsL];omega⟩
  · exact ⟨by simp;omega,by rw [Zlh];omega⟩
theorem ZkU {k k' p0:Nat} {s:List UInt8} {R48:Zi→Option (Option (Ze×Zi))} {R51:Zf→Option (Ze×Zf)} (hk:5000≤k) (hk':5000≤k') (hs:s.length≤400)
    (hA:∀q o,p0<q→q≤s.length→LSr s q 0 (R48 (rd s q o)) (R51 (rx s q false o))):∀(d p m m':Nat) (o:Bool) (acc:List Ze),s.length-p≤d→p0≤p→p≤s.length→d<m→d+1<m'→acc.length≤p-p0→(acc=[]∨Inv acc (p-p0))→
    LSr s p0 0 (ZcL R48 k m (rd s p o) acc) (ZbQ R51 k' m' (rx s p false o) acc):=by
  have fin:∀(p:Nat) (o:Bool) (acc:List Ze) (m m':Nat),p0≤p→p≤s.length→acc.length≤p-p0→(acc=[]∨Inv acc (p-p0))→LSr s p0 0 (ZdE R48 k (ZcL R48 k m) (rd s p o) acc false) (Zcb R51 k' (ZbQ R51 k' m') (rx s p false o) acc false):=fun p o acc m m' h1 h2 hal hi=>by
    unfold ZdE Zcb
    rw [cond_false,cond_false]
    obtain ⟨x,e1,e2,h3⟩:=Zlv (p:=p) (s:=s) (b:=false) (o:=o) (acc:=acc)
    refine .inr ⟨x,p,o,e2,e1,by omega,h2,?_⟩
    rcases h3 with ⟨y,rfl,rfl⟩ | ⟨h3,rfl⟩
    · rcases hi with hi | ⟨_,⟨z,hz,hf⟩ | ⟨h4,_⟩⟩
      · cases hi
      · cases hz;omega
      · simp at h4
    · rw [Zg6]
      rcases hi with rfl | ⟨h5,⟨z,rfl,hf⟩ | ⟨h4,h6⟩⟩
      · simp only [fsL,List.length_nil];omega
      · simp at h3
      · omega
  intro d
  induction d with
  | zero=>
    intro p m m' o acc hd h0 hp hm hm' hal hi
    obtain ⟨m,rfl⟩:∃q,m=q+1:=⟨m-1,by omega⟩
    obtain ⟨m',rfl⟩:∃q,m'=q+1:=⟨m'-1,by omega⟩
    obtain rfl:p=s.length:=by omega
    show LSr s p0 0 (ZeC R48 k (ZcL R48 k m) (rd s s.length o) acc) (ZcM R51 k' (ZbQ R51 k' m') (rx s s.length false o) acc)
    unfold ZeC ZcM
    rw [show decide ((rd s s.length o).f_at<((rd s s.length o).f_s.length:Int))=false from df (by show ¬((s.length:Int)<s.length);omega),cond_false,
      show (!(rx s s.length false o).f_Bad)=true from rfl,cond_true,show decide ((rx s s.length false o).f_I<((rx s s.length false o).f_S.length:Int))=false from df (by show ¬((s.length:Int)<s.length);omega),cond_false]
    exact fin _ _ _ _ _ h0 hp hal hi
  | succ d ih=>
    intro p m m' o acc hd h0 hp hm hm' hal hi
    obtain ⟨m,rfl⟩:∃q,m=q+1:=⟨m-1,by omega⟩
    obtain ⟨m',rfl⟩:∃q,m'=q+1:=⟨m'-1,by omega⟩
    show LSr s p0 0 (ZeC R48 k (ZcL R48 k m) (rd s p o) acc) (ZcM R51 k' (ZbQ R51 k' m') (rx s p false o) acc)
    unfold ZeC ZcM
    rw [show (!(rx s p false o).f_Bad)=true from rfl,cond_true]
    by_cases hl:p<s.length
    · obtain ⟨b,hb⟩:∃b,s[p]?=some b:=⟨_,List.getElem?_eq_getElem hl⟩
      rw [show decide ((rd s p o).f_at<((rd s p o).f_s.length:Int))=true from dt (by show (p:Int)<s.length;omega),cond_true,
        show decide ((rx s p false o).f_I<((rx s p false o).f_S.length:Int))=true from dt (by show (p:Int)<s.length;omega),cond_true,is1 hp,Option.bind_some,ZaM,Option.bind_some,ZaZ hb]
      by_cases b1:b=124
      · subst b1
        rw [dt hb,show (((124:UInt8).toNat:Int) != 124)=false from rfl,Bool.not_true,cond_false,cond_false]
        exact fin _ _ _ _ _ h0 hp hal hi
      · have n1:b.toNat≠124:=fun c=>b1 (UInt8.toNat_inj.1 c)
        rw [df (show ¬s[p]?=some 124 from fun c=>b1 (by rw [hb] at c;exact Option.some.inj c)),show ((b.toNat:Int) != 124)=true by simp;omega,Bool.not_false,cond_true,cond_true,is1 hp,Option.bind_some,Option.bind_some]
        by_cases b2:b=41
        · subst b2
          rw [dt hb,show (((41:UInt8).toNat:Int) != 41)=false from rfl,Bool.not_true]
          exact fin _ _ _ _ _ h0 hp hal hi
        · have n2:b.toNat≠41:=fun c=>b2 (UInt8.toNat_inj.1 c)
          rw [df (show ¬s[p]?=some 41 from fun c=>b2 (by rw [hb] at c;exact Option.some.inj c)),show ((b.toNat:Int) != 41)=true by simp;omega,Bool.not_false]
          unfold ZdE Zcb
          rw [cond_true,cond_true]
          rcases Znp (o:=o) hk hk' hs hp (fun q o' h1 h2=>hA q o' (by omega) h2) with ⟨e1,x,r,e2,hr⟩ | ⟨a,p1,o1,e1,e2,h1,h2,h3⟩
          · rw [e1,e2]
            simp only [orP,Option.bind_some]
            obtain ⟨m',rfl⟩:∃q,m'=q+1:=⟨m'-1,by omega⟩
            rw [if_pos (by simp;omega)]
            obtain ⟨y,e3⟩:=Zlu (k:=k') (m:=m') (R51:=R51) (acc:=acc ++ [x]) hr
            exact .inl ⟨rfl,y,r,e3,hr⟩
          · rw [e1,e2]
            simp only [orP,Option.bind_some]
            rw [if_pos (by simp;omega),if_pos (by simp;omega)]
            refine ih p1 m m' o1 (acc ++ [a]) (by omega) (by omega) h2 (by omega) (by omega) (by simp;omega) (.inr ?_)
            rcases hi with rfl | hi
            · exact ⟨by simp,.inl ⟨a,rfl,by omega⟩⟩
            · have e:p1-p0=(p-p0)+(p1-p):=by omega
              have hpos:1≤p-p0:=by
                rcases hi.2 with ⟨x,rfl,_⟩ | ⟨h4,_⟩
                · simp at hal;omega
                · omega
              rw [e]
              exact hi.add (by omega) (by omega)
    · obtain rfl:p=s.length:=by omega
      rw [show decide ((rd s s.length o).f_at<((rd s s.length o).f_s.length:Int))=false from df (by show ¬((s.length:Int)<s.length);omega),cond_false,
        show decide ((rx s s.length false o).f_I<((rx s s.length false o).f_S.length:Int))=false from df (by show ¬((s.length:Int)<s.length);omega),cond_false]
      exact fin _ _ _ _ _ h0 hp hal hi
theorem ZkG {k k' p:Nat} {s:List UInt8} {o:Bool} {R48:Zi→Option (Option (Ze×Zi))} {R51:Zf→Option (Ze×Zf)} (hk:5000≤k) (hk':5000≤k') (hs:s.length≤400) (hp:p≤s.length)
    (hA:∀q o,p<q→q≤s.length→LSr s q 0 (R48 (rd s q o)) (R51 (rx s q false o))):LSr s p 0 (F70 R48 k (rd s p o)) (F73 R51 k' (rx s p false o)):=
  ZkU hk hk' hs hA (s.length-p) p k k' o [] (Nat.le_refl _) (Nat.le_refl _) hp (by omega) (by omega) (Nat.zero_le _) (.inl rfl)
theorem Zgz {p:Nat} {s:List UInt8} {b o:Bool} {acc:List Ze}:∃x,(cond ((acc.length:Int) == 1) (if (0:Int)≤0∧0<(acc.length:Int) then (idxL acc 0).bind fun y136=>(some (y136,rx s p b o)) else none) ((some ((⟨3,([]:List Zb),acc,0,0⟩:Ze),rx s p b o))))=some (x,rx s p b o)∧
    (cond ((acc.length:Int) == 1) (if (0:Int)≤0∧0<(acc.length:Int) then (idxL acc 0).bind fun y133=>(some (some (y133,rd s p o))) else none) ((some (some ((⟨3,([]:List Zb),acc,0,0⟩:Ze),rd s p o)))))=some (some (x,rd s p o))∧((∃y,acc=[y]∧x=y)∨(acc.length≠1∧x=⟨3,[],acc,0,0⟩)):=by
  by_cases h:acc.length=1
  · obtain ⟨y,rfl⟩:=List.length_eq_one_iff.1 h
    exact ⟨y,rfl,rfl,.inl ⟨y,rfl,rfl⟩⟩
  · rw [ZG (by omega),cond_false,cond_false]
    exact ⟨_,rfl,rfl,.inr ⟨h,rfl⟩⟩
theorem ZiC {k:Nat} {s:List UInt8} {R51:Zf→Option (Ze×Zf)} (hk:1≤k) (hs:s.length≤400):∀(d q m:Nat) (o:Bool) (acc:List Ze),s.length+1-q≤d→d<m→q≤s.length+1→acc.length+d≤100000→∃x r,ZbP R51 k m (rx s q true o) acc=some (x,r)∧BadR s r:=by
  intro d
  induction d with
  | zero=>
    intro q m o acc hd hm hq ha
    obtain ⟨m,rfl⟩:∃z,m=z+1:=⟨m-1,by omega⟩
    show ∃x r,ZbO R51 k (ZbP R51 k m) (rx s q true o) acc=_∧_
    unfold ZbO
    rw [ZaG (fun x hx=>by rw [List.getElem?_eq_none (by omega)] at hx;cases hx),Option.bind_some]
    simp only [cond_false]
    obtain ⟨x,e,_⟩:=Zgz (p:=q) (s:=s) (b:=true) (o:=o) (acc:=acc)
    exact ⟨x,_,e,q,o,rfl,hq⟩
  | succ d ih=>
    intro q m o acc hd hm hq ha
    obtain ⟨m,rfl⟩:∃z,m=z+1:=⟨m-1,by omega⟩
    obtain ⟨k,rfl⟩:∃z,k=z+1:=⟨k-1,by omega⟩
    show ∃x r,ZbO R51 (k+1) (ZbP R51 (k+1) m) (rx s q true o) acc=_∧_
    unfold ZbO
    obtain ⟨t,q2,e1,h1⟩:=Za0 (k+1) (q:=q) (b:=true) (o:=o) 124 (by omega:s.length≤1000000)
    rw [e1,Option.bind_some]
    cases t
    · simp only [cond_false]
      obtain ⟨x,e,_⟩:=Zgz (p:=q2) (s:=s) (b:=true) (o:=o) (acc:=acc)
      exact ⟨x,_,e,q2,o,rfl,by omega⟩
    · simp only [cond_true]
      obtain ⟨y,e2⟩:=Zlu (k:=k+1) (m:=k) (s:=s) (R51:=R51) (acc:=[]) ⟨q2,o,rfl,by omega⟩
      have e3:F73 R51 (k+1) (rx s q2 true o)=some (y,rx s q2 true o):=e2
      rw [e3,Option.bind_some,if_pos (by simp;omega)]
      have h2:q2=q+1∧q<s.length:=h1.elim (fun h=>h.2) (fun h=>by cases h.1)
      exact ih q2 m o _ (by omega) (by omega) (by omega) (by simp;omega)
theorem ZgK {k k' p0:Nat} {s:List UInt8} {R48:Zi→Option (Option (Ze×Zi))} {R51:Zf→Option (Ze×Zf)} (hk:5000≤k) (hk':5000≤k') (hs:s.length≤400)
    (hA:∀q o,p0<q→q≤s.length→LSr s q 0 (R48 (rd s q o)) (R51 (rx s q false o))):∀(d p m m':Nat) (o:Bool) (acc:List Ze),s.length-p≤d→p0≤p→p≤s.length→d<m→d+1000<m'→Inv acc (p-p0)→
    LSr s p0 0 (ZdD R48 k m (rd s p o) acc) (ZbP R51 k' m' (rx s p false o) acc):=by
  intro d
  induction d with
  | zero=>
    intro p m m' o acc hd h0 hp hm hm' hi
    obtain ⟨m,rfl⟩:∃q,m=q+1:=⟨m-1,by omega⟩
    obtain ⟨m',rfl⟩:∃q,m'=q+1:=⟨m'-1,by omega⟩
    obtain rfl:p=s.length:=by omega
    show LSr s p0 0 (Zey R48 k (ZdD R48 k m) (rd s s.length o) acc) (ZbO R51 k' (ZbP R51 k' m') (rx s s.length false o) acc)
    unfold Zey ZbO
    have hn:s[s.length]?≠some 124:=by rw [List.getElem?_eq_none (Nat.le_refl _)];simp
    rw [ZcB hp hn,Option.bind_some,ZaG (c:=124) (ZfC hn),Option.bind_some]
    simp only [cond_false]
    obtain ⟨x,e1,e2,h3⟩:=Zgz (p:=s.length) (s:=s) (b:=false) (o:=o) (acc:=acc)
    refine .inr ⟨x,s.length,o,e2,e1,by omega,hp,?_⟩
    obtain ⟨h5,h6⟩:=hi
    rcases h3 with ⟨y,rfl,rfl⟩ | ⟨h3,rfl⟩
    · rcases h6 with ⟨z,hz,hf⟩ | ⟨h4,_⟩
      · cases hz;omega
      · simp at h4
    · rw [Zg6]
      rcases h6 with ⟨z,rfl,hf⟩ | ⟨h4,h6⟩
      · simp at h3
      · omega
  | succ d ih=>
    intro p m m' o acc hd h0 hp hm hm' hi
    obtain ⟨m,rfl⟩:∃q,m=q+1:=⟨m-1,by omega⟩
    obtain ⟨m',rfl⟩:∃q,m'=q+1:=⟨m'-1,by omega⟩
    show LSr s p0 0 (Zey R48 k (ZdD R48 k m) (rd s p o) acc) (ZbO R51 k' (ZbP R51 k' m') (rx s p false o) acc)
    unfold Zey ZbO
    have hal:=hi.1
    rcases Zan (k:=k) (k':=k') (o:=o) (o':=o) 124 (by omega) hp with ⟨_,f1,f2,f3⟩ | ⟨_,f1,f2⟩
    · have f2':F74 k' (rx s p false o) 124=_:=f2
      rw [f1,f2',Option.bind_some,Option.bind_some]
      simp only [cond_true]
      rcases ZkG (o:=o) hk hk' hs f3 (fun q o' h1 h2=>hA q o' (by omega) h2) with ⟨e1,x,r,e2,hr⟩ | ⟨a,p1,o1,e1,e2,h1,h2,h3⟩
      · rw [e1,e2,Option.bind_some,if_pos (by simp;omega)]
        obtain ⟨q,o2,rfl,hq⟩:=hr
        exact .inl ⟨rfl,ZiC (by omega) hs (s.length+1-q) q m' o2 _ (Nat.le_refl _) (by omega) hq (by simp;omega)⟩
      · rw [e1,e2]
        simp only [orP,Option.bind_some]
        rw [if_pos (by simp;omega),if_pos (by simp;omega)]
        refine ih p1 m m' o1 (acc ++ [a]) (by omega) (by omega) h2 (by omega) (by omega) ?_
        have e:p1-p0=(p-p0)+(p1-p):=by omega
        rw [e]
        exact hi.add (by omega) (by omega)
    · have f2':F74 k' (rx s p false o) 124=_:=f2
      rw [f1,f2',Option.bind_some,Option.bind_some]
      simp only [cond_false]
      obtain ⟨x,e1,e2,h3⟩:=Zgz (p:=p) (s:=s) (b:=false) (o:=o) (acc:=acc)
      refine .inr ⟨x,p,o,e2,e1,by omega,hp,?_⟩
      obtain ⟨h5,h6⟩:=hi
      rcases h3 with ⟨y,rfl,rfl⟩ | ⟨h3,rfl⟩
      · rcases h6 with ⟨z,hz,hf⟩ | ⟨h4,_⟩
        · cases hz;omega
        · simp at h4
      · rw [Zg6]
        rcases h6 with ⟨z,rfl,hf⟩ | ⟨h4,h6⟩
        · simp at h3
        · omega
theorem Zob {s:List UInt8} (hs:s.length≤400):∀(d k k' p:Nat) (o:Bool),s.length-p≤d→p≤s.length→5001+d≤k→5001+d≤k'→LSr s p 0 (F48 k (rd s p o)) (F51 k' (rx s p false o)):=by
  intro d
  induction d with
  | zero=>
    intro k k' p o hd hp hk hk'
    obtain ⟨k,rfl⟩:∃q,k=q+1:=⟨k-1,by omega⟩
    obtain ⟨k',rfl⟩:∃q,k'=q+1:=⟨k'-1,by omega⟩
    have hA:∀q o,p<q→q≤s.length→LSr s q 0 (F48 k (rd s q o)) (F51 k' (rx s q false o)):=fun q o h1 h2=>by omega
    show LSr s p 0 (Zgu (F48 k) k (rd s p o)) (Zgv (F51 k') k' (rx s p false o))
    unfold Zgu Zgv
    rcases ZkG (k:=k) (k':=k') (o:=o) (by omega) (by omega) hs hp hA with ⟨e1,x,r,e2,hr⟩ | ⟨a,p1,o1,e1,e2,h1,h2,h3⟩
    · rw [e1,e2]
      obtain ⟨q,o2,rfl,hq⟩:=hr
      exact .inl ⟨rfl,ZiC (by omega) hs (s.length+1-q) q k' o2 _ (Nat.le_refl _) (by omega) hq (by simp;omega)⟩
    · rw [e1,e2]
      exact ZgK (by omega) (by omega) hs hA (s.length-p1) p1 k k' o1 [a] (Nat.le_refl _) (by omega) h2 (by omega) (by omega) ⟨by simp,.inl ⟨a,rfl,by omega⟩⟩
  | succ d ih=>
    intro k k' p o hd hp hk hk'
    obtain ⟨k,rfl⟩:∃q,k=q+1:=⟨k-1,by omega⟩
    obtain ⟨k',rfl⟩:∃q,k'=q+1:=⟨k'-1,by omega⟩
    have hA:∀q o,p<q→q≤s.length→LSr s q 0 (F48 k (rd s q o)) (F51 k' (rx s q false o)):=fun q o h1 h2=>ih k k' q o (by omega) h2 (by omega) (by omega)
    show LSr s p 0 (Zgu (F48 k) k (rd s p o)) (Zgv (F51 k') k' (rx s p false o))
    unfold Zgu Zgv
    rcases ZkG (k:=k) (k':=k') (o:=o) (by omega) (by omega) hs hp hA with ⟨e1,x,r,e2,hr⟩ | ⟨a,p1,o1,e1,e2,h1,h2,h3⟩
    · rw [e1,e2]
      obtain ⟨q,o2,rfl,hq⟩:=hr
      exact .inl ⟨rfl,ZiC (by omega) hs (s.length+1-q) q k' o2 _ (Nat.le_refl _) (by omega) hq (by simp;omega)⟩
    · rw [e1,e2]
      exact ZgK (by omega) (by omega) hs hA (s.length-p1) p1 k k' o1 [a] (Nat.le_refl _) (by omega) h2 (by omega) (by omega) ⟨by simp,.inl ⟨a,rfl,by omega⟩⟩
theorem ZhU {R:Ze→Option Int} {v:Ze} (hl:v.f_L.length≤1048576) (hd1:∀x∈v.f_L,R x=some (dp x:Int)) (hb:dpL v.f_L≤1048576):∀(l:List Ze) (c i m:Nat),v.f_L.drop i=l→l.length<m→i≤v.f_L.length→c≤1048576→ZcJ R v m (c:Int) (i:Int)=some ((max c (dpL l)+1:Nat):Int)
  | [],c,i,m,hd,hm,hi,hc=>by
    obtain ⟨m,rfl⟩:∃q,m=q+1:=⟨m-1,by simp at hm;omega⟩
    have:=Z5 hd
    show Zez _ _ _ _ _=_
    unfold Zez
    rw [df (by omega),cond_false,Z2 (by omega)]
    simp [dpL]
  | x :: l,c,i,m,hd,hm,hi,hc=>by
    obtain ⟨m,rfl⟩:∃q,m=q+1:=⟨m-1,by omega⟩
    obtain ⟨g1,g2,g3⟩:=Z0 hd
    rw [List.length_cons] at hm
    have hx:=List.mem_of_getElem? g2
    have hxb:=ZhV.1 hb x hx
    show Zez R (ZcJ R v m) v (c:Int) (i:Int)=_
    unfold Zez
    have em:mx (c:Int) (dp x:Int)=((max c (dp x):Nat):Int):=by unfold mx;split <;> omega
    rw [dt (by omega),cond_true,Zy,g2,Option.bind_some,hd1 x hx,Option.bind_some,Z2 (by omega),em,ZhU hl hd1 hb l _ (i+1) m g3 (by omega) (by omega) (by omega)]
    simp only [dpL]
    rw [Nat.max_assoc]
theorem Zpd:∀r:Ze,dp r≤fs r:=by
  intro r
  have h:∀n (r:Ze),fs r≤n→dp r≤fs r:=by
    intro n
    induction n with
    | zero=>intro ⟨k,st,l,a,b⟩ h;simp only [fs] at h;omega
    | succ n ih=>
      intro ⟨k,st,l,a,b⟩ h
      simp only [fs,dp] at h ⊢
      have:dpL l≤fsL l:=ZhV.2 fun x hx=>by
        have:=Zdr hx
        have:=ih x (by omega)
        omega
      omega
  exact h (fs r) r (Nat.le_refl _)
theorem Zj9:∀(k:Nat) (r:Ze),k≤1048576→fs r≤k→F50 k r=some (dp r:Int)
  | 0,⟨kd,st,l,a,b⟩,_,hf=>by simp only [fs] at hf;omega
  | k+1,⟨kd,st,l,a,b⟩,hk,hf=>by
    have hdp:=Zpd ⟨kd,st,l,a,b⟩
    simp only [fs] at hf
    simp only [fs,dp] at hdp
    have e:=ZhU (R:=F50 k) (v:=⟨kd,st,l,a,b⟩) (by show l.length≤_;omega) (fun x hx=>Zj9 k x (by omega) (by have:=Zdr (show x∈l from hx);omega)) (by show dpL l≤_;omega) l 0 0 k rfl (by omega) (Nat.zero_le _) (by omega)
    show ZcJ (F50 k) ⟨kd,st,l,a,b⟩ k 0 0=_
    have e':ZcJ (F50 k) ⟨kd,st,l,a,b⟩ k 0 0=_:=e
    rw [e']
    simp only [dp]
    congr 2
    omega
theorem ZhT {R:Ze→Int→Option Int} {n c:Nat} {v:Ze} (hl:v.f_L.length≤1048576) (hn:n≤16) (hc:c≤16) (hR:∀x∈v.f_L,∃t,R x ((n+1:Nat):Int)=some t∧(t≤c↔n+1+dp x≤c+1)) :
    ∀(l:List Ze) (z:Int) (i m:Nat),v.f_L.drop i=l→l.length<m→i≤v.f_L.length→∃t,Zew R v (n:Int) m z (i:Int)=some t∧(t≤c↔z≤c∧∀x∈l,n+1+dp x≤c+1)
  | [],z,i,m,hd,hm,hi=>by
    obtain ⟨m,rfl⟩:∃q,m=q+1:=⟨m-1,by simp at hm;omega⟩
    have:=Z5 hd
    refine ⟨z,?_,by simp⟩
    show Zev _ _ _ _ _ _=_
    unfold Zev
    rw [df (by omega),cond_false]
  | x :: l,z,i,m,hd,hm,hi=>by
    obtain ⟨m,rfl⟩:∃q,m=q+1:=⟨m-1,by omega⟩
    obtain ⟨g1,g2,g3⟩:=Z0 hd
    rw [List.length_cons] at hm
    obtain ⟨t1,e1,p1⟩:=hR x (List.mem_of_getElem? g2)
    obtain ⟨t2,e2,p2⟩:=ZhT hl hn hc hR l (mx z t1) (i+1) m g3 (by omega) (by omega)
    refine ⟨t2,?_,by rw [p2,ZgE,List.forall_mem_cons,p1,and_assoc]⟩
    show Zev R (Zew R v (n:Int) m) v (n:Int) z (i:Int)=_
    unfold Zev
    rw [dt (by omega),cond_true,Zy,g2,Option.bind_some,Z2 (by omega),e1,Option.bind_some,Z2 (by omega),e2]
theorem Zj8 {c:Nat} (hc:c≤16):∀(k:Nat) (r:Ze) (n:Nat),k≤1048576→fs r≤k→n≤17→∃t,F42 k r (n:Int)=some t∧(t≤c↔n+dp r≤c+1)
  | 0,⟨kd,st,l,a,b⟩,n,_,hf,_=>by simp only [fs] at hf;omega
  | k+1,⟨kd,st,l,a,b⟩,n,hk,hf,hn=>by
    simp only [fs] at hf
    show ∃t,ZjB (F42 k) k ⟨kd,st,l,a,b⟩ (n:Int)=_∧_
    unfold ZjB
    by_cases h17:n=17
    · subst h17
      exact ⟨17,rfl,by have:=ZoX ⟨kd,st,l,a,b⟩;omega⟩
    · rw [df (by omega),cond_false]
      obtain ⟨t,e,p⟩:=ZhT (R:=F42 k) (n:=n) (c:=c) (v:=⟨kd,st,l,a,b⟩) (by show l.length≤_;omega) (by omega) hc (fun x hx=>Zj8 hc k x (n+1) (by omega) (by have:=Zdr (show x∈l from hx);omega) (by omega)) l (n:Int) 0 k rfl (by omega) (Nat.zero_le _)
      refine ⟨t,e,p.trans ?_⟩
      simp only [dp]
      constructor
      · rintro ⟨h1,h⟩
        have:dpL l≤c-n:=ZhV.2 fun x hx=>by have:=h x hx;omega
        omega
      · intro h
        exact ⟨by omega,fun x hx=>by have:=ZhV.1 (Nat.le_refl (dpL l)) x hx;omega⟩
theorem ZlL {k:Nat} {s:List UInt8} (hk:10000≤k) (hk2:k≤1048576):∃(a:Ze) (e:Int),F27 k s=some (a,e)∧F28 k s=some (a,e)∧fs a≤20*s.length+100:=by
  have hz:fs zRe≤20*s.length+100:=by
    have:fs zRe=41:=rfl
    omega
  unfold F27 F28
  by_cases h4:(s.length:Int) > 400
  · rw [dt h4,cond_true,cond_true]
    exact ⟨zRe,8,rfl,rfl,hz⟩
  rw [df h4,cond_false,cond_false,ZoD (by omega) (by omega) (by omega),Option.bind_some]
  unfold Zjz
  have hv49:F49 k s=some (validD s):=by unfold F49 F72;rw [if_pos (by omega)];rfl
  have h:=Zob (s:=s) (by omega) s.length k k 0 false (by omega) (Nat.zero_le _) (by omega) (by omega)
  have e48:F48 k ⟨s,0,false⟩=F48 k (rd s 0 false):=rfl
  have e51:F51 k ⟨s,0,false,false⟩=F51 k (rx s 0 false false):=rfl
  rw [e48,e51]
  cases hv:validD s
  · rw [Bool.not_false,cond_true]
    rcases h with ⟨e1,_⟩ | ⟨a,p,o,e1,_,_,hp,_⟩
    · rw [e1]
      exact ⟨zRe,3,rfl,rfl,hz⟩
    · rw [e1,Option.bind_some]
      simp only
      unfold Zhp
      rw [hv49,hv]
      refine ⟨zRe,3,?_,rfl,hz⟩
      cases decide ((rd s p o).f_at<(s.length:Int)) <;> rfl
  · rw [Bool.not_true,cond_false]
    unfold Zhq Zfv
    rcases h with ⟨e1,x,r,e2,q,o,rfl,hq⟩ | ⟨a,p,o,e1,e2,_,hp,hf⟩
    · rw [e1,e2]
      exact ⟨zRe,3,rfl,rfl,hz⟩
    · rw [e1,e2,Option.bind_some,Option.bind_some]
      simp only
      rw [show (rx s p false o).f_Bad=false from rfl,cond_false]
      unfold Zhp Zjy
      by_cases hl:p=s.length
      · subst hl
        rw [show decide ((rd s s.length o).f_at<(s.length:Int))=false from df (by show ¬((s.length:Int)<s.length);omega),cond_false,hv49,Option.bind_some,hv,cond_true,
          show ((rx s s.length false o).f_I != (s.length:Int))=false by show ((s.length:Int) != s.length)=false;simp,cond_false,show (rd s s.length o).f_over=o from rfl,show (rx s s.length false o).f_Long=o from rfl]
        have hfa:fs a≤k:=by omega
        obtain ⟨t,e4,ht⟩:=Zj8 (c:=14) (by omega) k a 1 hk2 hfa (by omega)
        have e4':F42 k a 1=some t:=e4
        rw [Zlx k a hk2 hfa,ZkE k a hk2 hfa,Zj9 k a hk2 hfa,e4']
        simp only [Option.bind_some]
        cases o
        · rw [cond_false,cond_false]
          by_cases h2:sz a > 200
          · rw [dt h2,cond_true,cond_true,cond_true]
            exact ⟨zRe,8,rfl,rfl,hz⟩
          · rw [df h2,cond_false,cond_false]
            have hiff:decide ((dp a:Int) > 14)=decide (t > 14):=decide_eq_decide.2 (by omega)
            rw [hiff]
            cases decide (t > 14)
            · exact ⟨a,0,rfl,rfl,by omega⟩
            · exact ⟨zRe,8,rfl,rfl,hz⟩
        · exact ⟨zRe,8,rfl,rfl,hz⟩
      · rw [show decide ((rd s p o).f_at<(s.length:Int))=true from dt (by show (p:Int)<s.length;omega),cond_true,
          show ((rx s p false o).f_I != (s.length:Int))=true by show ((p:Int) != s.length)=true;simp;omega,cond_true]
        exact ⟨zRe,3,rfl,rfl,hz⟩
end Go.Proofs.YthilboheomikjaaGreatDoor
end
section
namespace Go.Proofs.YthilboheomikjaaGreatDoor
open Go.AL
set_option maxRecDepth 100000
def ZhF (v109:Bool):Option Bool:=
  some v109
def F6 (k:Nat) (v0:List UInt8):Option Bool:=
  ((cond (decide ((v0.length:Int) > 450)) ((F26 k).bind fun y102=>(some y102)) ((F27 k v0).bind fun y103=>(F28 k v0).bind fun y104=>(F26 k).bind fun y105=>cond y105 (cond (y103.2 == y104.2) ((F29 k y103.1 y104.1).bind fun y108=>(ZhF y108)) ((ZhF false))) ((ZhF false)))))
theorem Zpa (k:Nat) (v0:List UInt8) (r:Bool) (hF:F6 k v0=some r):Sim Tryz.prog GL0 6 [one (.str v0)] [] (one (.bool r)) []:=by
 refine ZB [] Tryz.func6 rfl kr kr ?_
 show WA _ _ 32 _ _ _
 refine WA.seq ?_
 refine WA.reg [0] [] [] (env':=[(0,one (.str v0))]) (os':=[]) (O:=[]) kr (sound _ _) trivial ?_
 refine WA.seq ?_
 refine WA.seq ?_
 refine WA.reg [0,9] [] [] (env':=[(0,one (.str v0)),(9,one (.bool (decide ((v0.length:Int) > 450))))]) (os':=[]) (O:=[]) kr (sound _ _) trivial ?_
 refine WA.cond (b:=(decide ((v0.length:Int) > 450))) rfl (fun hb101=>?_) (fun hb101=>?_)
 {
 have hF:=Zk hF hb101
 refine WA.seq ?_
 obtain ⟨y102,hy102,hF⟩:=bind_some hF
 refine WA.reg [2] [] [(0,.callR [] (one (.bool y102)))] (env':=[(2,one (.bool y102))]) (os':=[]) (O:=[Sim Tryz.prog GL0 26 [] [] (one (.bool y102)) [],([]:List Nat).Nodup]) kr (sound _ _) ⟨(Zhn k _ hy102),(by decide),trivial⟩ ?_
 refine WA.ret ?_
 obtain rfl:=Option.some.inj hF
 exact Zp (one (.bool y102)) [] kr kr kr kr (by decide) rfl rfl }
 {
 have hF:=Zj hF hb101
 refine WA.skip ?_
 refine WA.seq ?_
 obtain ⟨y103,hy103,hF⟩:=bind_some hF
 refine WA.reg [0,3,4] [103] [(1,.callR [] (.tup [(true,pvL (Zd y103.1)),(false,[.pv (.int .i64 y103.2)])])),(5,.obj 103)] (env':=[(0,one (.str v0)),(3,.val false [.ptr 103 1 0 0]),(4,one (.int .i64 y103.2))]) (os':=[(103,.box (pvL (Zd y103.1)))]) (O:=[Sim Tryz.prog GL0 27 [one (.str v0)] [] (.tup [(true,pvL (Zd y103.1)),(false,[.pv (.int .i64 y103.2)])]) [],([]:List Nat).Nodup]) kr (sound _ _) ⟨(Zho k _ _ hy103),(by decide),trivial⟩ ?_
 refine WA.seq ?_
 obtain ⟨y104,hy104,hF⟩:=bind_some hF
 refine WA.reg [3,4,5,6] [103,105] [(1,.callR [] (.tup [(true,pvL (Zd y104.1)),(false,[.pv (.int .i64 y104.2)])])),(5,.obj 105)] (env':=[(3,.val false [.ptr 103 1 0 0]),(4,one (.int .i64 y103.2)),(5,.val false [.ptr 105 1 0 0]),(6,one (.int .i64 y104.2))]) (os':=[(103,.box (pvL (Zd y103.1))),(105,.box (pvL (Zd y104.1)))]) (O:=[Sim Tryz.prog GL0 28 [one (.str v0)] [] (.tup [(true,pvL (Zd y104.1)),(false,[.pv (.int .i64 y104.2)])]) [],([]:List Nat).Nodup]) kr (sound _ _) ⟨(ZoF k _ _ hy104),(by decide),trivial⟩ ?_
 refine WA.join (fun s_=>∃(v109:Bool),Zl s_.env [2]=[(2,one (.bool v109))]∧Zl s_.os []=[]∧ZhF v109=some r) ?_ ?_
 {
 rintro s_ ⟨v109,he,ho,hF⟩
 refine WA.keep _ _ he ho ?_
 clear he ho
 refine WA.ret ?_
 obtain rfl:=Option.some.inj hF
 exact Zp (one (.bool v109)) [] kr kr kr kr (by decide) rfl rfl }
 {
 obtain ⟨y105,hy105,hF⟩:=bind_some hF
 rcases Bool.eq_false_or_eq_true y105 with hb106 | hb106
 {
 have hF:=Zk hF hb106
 rcases Bool.eq_false_or_eq_true (y103.2 == y104.2) with hb107 | hb107
 {
 have hF:=Zk hF hb107
 obtain ⟨y108,hy108,hF⟩:=bind_some hF
 refine WA.reg [2] [] [(0,.callR [] (one (.bool y105))),(1,.bool true),(6,.bool true),(9,.callR [] (one (.bool y108)))] (env':=[(2,one (.bool y108))]) (os':=[]) (O:=[Sim Tryz.prog GL0 26 [] [] (one (.bool y105)) [],([]:List Nat).Nodup,y105=true,(y103.2 == y104.2)=true,Sim Tryz.prog GL0 29 [.val true (pvL (Zd y103.1)),.val true (pvL (Zd y104.1))] [] (one (.bool y108)) [],([]:List Nat).Nodup]) kr (sound _ _) ⟨(Zhn k _ hy105),(by decide),hb106,hb107,(ZlX k _ _ _ hy108),(by decide),trivial⟩ ?_
 exact ⟨y108,kr,kr,hF⟩ }
 {
 have hF:=Zj hF hb107
 refine WA.reg [2] [] [(0,.callR [] (one (.bool y105))),(1,.bool true),(6,.bool false)] (env':=[(2,one (.bool false))]) (os':=[]) (O:=[Sim Tryz.prog GL0 26 [] [] (one (.bool y105)) [],([]:List Nat).Nodup,y105=true,(y103.2 == y104.2)=false]) kr (sound _ _) ⟨(Zhn k _ hy105),(by decide),hb106,hb107,trivial⟩ ?_
 exact ⟨false,kr,kr,hF⟩ } }
 {
 have hF:=Zj hF hb106
 refine WA.reg [2] [] [(0,.callR [] (one (.bool y105))),(1,.bool false)] (env':=[(2,one (.bool false))]) (os':=[]) (O:=[Sim Tryz.prog GL0 26 [] [] (one (.bool y105)) [],([]:List Nat).Nodup,y105=false]) kr (sound _ _) ⟨(Zhn k _ hy105),(by decide),hb106,trivial⟩ ?_
 exact ⟨false,kr,kr,hF⟩ } } }
end Go.Proofs.YthilboheomikjaaGreatDoor
end
section
namespace Go.Proofs.YthilboheomikjaaGreatDoor
open Go.AL Go.Lib
set_option maxRecDepth 100000
theorem Zjq {R:Ze→Ze→Option Bool} {k:Nat} {v:Ze} {t:Bool} (hs:v.f_Set.length≤1048576) (ht:ZdC R v v k 0=some t):∀(l:List Zb) (i m:Nat),v.f_Set.drop i=l→l.length<m→i≤v.f_Set.length→Zet R k v v m (i:Int)=some t
  | [],i,m,hd,hm,hi=>by
    obtain ⟨m,rfl⟩:∃q,m=q+1:=⟨m-1,by simp at hm;omega⟩
    have:=Z5 hd
    show Zer _ _ _ _ _ _=_
    unfold Zer
    rw [df (by omega),cond_false]
    exact ht
  | x :: l,i,m,hd,hm,hi=>by
    obtain ⟨m,rfl⟩:∃q,m=q+1:=⟨m-1,by omega⟩
    obtain ⟨g1,g2,g3⟩:=Z0 hd
    rw [List.length_cons] at hm
    show Zer R k (Zet R k v v m) v v (i:Int)=_
    unfold Zer
    rw [dt (by omega),cond_true,Zy,g2,Option.bind_some,Option.bind_some,Z2 (by omega),Zjq hs ht l (i+1) m g3 (by omega) (by omega)]
    simp
theorem Zil {R:Ze→Ze→Option Bool} {v:Ze} (hl:v.f_L.length≤1048576) (hR:∀x∈v.f_L,R x x=some true):∀(l:List Ze) (i m:Nat),v.f_L.drop i=l→l.length<m→i≤v.f_L.length→ZdC R v v m (i:Int)=some true
  | [],i,m,hd,hm,hi=>by
    obtain ⟨m,rfl⟩:∃q,m=q+1:=⟨m-1,by simp at hm;omega⟩
    have:=Z5 hd
    show Zes _ _ _ _ _=_
    unfold Zes
    rw [df (by omega),cond_false]
  | x :: l,i,m,hd,hm,hi=>by
    obtain ⟨m,rfl⟩:∃q,m=q+1:=⟨m-1,by omega⟩
    obtain ⟨g1,g2,g3⟩:=Z0 hd
    rw [List.length_cons] at hm
    show Zes R (ZdC R v v m) v v (i:Int)=_
    unfold Zes
    rw [dt (by omega),cond_true,Zy,g2,Option.bind_some,Option.bind_some,hR x (List.mem_of_getElem? g2),Option.bind_some,Bool.not_true,cond_false,Z2 (by omega),Zil hl hR l (i+1) m g3 (by omega) (by omega)]
theorem Zls:∀(k:Nat) (r:Ze),k≤1048576→fs r≤k→F29 k r r=some true
  | 0,⟨kd,st,l,a,b⟩,_,hf=>by simp only [fs] at hf;omega
  | k+1,⟨kd,st,l,a,b⟩,hk,hf=>by
    simp only [fs] at hf
    have h2:=Zil (R:=F29 k) (v:=⟨kd,st,l,a,b⟩) (by show l.length≤_;omega) (fun x hx=>Zls k x (by omega) (by have:=Zdr (show x∈l from hx);omega)) l 0 k rfl (by omega) (Nat.zero_le _)
    have h1:=Zjq (R:=F29 k) (k:=k) (v:=⟨kd,st,l,a,b⟩) (by show st.length≤_;omega) h2 st 0 k rfl (by omega) (Nat.zero_le _)
    show ZjA (F29 k) k ⟨kd,st,l,a,b⟩ ⟨kd,st,l,a,b⟩=_
    unfold ZjA ZdB
    simp only [bne_self_eq_false,cond_false]
    exact h1
end Go.Proofs.YthilboheomikjaaGreatDoor
namespace Go.Proofs.YthilboheomikjaaGreatDoor.Pure
open Go.AL Go.Lib
theorem RexParses (s:List UInt8) (_:s.length≤140737488351232):∃k,F6 k s=some true:=by
  refine ⟨10000,?_⟩
  have told:F26 10000=some true:=by kernel_rfl
  unfold F6 ZhF
  by_cases h:(s.length:Int) > 450
  · rw [dt h,cond_true,told];rfl
  · rw [df h,cond_false]
    obtain ⟨a,e,e1,e2,hf⟩:=ZlL (k:=10000) (s:=s) (by omega) (by omega)
    rw [e1,e2,told]
    simp only [Option.bind_some,cond_true,beq_self_eq_true]
    rw [Zls 10000 a (by omega) (by omega)]
    rfl
end Go.Proofs.YthilboheomikjaaGreatDoor.Pure
end
