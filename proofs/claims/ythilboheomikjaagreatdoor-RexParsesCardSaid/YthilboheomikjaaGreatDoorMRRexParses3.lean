/- GS, S1, S2, S3, S4, S5, S6, S7, S8, S9, S10 -/
import Derived.Test.YthilboheomikjaaGreatDoorMRRexParses2
set_option linter.unusedVariables false
set_option linter.unusedSimpArgs false
section
namespace Go.Proofs.YthilboheomikjaaGreatDoor
open Go.AL
set_option maxRecDepth 100000
def F160 (k:Nat) (v0:Int):Option Int:=
  (F112 k (IntKind.wrap .u64 v0)).bind fun y101=>if (0:Int)≤y101 then (some (IntKind.wrap .u64 (1*2 ^ (min (Int.toNat y101) 64)))) else none
theorem Zn4 (k:Nat) (v0:Int) (r:Int) (hF:F160 k v0=some r):Sim Tryz.prog GL0 160 [one (.int .i64 v0)] [] (one (.int .u64 r)) []:=by
 refine ZB [] Tryz.func160 rfl kr kr ?_
 show WA _ _ 7 _ _ _
 refine WA.seq ?_
 refine WA.reg [0] [] [] (env':=[(0,one (.int .i64 v0))]) (os':=[]) (O:=[]) kr (sound _ _) trivial ?_
 refine WA.seq ?_
 obtain ⟨y101,hy101,hF⟩:=bind_some hF
 obtain ⟨hc102,hF⟩:=Zo hF
 refine WA.reg [2] [] [(2,.callR [] (one (.int .i64 y101)))] (env':=[(2,one (.int .u64 (IntKind.wrap .u64 (1*2 ^ (min (Int.toNat y101) 64)))))]) (os':=[]) (O:=[Sim Tryz.prog GL0 112 [one (.int .u64 (IntKind.wrap .u64 v0))] [] (one (.int .i64 y101)) [],([]:List Nat).Nodup,(0:Int)≤y101]) kr (sound _ _) ⟨(ZkW k _ _ hy101),(by decide),hc102,trivial⟩ ?_
 refine WA.ret ?_
 obtain rfl:=Option.some.inj hF
 exact Zp (one (.int .u64 (IntKind.wrap .u64 (1*2 ^ (min (Int.toNat y101) 64))))) [] kr kr kr kr (by decide) rfl rfl
def F161 (k:Nat) (v0:Int):Option (Int×Int):=
  (if (0:Int)≤13 then (if (0:Int)≤7 then (if (0:Int)≤17 then ((some ((Zx .xor .u64 (Zx .xor .u64 (Zx .xor .u64 v0 (IntKind.wrap .u64 (v0*2 ^ (min (Int.toNat 13) 64)))) (Int.fdiv (Zx .xor .u64 v0 (IntKind.wrap .u64 (v0*2 ^ (min (Int.toNat 13) 64)))) (2 ^ (min (Int.toNat 7) 64)))) (IntKind.wrap .u64 ((Zx .xor .u64 (Zx .xor .u64 v0 (IntKind.wrap .u64 (v0*2 ^ (min (Int.toNat 13) 64)))) (Int.fdiv (Zx .xor .u64 v0 (IntKind.wrap .u64 (v0*2 ^ (min (Int.toNat 13) 64)))) (2 ^ (min (Int.toNat 7) 64))))*2 ^ (min (Int.toNat 17) 64)))),(Zx .xor .u64 (Zx .xor .u64 (Zx .xor .u64 v0 (IntKind.wrap .u64 (v0*2 ^ (min (Int.toNat 13) 64)))) (Int.fdiv (Zx .xor .u64 v0 (IntKind.wrap .u64 (v0*2 ^ (min (Int.toNat 13) 64)))) (2 ^ (min (Int.toNat 7) 64)))) (IntKind.wrap .u64 ((Zx .xor .u64 (Zx .xor .u64 v0 (IntKind.wrap .u64 (v0*2 ^ (min (Int.toNat 13) 64)))) (Int.fdiv (Zx .xor .u64 v0 (IntKind.wrap .u64 (v0*2 ^ (min (Int.toNat 13) 64)))) (2 ^ (min (Int.toNat 7) 64))))*2 ^ (min (Int.toNat 17) 64))))))) else none) else none) else none)
theorem Zn5 (k:Nat) (v0:Int) (r:Int×Int) (hF:F161 k v0=some r):Sim Tryz.prog GL0 161 [.val false [.ptr 0 1 0 0]] [.box (pvL [.int .u64 v0])] (one (.int .u64 r.1)) [.box (pvL [.int .u64 r.2])]:=by
 refine ZB [0] Tryz.func161 rfl kr kr ?_
 show WA _ _ 33 _ _ _
 refine WA.seq ?_
 refine WA.reg [0] [0] [] (env':=[(0,.val false [.ptr 0 1 0 0])]) (os':=[(0,.box (pvL [.int .u64 v0]))]) (O:=[]) kr (sound _ _) trivial ?_
 refine WA.seq ?_
 obtain ⟨hc101,hF⟩:=Zo hF
 refine WA.regD kr [0] [0] [] (env':=[(0,.val false [.ptr 0 1 0 0])]) (os':=[(0,.box (pvL [.int .u64 (Zx .xor .u64 v0 (IntKind.wrap .u64 (v0*2 ^ (min (Int.toNat 13) 64))))]))]) (O:=[(0:Int)≤13]) kr kr (sound _ _) ⟨hc101,trivial⟩ ?_
 refine WA.seq ?_
 obtain ⟨hc102,hF⟩:=Zo hF
 refine WA.regD kr [0] [0] [] (env':=[(0,.val false [.ptr 0 1 0 0])]) (os':=[(0,.box (pvL [.int .u64 (Zx .xor .u64 (Zx .xor .u64 v0 (IntKind.wrap .u64 (v0*2 ^ (min (Int.toNat 13) 64)))) (Int.fdiv (Zx .xor .u64 v0 (IntKind.wrap .u64 (v0*2 ^ (min (Int.toNat 13) 64)))) (2 ^ (min (Int.toNat 7) 64))))]))]) (O:=[(0:Int)≤7]) kr kr (sound _ _) ⟨hc102,trivial⟩ ?_
 refine WA.seq ?_
 obtain ⟨hc103,hF⟩:=Zo hF
 refine WA.regD kr [0] [0] [] (env':=[(0,.val false [.ptr 0 1 0 0])]) (os':=[(0,.box (pvL [.int .u64 (Zx .xor .u64 (Zx .xor .u64 (Zx .xor .u64 v0 (IntKind.wrap .u64 (v0*2 ^ (min (Int.toNat 13) 64)))) (Int.fdiv (Zx .xor .u64 v0 (IntKind.wrap .u64 (v0*2 ^ (min (Int.toNat 13) 64)))) (2 ^ (min (Int.toNat 7) 64)))) (IntKind.wrap .u64 ((Zx .xor .u64 (Zx .xor .u64 v0 (IntKind.wrap .u64 (v0*2 ^ (min (Int.toNat 13) 64)))) (Int.fdiv (Zx .xor .u64 v0 (IntKind.wrap .u64 (v0*2 ^ (min (Int.toNat 13) 64)))) (2 ^ (min (Int.toNat 7) 64))))*2 ^ (min (Int.toNat 17) 64))))]))]) (O:=[(0:Int)≤17]) kr kr (sound _ _) ⟨hc103,trivial⟩ ?_
 refine WA.seq ?_
 refine WA.reg [2] [0] [] (env':=[(2,one (.int .u64 (Zx .xor .u64 (Zx .xor .u64 (Zx .xor .u64 v0 (IntKind.wrap .u64 (v0*2 ^ (min (Int.toNat 13) 64)))) (Int.fdiv (Zx .xor .u64 v0 (IntKind.wrap .u64 (v0*2 ^ (min (Int.toNat 13) 64)))) (2 ^ (min (Int.toNat 7) 64)))) (IntKind.wrap .u64 ((Zx .xor .u64 (Zx .xor .u64 v0 (IntKind.wrap .u64 (v0*2 ^ (min (Int.toNat 13) 64)))) (Int.fdiv (Zx .xor .u64 v0 (IntKind.wrap .u64 (v0*2 ^ (min (Int.toNat 13) 64)))) (2 ^ (min (Int.toNat 7) 64))))*2 ^ (min (Int.toNat 17) 64))))))]) (os':=[(0,.box (pvL [.int .u64 (Zx .xor .u64 (Zx .xor .u64 (Zx .xor .u64 v0 (IntKind.wrap .u64 (v0*2 ^ (min (Int.toNat 13) 64)))) (Int.fdiv (Zx .xor .u64 v0 (IntKind.wrap .u64 (v0*2 ^ (min (Int.toNat 13) 64)))) (2 ^ (min (Int.toNat 7) 64)))) (IntKind.wrap .u64 ((Zx .xor .u64 (Zx .xor .u64 v0 (IntKind.wrap .u64 (v0*2 ^ (min (Int.toNat 13) 64)))) (Int.fdiv (Zx .xor .u64 v0 (IntKind.wrap .u64 (v0*2 ^ (min (Int.toNat 13) 64)))) (2 ^ (min (Int.toNat 7) 64))))*2 ^ (min (Int.toNat 17) 64))))]))]) (O:=[]) kr (sound _ _) trivial ?_
 refine WA.ret ?_
 obtain rfl:=Option.some.inj hF
 exact Zp (one (.int .u64 (Zx .xor .u64 (Zx .xor .u64 (Zx .xor .u64 v0 (IntKind.wrap .u64 (v0*2 ^ (min (Int.toNat 13) 64)))) (Int.fdiv (Zx .xor .u64 v0 (IntKind.wrap .u64 (v0*2 ^ (min (Int.toNat 13) 64)))) (2 ^ (min (Int.toNat 7) 64)))) (IntKind.wrap .u64 ((Zx .xor .u64 (Zx .xor .u64 v0 (IntKind.wrap .u64 (v0*2 ^ (min (Int.toNat 13) 64)))) (Int.fdiv (Zx .xor .u64 v0 (IntKind.wrap .u64 (v0*2 ^ (min (Int.toNat 13) 64)))) (2 ^ (min (Int.toNat 7) 64))))*2 ^ (min (Int.toNat 17) 64)))))) [.box (pvL [.int .u64 (Zx .xor .u64 (Zx .xor .u64 (Zx .xor .u64 v0 (IntKind.wrap .u64 (v0*2 ^ (min (Int.toNat 13) 64)))) (Int.fdiv (Zx .xor .u64 v0 (IntKind.wrap .u64 (v0*2 ^ (min (Int.toNat 13) 64)))) (2 ^ (min (Int.toNat 7) 64)))) (IntKind.wrap .u64 ((Zx .xor .u64 (Zx .xor .u64 v0 (IntKind.wrap .u64 (v0*2 ^ (min (Int.toNat 13) 64)))) (Int.fdiv (Zx .xor .u64 v0 (IntKind.wrap .u64 (v0*2 ^ (min (Int.toNat 13) 64)))) (2 ^ (min (Int.toNat 7) 64))))*2 ^ (min (Int.toNat 17) 64))))])] kr kr kr kr (by decide) rfl rfl
def F191 (k:Nat) (v0:List Zb) (v1:Int) (v2:Int) (v3:Int):Option (Int×Int×(List Zb)×Int):=
  (if (0:Int)≤v2∧v2<(v0.length:Int) then (idxL v0 v2).bind fun y102=>if (0:Int)≤v1∧v1<(v0.length:Int) then (idxL v0 v1).bind fun y104=>(F104 k y102 y104).bind fun y105=>(cond (decide (y105<0)) (((some (v2,v1,v0,(w64 (v3+1)))))) (((some (v1,v2,v0,v3))))) else none else none)
theorem Zix (k:Nat) (v0:List Zb) (v1:Int) (v2:Int) (v3:Int) (r:Int×Int×(List Zb)×Int) (hF:F191 k v0 v1 v2 v3=some r) {n0:Nat} (hn_n0:n0=v0.length):Sim Tryz.prog GL0 191 [.val false [.arr 0 n0],one (.int .i64 v1),one (.int .i64 v2),.val false [.ptr 1 1 0 0],.val false [.pv (.fn 104)]] [.arr 2 (v0.map Za),.box (pvL [.int .i64 v3])] (.tup [(false,[.pv (.int .i64 r.1)]),(false,[.pv (.int .i64 r.2.1)])]) [.arr 2 (r.2.2.1.map Za),.box (pvL [.int .i64 r.2.2.2])]:=by
 refine ZB [0,1] Tryz.func191 rfl kr kr ?_
 show WA _ _ 32 _ _ _
 refine WA.seq ?_
 refine WA.reg [0,1,2,3,4] [0,1] [] (env':=[(0,.val false [.arr 0 n0]),(1,one (.int .i64 v1)),(2,one (.int .i64 v2)),(3,.val false [.ptr 1 1 0 0]),(4,.val false [.pv (.fn 104)])]) (os':=[(0,.arr 2 (v0.map Za)),(1,.box (pvL [.int .i64 v3]))]) (O:=[]) kr (sound _ _) trivial ?_
 refine WA.seq ?_
 refine WA.seq ?_
 obtain ⟨hc101,hF⟩:=Zo hF
 obtain ⟨y102,hy102,hF⟩:=bind_some hF
 obtain ⟨hc103,hF⟩:=Zo hF
 obtain ⟨y104,hy104,hF⟩:=bind_some hF
 obtain ⟨y105,hy105,hF⟩:=bind_some hF
 refine WA.regD kr [1,2,3,22] [0,1] [(4,.cells (Za y102)),(8,.cells (Za y104)),(9,.callR [] (one (.int .i64 y105)))] (env':=[(1,one (.int .i64 v1)),(2,one (.int .i64 v2)),(3,.val false [.ptr 1 1 0 0]),(22,one (.bool (decide (y105<0))))]) (os':=[(0,.arr 2 (v0.map Za)),(1,.box (pvL [.int .i64 v3]))]) (O:=[n0=(v0.map Za).length,(0:Int)≤v2,v2<((n0:Nat):Int),n0=(v0.map Za).length,(v0.map Za)[Int.toNat v2]?=some (Za y102),n0=(v0.map Za).length,(0:Int)≤v1,v1<((n0:Nat):Int),n0=(v0.map Za).length,(v0.map Za)[Int.toNat v1]?=some (Za y104),Sim Tryz.prog GL0 104 [.val true (pvL (Za y102)),.val true (pvL (Za y104))] [] (one (.int .i64 y105)) [],([]:List Nat).Nodup]) kr kr (sound _ _) ⟨zt,hc101.1,(by have h_:=hc101.2;(try simp only [zl,Zh] at h_ ⊢);omega),zt,(Zr (Zs _ hy102)),zt,hc103.1,(by have h_:=hc103.2;(try simp only [zl,Zh] at h_ ⊢);omega),zt,(Zr (Zs _ hy104)),(Zap k _ _ _ hy105),(by decide),trivial⟩ ?_
 refine WA.cond (b:=(decide (y105<0))) rfl (fun hb106=>?_) (fun hb106=>?_)
 {
 have hF:=Zk hF hb106
 refine WA.seq ?_
 refine WA.reg [1,2] [0,1] [] (env':=[(1,one (.int .i64 v1)),(2,one (.int .i64 v2))]) (os':=[(0,.arr 2 (v0.map Za)),(1,.box (pvL [.int .i64 (w64 (v3+1))]))]) (O:=[]) kr (sound _ _) trivial ?_
 refine WA.seq ?_
 refine WA.reg [10,11] [0,1] [] (env':=[(10,one (.int .i64 v2)),(11,one (.int .i64 v1))]) (os':=[(0,.arr 2 (v0.map Za)),(1,.box (pvL [.int .i64 (w64 (v3+1))]))]) (O:=[]) kr (sound _ _) trivial ?_
 refine WA.ret ?_
 obtain rfl:=Option.some.inj hF
 exact Zp (.tup [(false,[.pv (.int .i64 v2)]),(false,[.pv (.int .i64 v1)])]) [.arr 2 (v0.map Za),.box (pvL [.int .i64 (w64 (v3+1))])] kr kr kr kr (by decide) rfl rfl }
 {
 have hF:=Zj hF hb106
 refine WA.skip ?_
 refine WA.seq ?_
 refine WA.reg [10,11] [0,1] [] (env':=[(10,one (.int .i64 v1)),(11,one (.int .i64 v2))]) (os':=[(0,.arr 2 (v0.map Za)),(1,.box (pvL [.int .i64 v3]))]) (O:=[]) kr (sound _ _) trivial ?_
 refine WA.ret ?_
 obtain rfl:=Option.some.inj hF
 exact Zp (.tup [(false,[.pv (.int .i64 v1)]),(false,[.pv (.int .i64 v2)])]) [.arr 2 (v0.map Za),.box (pvL [.int .i64 v3])] kr kr kr kr (by decide) rfl rfl }
def F178 (k:Nat) (v0:List Zb) (v1:Int) (v2:Int) (v3:Int) (v4:Int):Option (Int×(List Zb)×Int):=
  (F191 k v0 v1 v2 v4).bind fun y101=>if y101.2.2.1.length=v0.length then (F191 k y101.2.2.1 y101.2.1 v3 y101.2.2.2).bind fun y103=>if y103.2.2.1.length=y101.2.2.1.length then (F191 k y103.2.2.1 y101.1 y103.1 y103.2.2.2).bind fun y105=>if y105.2.2.1.length=y103.2.2.1.length then ((some (y105.2.1,y105.2.2.1,y105.2.2.2))) else none else none else none
theorem Zk7 (k:Nat) (v0:List Zb) (v1:Int) (v2:Int) (v3:Int) (v4:Int) (r:Int×(List Zb)×Int) (hF:F178 k v0 v1 v2 v3 v4=some r) {n0:Nat} (hn_n0:n0=v0.length):Sim Tryz.prog GL0 178 [.val false [.arr 0 n0],one (.int .i64 v1),one (.int .i64 v2),one (.int .i64 v3),.val false [.ptr 1 1 0 0],.val false [.pv (.fn 104)]] [.arr 2 (v0.map Za),.box (pvL [.int .i64 v4])] (one (.int .i64 r.1)) [.arr 2 (r.2.1.map Za),.box (pvL [.int .i64 r.2.2])]:=by
 refine ZB [0,1] Tryz.func178 rfl kr kr ?_
 show WA _ _ 41 _ _ _
 refine WA.seq ?_
 refine WA.reg [0,1,2,3,4,5] [0,1] [] (env':=[(0,.val false [.arr 0 n0]),(1,one (.int .i64 v1)),(2,one (.int .i64 v2)),(3,one (.int .i64 v3)),(4,.val false [.ptr 1 1 0 0]),(5,.val false [.pv (.fn 104)])]) (os':=[(0,.arr 2 (v0.map Za)),(1,.box (pvL [.int .i64 v4]))]) (O:=[]) kr (sound _ _) trivial ?_
 refine WA.seq ?_
 obtain ⟨y101,hy101,hF⟩:=bind_some hF
 obtain ⟨hl102,hF⟩:=Zo hF
 refine WA.reg [0,1,2,3,4,5] [0,1] [(5,.call [0,1] (.tup [(false,[.pv (.int .i64 y101.1)]),(false,[.pv (.int .i64 y101.2.1)])]) [.arr 2 (y101.2.2.1.map Za),.box (pvL [.int .i64 y101.2.2.2])] [])] (env':=[(0,.val false [.arr 0 n0]),(1,one (.int .i64 y101.1)),(2,one (.int .i64 y101.2.1)),(3,one (.int .i64 v3)),(4,.val false [.ptr 1 1 0 0]),(5,.val false [.pv (.fn 104)])]) (os':=[(0,.arr 2 (y101.2.2.1.map Za)),(1,.box (pvL [.int .i64 y101.2.2.2]))]) (O:=[Sim Tryz.prog GL0 191 [.val false [.arr 0 n0],one (.int .i64 v1),one (.int .i64 v2),.val false [.ptr 1 1 0 0],.val false [.pv (.fn 104)]] [.arr 2 (v0.map Za),.box (pvL [.int .i64 v4])] (.tup [(false,[.pv (.int .i64 y101.1)]),(false,[.pv (.int .i64 y101.2.1)])]) [.arr 2 (y101.2.2.1.map Za),.box (pvL [.int .i64 y101.2.2.2])],([0,1]:List Nat).Nodup]) kr (sound _ _) ⟨(Zix k _ _ _ _ _ hy101 (n0:=n0) zt),(by decide),trivial⟩ ?_
 refine WA.seq ?_
 obtain ⟨y103,hy103,hF⟩:=bind_some hF
 obtain ⟨hl104,hF⟩:=Zo hF
 refine WA.reg [0,1,2,4,5] [0,1] [(5,.call [0,1] (.tup [(false,[.pv (.int .i64 y103.1)]),(false,[.pv (.int .i64 y103.2.1)])]) [.arr 2 (y103.2.2.1.map Za),.box (pvL [.int .i64 y103.2.2.2])] [])] (env':=[(0,.val false [.arr 0 n0]),(1,one (.int .i64 y101.1)),(2,one (.int .i64 y103.1)),(4,.val false [.ptr 1 1 0 0]),(5,.val false [.pv (.fn 104)])]) (os':=[(0,.arr 2 (y103.2.2.1.map Za)),(1,.box (pvL [.int .i64 y103.2.2.2]))]) (O:=[Sim Tryz.prog GL0 191 [.val false [.arr 0 n0],one (.int .i64 y101.2.1),one (.int .i64 v3),.val false [.ptr 1 1 0 0],.val false [.pv (.fn 104)]] [.arr 2 (y101.2.2.1.map Za),.box (pvL [.int .i64 y101.2.2.2])] (.tup [(false,[.pv (.int .i64 y103.1)]),(false,[.pv (.int .i64 y103.2.1)])]) [.arr 2 (y103.2.2.1.map Za),.box (pvL [.int .i64 y103.2.2.2])],([0,1]:List Nat).Nodup]) kr (sound _ _) ⟨(Zix k _ _ _ _ _ hy103 (n0:=n0) zt),(by decide),trivial⟩ ?_
 refine WA.seq ?_
 obtain ⟨y105,hy105,hF⟩:=bind_some hF
 obtain ⟨hl106,hF⟩:=Zo hF
 refine WA.reg [2] [0,1] [(5,.call [0,1] (.tup [(false,[.pv (.int .i64 y105.1)]),(false,[.pv (.int .i64 y105.2.1)])]) [.arr 2 (y105.2.2.1.map Za),.box (pvL [.int .i64 y105.2.2.2])] [])] (env':=[(2,one (.int .i64 y105.2.1))]) (os':=[(0,.arr 2 (y105.2.2.1.map Za)),(1,.box (pvL [.int .i64 y105.2.2.2]))]) (O:=[Sim Tryz.prog GL0 191 [.val false [.arr 0 n0],one (.int .i64 y101.1),one (.int .i64 y103.1),.val false [.ptr 1 1 0 0],.val false [.pv (.fn 104)]] [.arr 2 (y103.2.2.1.map Za),.box (pvL [.int .i64 y103.2.2.2])] (.tup [(false,[.pv (.int .i64 y105.1)]),(false,[.pv (.int .i64 y105.2.1)])]) [.arr 2 (y105.2.2.1.map Za),.box (pvL [.int .i64 y105.2.2.2])],([0,1]:List Nat).Nodup]) kr (sound _ _) ⟨(Zix k _ _ _ _ _ hy105 (n0:=n0) zt),(by decide),trivial⟩ ?_
 refine WA.seq ?_
 refine WA.reg [12] [0,1] [] (env':=[(12,one (.int .i64 y105.2.1))]) (os':=[(0,.arr 2 (y105.2.2.1.map Za)),(1,.box (pvL [.int .i64 y105.2.2.2]))]) (O:=[]) kr (sound _ _) trivial ?_
 refine WA.ret ?_
 obtain rfl:=Option.some.inj hF
 exact Zp (one (.int .i64 y105.2.1)) [.arr 2 (y105.2.2.1.map Za),.box (pvL [.int .i64 y105.2.2.2])] kr kr kr kr (by decide) rfl rfl
def F177 (k:Nat) (v0:List Zb) (v1:Int) (v2:Int):Option (Int×(List Zb)×Int):=
  (F178 k v0 (w64 (v1-1)) v1 (w64 (v1+1)) v2).bind fun y101=>if y101.2.1.length=v0.length then (some (y101.1,y101.2.1,y101.2.2)) else none
theorem Ziw (k:Nat) (v0:List Zb) (v1:Int) (v2:Int) (r:Int×(List Zb)×Int) (hF:F177 k v0 v1 v2=some r) {n0:Nat} (hn_n0:n0=v0.length):Sim Tryz.prog GL0 177 [.val false [.arr 0 n0],one (.int .i64 v1),.val false [.ptr 1 1 0 0],.val false [.pv (.fn 104)]] [.arr 2 (v0.map Za),.box (pvL [.int .i64 v2])] (one (.int .i64 r.1)) [.arr 2 (r.2.1.map Za),.box (pvL [.int .i64 r.2.2])]:=by
 refine ZB [0,1] Tryz.func177 rfl kr kr ?_
 show WA _ _ 18 _ _ _
 refine WA.seq ?_
 refine WA.reg [0,1,2,3] [0,1] [] (env':=[(0,.val false [.arr 0 n0]),(1,one (.int .i64 v1)),(2,.val false [.ptr 1 1 0 0]),(3,.val false [.pv (.fn 104)])]) (os':=[(0,.arr 2 (v0.map Za)),(1,.box (pvL [.int .i64 v2]))]) (O:=[]) kr (sound _ _) trivial ?_
 refine WA.seq ?_
 obtain ⟨y101,hy101,hF⟩:=bind_some hF
 obtain ⟨hl102,hF⟩:=Zo hF
 refine WA.reg [8] [0,1] [(8,.call [0,1] (one (.int .i64 y101.1)) [.arr 2 (y101.2.1.map Za),.box (pvL [.int .i64 y101.2.2])] [])] (env':=[(8,one (.int .i64 y101.1))]) (os':=[(0,.arr 2 (y101.2.1.map Za)),(1,.box (pvL [.int .i64 y101.2.2]))]) (O:=[Sim Tryz.prog GL0 178 [.val false [.arr 0 n0],one (.int .i64 (w64 (v1-1))),one (.int .i64 v1),one (.int .i64 (w64 (v1+1))),.val false [.ptr 1 1 0 0],.val false [.pv (.fn 104)]] [.arr 2 (v0.map Za),.box (pvL [.int .i64 v2])] (one (.int .i64 y101.1)) [.arr 2 (y101.2.1.map Za),.box (pvL [.int .i64 y101.2.2])],([0,1]:List Nat).Nodup]) kr (sound _ _) ⟨(Zk7 k _ _ _ _ _ _ hy101 (n0:=n0) zt),(by decide),trivial⟩ ?_
 refine WA.ret ?_
 obtain rfl:=Option.some.inj hF
 exact Zp (one (.int .i64 y101.1)) [.arr 2 (y101.2.1.map Za),.box (pvL [.int .i64 y101.2.2])] kr kr kr kr (by decide) rfl rfl
def Zep (k:Nat) (self4:(List Zb)→Int→Option (List Zb)) (v3:Int) (v152:List Zb) (v154:Int) (v164:Int):Option (List Zb):=
  if (0:Int)≤(w64 (v3+v154))∧(w64 (v3+v154))<(v152.length:Int) then (idxL v152 (w64 (v3+v154))).bind fun y166=>if (0:Int)≤(w64 (v3+v164))∧(w64 (v3+v164))<(v152.length:Int) then (idxL v152 (w64 (v3+v164))).bind fun y168=>(F104 k y166 y168).bind fun y169=>(cond (!(decide (y169<0))) (some v152) ((if (0:Int)≤(w64 (v3+v164))∧(w64 (v3+v164))<(v152.length:Int) then (idxL v152 (w64 (v3+v164))).bind fun y172=>if (0:Int)≤(w64 (v3+v154))∧(w64 (v3+v154))<(v152.length:Int) then (idxL v152 (w64 (v3+v154))).bind fun y174=>if (0:Int)≤(w64 (v3+v154))∧(w64 (v3+v154))<(v152.length:Int) then (idxL v152 (w64 (v3+v154))).bind fun y176=>if (0:Int)≤(w64 (v3+v164))∧(w64 (v3+v164))<((v152.set (Int.toNat (w64 (v3+v154))) y172).length:Int) then (idxL (v152.set (Int.toNat (w64 (v3+v154))) y172) (w64 (v3+v164))).bind fun y178=>(self4 ((v152.set (Int.toNat (w64 (v3+v154))) y172).set (Int.toNat (w64 (v3+v164))) y174) v164) else none else none else none else none))) else none else none
def Zeo (k:Nat) (self4:(List Zb)→Int→Option (List Zb)) (v3:Int) (v152:List Zb) (v154:Int) (v162:Bool):Option (List Zb):=
  cond v162 ((Zep k self4 v3 v152 v154 (w64 ((w64 ((w64 (2*v154))+1))+1)))) ((Zep k self4 v3 v152 v154 (w64 ((w64 (2*v154))+1))))
def Zgt (k:Nat) (self4:(List Zb)→Int→Option (List Zb)) (v2:Int) (v3:Int) (v152:List Zb) (v154:Int):Option (List Zb):=
  ((cond (decide ((w64 ((w64 (2*v154))+1))≥v2)) (some v152) ((cond (decide ((w64 ((w64 ((w64 (2*v154))+1))+1))<v2)) (if (0:Int)≤(w64 (v3+(w64 ((w64 (2*v154))+1))))∧(w64 (v3+(w64 ((w64 (2*v154))+1))))<(v152.length:Int) then (idxL v152 (w64 (v3+(w64 ((w64 (2*v154))+1))))).bind fun y158=>if (0:Int)≤(w64 ((w64 (v3+(w64 ((w64 (2*v154))+1))))+1))∧(w64 ((w64 (v3+(w64 ((w64 (2*v154))+1))))+1))<(v152.length:Int) then (idxL v152 (w64 ((w64 (v3+(w64 ((w64 (2*v154))+1))))+1))).bind fun y160=>(F104 k y158 y160).bind fun y161=>(Zeo k self4 v3 v152 v154 (decide (y161<0))) else none else none) ((Zeo k self4 v3 v152 v154 false))))))
def ZbH (k:Nat) (v2:Int) (v3:Int):Nat→(List Zb)→Int→Option (List Zb)
  | 0,_,_=>none
  | m_+1,v152,v154=>Zgt k (ZbH k v2 v3 m_) v2 v3 v152 v154
def F176 (k:Nat) (v0:List Zb) (v1:Int) (v2:Int) (v3:Int):Option (List Zb):=
  (ZbH k v2 v3 k v0 v1)
theorem Zk6 (k:Nat) (v0:List Zb) (v1:Int) (v2:Int) (v3:Int) (r:List Zb) (hF:F176 k v0 v1 v2 v3=some r) {n0:Nat} (hn_n0:n0=v0.length):Sim Tryz.prog GL0 176 [.val false [.arr 0 n0],one (.int .i64 v1),one (.int .i64 v2),one (.int .i64 v3),.val false [.pv (.fn 104)]] [.arr 2 (v0.map Za)] (.tup []) [.arr 2 (r.map Za)]:=by
 refine ZB [0] Tryz.func176 rfl kr kr ?_
 show WA _ _ 82 _ _ _
 refine WA.seq ?_
 refine WA.reg [0,2,3,4,10] [0] [] (env':=[(0,.val false [.arr 0 n0]),(2,one (.int .i64 v2)),(3,one (.int .i64 v3)),(4,.val false [.pv (.fn 104)]),(10,one (.int .i64 v1))]) (os':=[(0,.arr 2 (v0.map Za))]) (O:=[]) kr (sound _ _) trivial ?_
 refine WA.block ?_
 refine WA.loop (fun m s_=>∃(v152:List Zb) (v153:Nat) (v154:Int),Zl s_.env [0,2,3,4,10]=[(0,.val false [.arr 0 v153]),(2,one (.int .i64 v2)),(3,one (.int .i64 v3)),(4,.val false [.pv (.fn 104)]),(10,one (.int .i64 v154))]∧Zl s_.os [0]=[(0,.arr 2 (v152.map Za))]∧v153=(v152:List _).length∧ZbH k v2 v3 m v152 v154=some r) k ⟨v0,n0,v1,kr,kr,zt,hF⟩ ?_
 clear hF
 rintro m4 s_ ⟨v152,v153,v154,he,ho,hn_v153,hF⟩
 refine WA.keep _ _ he ho ?_
 clear he ho
 cases m4 with
 | zero=>cases hF
 | succ m4=>
  obtain ⟨self4,hself4⟩:∃g,g=ZbH k v2 v3 m4:=⟨_,rfl⟩
  have hF:Zgt k self4 v2 v3 v152 v154=some r:=by first | (rw [hself4];exact hF) | exact hF
  refine WA.block ?_
  refine WA.seq ?_
  refine WA.reg [0,2,3,4,10,11] [0] [] (env':=[(0,.val false [.arr 0 v153]),(2,one (.int .i64 v2)),(3,one (.int .i64 v3)),(4,.val false [.pv (.fn 104)]),(10,one (.int .i64 v154)),(11,one (.int .i64 (w64 ((w64 (2*v154))+1))))]) (os':=[(0,.arr 2 (v152.map Za))]) (O:=[]) kr (sound _ _) trivial ?_
  refine WA.seq ?_
  refine WA.seq ?_
  refine WA.reg [0,2,3,4,10,11,18] [0] [] (env':=[(0,.val false [.arr 0 v153]),(2,one (.int .i64 v2)),(3,one (.int .i64 v3)),(4,.val false [.pv (.fn 104)]),(10,one (.int .i64 v154)),(11,one (.int .i64 (w64 ((w64 (2*v154))+1)))),(18,one (.bool (decide ((w64 ((w64 (2*v154))+1))≥v2))))]) (os':=[(0,.arr 2 (v152.map Za))]) (O:=[]) kr (sound _ _) trivial ?_
  refine WA.cond (b:=(decide ((w64 ((w64 (2*v154))+1))≥v2))) rfl (fun hb155=>?_) (fun hb155=>?_)
  {
 have hF:=Zk hF hb155
 refine WA.exit ?_
 obtain rfl:=Option.some.inj hF
 exact Zcy (.tup []) [.arr 2 (v152.map Za)] kr kr kr kr (by decide) rfl rfl }
  {
 have hF:=Zj hF hb155
 refine WA.skip ?_
 refine WA.join (fun s_=>∃(v164:Int),Zl s_.env [0,2,3,4,10,11]=[(0,.val false [.arr 0 v153]),(2,one (.int .i64 v2)),(3,one (.int .i64 v3)),(4,.val false [.pv (.fn 104)]),(10,one (.int .i64 v154)),(11,one (.int .i64 v164))]∧Zl s_.os [0]=[(0,.arr 2 (v152.map Za))]∧Zep k self4 v3 v152 v154 v164=some r) ?_ ?_
 {
 rintro s_ ⟨v164,he,ho,hF⟩
 refine WA.keep _ _ he ho ?_
 clear he ho
 refine WA.seq ?_
 refine WA.seq ?_
 obtain ⟨hc165,hF⟩:=Zo hF
 obtain ⟨y166,hy166,hF⟩:=bind_some hF
 obtain ⟨hc167,hF⟩:=Zo hF
 obtain ⟨y168,hy168,hF⟩:=bind_some hF
 obtain ⟨y169,hy169,hF⟩:=bind_some hF
 refine WA.regD kr [0,2,3,4,10,11,58] [0] [(6,.cells (Za y166)),(12,.cells (Za y168)),(13,.callR [] (one (.int .i64 y169)))] (env':=[(0,.val false [.arr 0 v153]),(2,one (.int .i64 v2)),(3,one (.int .i64 v3)),(4,.val false [.pv (.fn 104)]),(10,one (.int .i64 v154)),(11,one (.int .i64 v164)),(58,one (.bool (!(decide (y169<0)))))]) (os':=[(0,.arr 2 (v152.map Za))]) (O:=[v153=(v152.map Za).length,(0:Int)≤(w64 (v3+v154)),(w64 (v3+v154))<((v153:Nat):Int),v153=(v152.map Za).length,(v152.map Za)[Int.toNat (w64 (v3+v154))]?=some (Za y166),v153=(v152.map Za).length,(0:Int)≤(w64 (v3+v164)),(w64 (v3+v164))<((v153:Nat):Int),v153=(v152.map Za).length,(v152.map Za)[Int.toNat (w64 (v3+v164))]?=some (Za y168),Sim Tryz.prog GL0 104 [.val true (pvL (Za y166)),.val true (pvL (Za y168))] [] (one (.int .i64 y169)) [],([]:List Nat).Nodup]) kr kr (sound _ _) ⟨zt,hc165.1,(by have h_:=hc165.2;(try simp only [zl,Zh] at h_ ⊢);omega),zt,(Zr (Zs _ hy166)),zt,hc167.1,(by have h_:=hc167.2;(try simp only [zl,Zh] at h_ ⊢);omega),zt,(Zr (Zs _ hy168)),(Zap k _ _ _ hy169),(by decide),trivial⟩ ?_
 refine WA.cond (b:=(!(decide (y169<0)))) rfl (fun hb170=>?_) (fun hb170=>?_)
 {
 have hF:=Zk hF hb170
 refine WA.ret ?_
 obtain rfl:=Option.some.inj hF
 exact Zp (.tup []) [.arr 2 (v152.map Za)] kr kr kr kr (by decide) rfl rfl }
 {
 have hF:=Zj hF hb170
 refine WA.skip ?_
 refine WA.seq ?_
 obtain ⟨hc171,hF⟩:=Zo hF
 obtain ⟨y172,hy172,hF⟩:=bind_some hF
 obtain ⟨hc173,hF⟩:=Zo hF
 obtain ⟨y174,hy174,hF⟩:=bind_some hF
 obtain ⟨hc175,hF⟩:=Zo hF
 obtain ⟨y176,hy176,hF⟩:=bind_some hF
 obtain ⟨hc177,hF⟩:=Zo hF
 obtain ⟨y178,hy178,hF⟩:=bind_some hF
 have z0:(w64 (v3+v164))<((v153:Nat):Int):=(by have h_:=hc171.2;(try simp only [zl,Zh] at h_ ⊢);omega)
 have z2:(w64 (v3+v154))<((v153:Nat):Int):=(by have h_:=hc173.2;(try simp only [zl,Zh] at h_ ⊢);omega)
 refine WA.rdm (α:=(List (List PV))×(List (List PV))) (raw:=((((v152.map Za).set (Int.toNat (w64 (v3+v154))) (Za y172)).set (Int.toNat (w64 (v3+v164))) (Za y174)),((v152.map Za).set (Int.toNat (w64 (v3+v154))) (Za y172)))) (can:=((((v152.set (Int.toNat (w64 (v3+v154))) y172).set (Int.toNat (w64 (v3+v164))) y174).map Za),((v152.set (Int.toNat (w64 (v3+v154))) y172).map Za))) (fun m_=>([(0,.val false [.arr 0 v153]),(2,one (.int .i64 v2)),(3,one (.int .i64 v3)),(4,.val false [.pv (.fn 104)]),(11,one (.int .i64 v164))],[(0,.arr 2 m_.1)],[v153=(v152.map Za).length,(0:Int)≤(w64 (v3+v164)),(w64 (v3+v164))<((v153:Nat):Int),v153=(v152.map Za).length,(v152.map Za)[Int.toNat (w64 (v3+v164))]?=some (Za y172),v153=(v152.map Za).length,(0:Int)≤(w64 (v3+v154)),(w64 (v3+v154))<((v153:Nat):Int),v153=(v152.map Za).length,(v152.map Za)[Int.toNat (w64 (v3+v154))]?=some (Za y174),v153=(v152.map Za).length,(0:Int)≤(w64 (v3+v154)),(w64 (v3+v154))<((v153:Nat):Int),v153=(v152.map Za).length,(v152.map Za)[Int.toNat (w64 (v3+v154))]?=some (Za y176),v153=m_.2.length,(0:Int)≤(w64 (v3+v164)),(w64 (v3+v164))<((v153:Nat):Int),v153=m_.2.length,m_.2[Int.toNat (w64 (v3+v164))]?=some (Za y178)])) (ZE zm zm) [0,2,3,4,11] [0] [(13,.cells (Za y172)),(19,.cells (Za y174)),(21,.cells (Za y176)),(23,.cells (Za y178))] kr kr kr (sound _ _) ⟨zt,hc171.1,z0,zt,(Zr (Zs _ hy172)),zt,hc173.1,z2,zt,(Zr (Zs _ hy174)),zt,hc175.1,z2,zt,(Zr (Zs _ hy176)),zt,hc177.1,z0,zt,(Zr (Zs _ hy178)),trivial⟩ ?_
 refine WA.reg [0,2,3,4,10] [0] [] (env':=[(0,.val false [.arr 0 v153]),(2,one (.int .i64 v2)),(3,one (.int .i64 v3)),(4,.val false [.pv (.fn 104)]),(10,one (.int .i64 v164))]) (os':=[(0,.arr 2 (((v152.set (Int.toNat (w64 (v3+v154))) y172).set (Int.toNat (w64 (v3+v164))) y174).map Za))]) (O:=[]) kr (sound _ _) trivial ?_
 exact ⟨m4,Nat.lt_succ_self _,((v152.set (Int.toNat (w64 (v3+v154))) y172).set (Int.toNat (w64 (v3+v164))) y174),v153,v164,kr,kr,zt,by rw [hself4] at hF;exact hF⟩ } }
 {
 refine WA.join (fun s_=>∃(v162:Bool),Zl s_.env [0,2,3,4,10,11,40]=[(0,.val false [.arr 0 v153]),(2,one (.int .i64 v2)),(3,one (.int .i64 v3)),(4,.val false [.pv (.fn 104)]),(10,one (.int .i64 v154)),(11,one (.int .i64 (w64 ((w64 (2*v154))+1)))),(40,one (.bool v162))]∧Zl s_.os [0]=[(0,.arr 2 (v152.map Za))]∧Zeo k self4 v3 v152 v154 v162=some r) ?_ ?_
 {
 rintro s_ ⟨v162,he,ho,hF⟩
 refine WA.keep _ _ he ho ?_
 clear he ho
 refine WA.cond (b:=v162) rfl (fun hb163=>?_) (fun hb163=>?_)
 {
 have hF:=Zk hF hb163
 refine WA.reg [0,2,3,4,10,11] [0] [] (env':=[(0,.val false [.arr 0 v153]),(2,one (.int .i64 v2)),(3,one (.int .i64 v3)),(4,.val false [.pv (.fn 104)]),(10,one (.int .i64 v154)),(11,one (.int .i64 (w64 ((w64 ((w64 (2*v154))+1))+1))))]) (os':=[(0,.arr 2 (v152.map Za))]) (O:=[]) kr (sound _ _) trivial ?_
 exact ⟨(w64 ((w64 ((w64 (2*v154))+1))+1)),kr,kr,hF⟩ }
 {
 have hF:=Zj hF hb163
 refine WA.skip ?_
 exact ⟨(w64 ((w64 (2*v154))+1)),kr,kr,hF⟩ } }
 {
 rcases Bool.eq_false_or_eq_true (decide ((w64 ((w64 ((w64 (2*v154))+1))+1))<v2)) with hb156 | hb156
 {
 have hF:=Zk hF hb156
 obtain ⟨hc157,hF⟩:=Zo hF
 obtain ⟨y158,hy158,hF⟩:=bind_some hF
 obtain ⟨hc159,hF⟩:=Zo hF
 obtain ⟨y160,hy160,hF⟩:=bind_some hF
 obtain ⟨y161,hy161,hF⟩:=bind_some hF
 refine WA.regD kr [0,2,3,4,10,11,40] [0] [(4,.bool true),(11,.cells (Za y158)),(18,.cells (Za y160)),(19,.callR [] (one (.int .i64 y161)))] (env':=[(0,.val false [.arr 0 v153]),(2,one (.int .i64 v2)),(3,one (.int .i64 v3)),(4,.val false [.pv (.fn 104)]),(10,one (.int .i64 v154)),(11,one (.int .i64 (w64 ((w64 (2*v154))+1)))),(40,one (.bool (decide (y161<0))))]) (os':=[(0,.arr 2 (v152.map Za))]) (O:=[(decide ((w64 ((w64 ((w64 (2*v154))+1))+1))<v2))=true,v153=(v152.map Za).length,(0:Int)≤(w64 (v3+(w64 ((w64 (2*v154))+1)))),(w64 (v3+(w64 ((w64 (2*v154))+1))))<((v153:Nat):Int),v153=(v152.map Za).length,(v152.map Za)[Int.toNat (w64 (v3+(w64 ((w64 (2*v154))+1))))]?=some (Za y158),v153=(v152.map Za).length,(0:Int)≤(w64 ((w64 (v3+(w64 ((w64 (2*v154))+1))))+1)),(w64 ((w64 (v3+(w64 ((w64 (2*v154))+1))))+1))<((v153:Nat):Int),v153=(v152.map Za).length,(v152.map Za)[Int.toNat (w64 ((w64 (v3+(w64 ((w64 (2*v154))+1))))+1))]?=some (Za y160),Sim Tryz.prog GL0 104 [.val true (pvL (Za y158)),.val true (pvL (Za y160))] [] (one (.int .i64 y161)) [],([]:List Nat).Nodup]) kr kr (sound _ _) ⟨hb156,zt,hc157.1,(by have h_:=hc157.2;(try simp only [zl,Zh] at h_ ⊢);omega),zt,(Zr (Zs _ hy158)),zt,hc159.1,(by have h_:=hc159.2;(try simp only [zl,Zh] at h_ ⊢);omega),zt,(Zr (Zs _ hy160)),(Zap k _ _ _ hy161),(by decide),trivial⟩ ?_
 exact ⟨(decide (y161<0)),kr,kr,hF⟩ }
 {
 have hF:=Zj hF hb156
 refine WA.regD kr [0,2,3,4,10,11,40] [0] [(4,.bool false),(19,.callR [] (.tup []))] (env':=[(0,.val false [.arr 0 v153]),(2,one (.int .i64 v2)),(3,one (.int .i64 v3)),(4,.val false [.pv (.fn 104)]),(10,one (.int .i64 v154)),(11,one (.int .i64 (w64 ((w64 (2*v154))+1)))),(40,one (.bool false))]) (os':=[(0,.arr 2 (v152.map Za))]) (O:=[(decide ((w64 ((w64 ((w64 (2*v154))+1))+1))<v2))=false]) kr kr (sound _ _) ⟨hb156,trivial⟩ ?_
 exact ⟨false,kr,kr,hF⟩ } } } }
def ZbX (self24:(List Zb)→Int→Int→Option (Int×Bool×(List Zb))) (self31:Int→Option (Int×Bool×(List Zb))) (v1:Int) (v304:List Zb) (v325:Int) (v351:Int) (v358:Bool):Option (Int×Bool×(List Zb)):=
  cond v358 ((self31 (w64 (v351-1)))) (((cond (decide (v325 > v351)) ((if (0:Int)≤v1∧v1<(v304.length:Int) then (idxL v304 v1).bind fun y370=>if (0:Int)≤v351∧v351<(v304.length:Int) then (idxL v304 v351).bind fun y372=>if (0:Int)≤v351∧v351<(v304.length:Int) then (idxL v304 v351).bind fun y374=>if (0:Int)≤v1∧v1<((v304.set (Int.toNat v351) y370).length:Int) then (idxL (v304.set (Int.toNat v351) y370) v1).bind fun y376=>((some (v351,false,((v304.set (Int.toNat v351) y370).set (Int.toNat v1) y372)))) else none else none else none else none)) ((if (0:Int)≤v351∧v351<(v304.length:Int) then (idxL v304 v351).bind fun y362=>if (0:Int)≤v325∧v325<(v304.length:Int) then (idxL v304 v325).bind fun y364=>if (0:Int)≤v325∧v325<(v304.length:Int) then (idxL v304 v325).bind fun y366=>if (0:Int)≤v351∧v351<((v304.set (Int.toNat v325) y362).length:Int) then (idxL (v304.set (Int.toNat v325) y362) v351).bind fun y368=>((self24 ((v304.set (Int.toNat v325) y362).set (Int.toNat v351) y364) (w64 (v325+1)) (w64 (v351-1)))) else none else none else none else none)))))
def Ze6 (k:Nat) (self24:(List Zb)→Int→Int→Option (Int×Bool×(List Zb))) (self31:Int→Option (Int×Bool×(List Zb))) (v1:Int) (v304:List Zb) (v325:Int) (v351:Int):Option (Int×Bool×(List Zb)):=
  cond (decide (v325≤v351)) (if (0:Int)≤v351∧v351<(v304.length:Int) then (idxL v304 v351).bind fun y354=>if (0:Int)≤v1∧v1<(v304.length:Int) then (idxL v304 v1).bind fun y356=>(F104 k y354 y356).bind fun y357=>(ZbX self24 self31 v1 v304 v325 v351 (!(decide (y357<0)))) else none else none) ((ZbX self24 self31 v1 v304 v325 v351 false))
def Zbq (k:Nat) (self24:(List Zb)→Int→Int→Option (Int×Bool×(List Zb))) (v1:Int) (v304:List Zb) (v325:Int):Nat→Int→Option (Int×Bool×(List Zb))
  | 0,_=>none
  | m_+1,v351=>Ze6 k self24 (Zbq k self24 v1 v304 v325 m_) v1 v304 v325 v351
def Ze7 (k:Nat) (self24:(List Zb)→Int→Int→Option (Int×Bool×(List Zb))) (self27:Int→Option (Int×Bool×(List Zb))) (v1:Int) (v304:List Zb) (v307:Int) (v325:Int) (v332:Bool):Option (Int×Bool×(List Zb)):=
  cond v332 ((self27 (w64 (v325+1)))) ((Zbq k self24 v1 v304 v325 k v307))
def Ze5 (k:Nat) (self24:(List Zb)→Int→Int→Option (Int×Bool×(List Zb))) (self27:Int→Option (Int×Bool×(List Zb))) (v1:Int) (v304:List Zb) (v307:Int) (v325:Int):Option (Int×Bool×(List Zb)):=
  cond (decide (v325≤v307)) (if (0:Int)≤v325∧v325<(v304.length:Int) then (idxL v304 v325).bind fun y328=>if (0:Int)≤v1∧v1<(v304.length:Int) then (idxL v304 v1).bind fun y330=>(F104 k y328 y330).bind fun y331=>(Ze7 k self24 self27 v1 v304 v307 v325 (decide (y331<0))) else none else none) ((Ze7 k self24 self27 v1 v304 v307 v325 false))
def Zbp (k:Nat) (self24:(List Zb)→Int→Int→Option (Int×Bool×(List Zb))) (v1:Int) (v304:List Zb) (v307:Int):Nat→Int→Option (Int×Bool×(List Zb))
  | 0,_=>none
  | m_+1,v325=>Ze5 k self24 (Zbp k self24 v1 v304 v307 m_) v1 v304 v307 v325
def ZjF (k:Nat) (self24:(List Zb)→Int→Int→Option (Int×Bool×(List Zb))) (v1:Int) (v304:List Zb) (v306:Int) (v307:Int):Option (Int×Bool×(List Zb)):=
  Zbp k self24 v1 v304 v307 k v306
def ZaB (k:Nat) (v1:Int):Nat→(List Zb)→Int→Int→Option (Int×Bool×(List Zb))
  | 0,_,_,_=>none
  | m_+1,v304,v306,v307=>ZjF k (ZaB k v1 m_) v1 v304 v306 v307
def Zdh (k:Nat) (self6:Int→Option (Int×Bool×(List Zb))) (v0:List Zb) (v1:Int) (v3:Int) (y102:Zb) (y104:Zb) (v126:Int) (v152:Int) (v159:Bool):Option (Int×Bool×(List Zb)):=
  cond v159 ((self6 (w64 (v152-1)))) (((cond (decide (v126 > v152)) (if (0:Int)≤v1∧v1<(((v0.set (Int.toNat v1) y102).set (Int.toNat v3) y104).length:Int) then (idxL ((v0.set (Int.toNat v1) y102).set (Int.toNat v3) y104) v1).bind fun y163=>if (0:Int)≤v152∧v152<(((v0.set (Int.toNat v1) y102).set (Int.toNat v3) y104).length:Int) then (idxL ((v0.set (Int.toNat v1) y102).set (Int.toNat v3) y104) v152).bind fun y165=>if (0:Int)≤v152∧v152<(((v0.set (Int.toNat v1) y102).set (Int.toNat v3) y104).length:Int) then (idxL ((v0.set (Int.toNat v1) y102).set (Int.toNat v3) y104) v152).bind fun y167=>if (0:Int)≤v1∧v1<((((v0.set (Int.toNat v1) y102).set (Int.toNat v3) y104).set (Int.toNat v152) y163).length:Int) then (idxL (((v0.set (Int.toNat v1) y102).set (Int.toNat v3) y104).set (Int.toNat v152) y163) v1).bind fun y169=>((some (v152,true,((((v0.set (Int.toNat v1) y102).set (Int.toNat v3) y104).set (Int.toNat v152) y163).set (Int.toNat v1) y165)))) else none else none else none else none) ((if (0:Int)≤v152∧v152<(((v0.set (Int.toNat v1) y102).set (Int.toNat v3) y104).length:Int) then (idxL ((v0.set (Int.toNat v1) y102).set (Int.toNat v3) y104) v152).bind fun y171=>if (0:Int)≤v126∧v126<(((v0.set (Int.toNat v1) y102).set (Int.toNat v3) y104).length:Int) then (idxL ((v0.set (Int.toNat v1) y102).set (Int.toNat v3) y104) v126).bind fun y173=>if (0:Int)≤v126∧v126<(((v0.set (Int.toNat v1) y102).set (Int.toNat v3) y104).length:Int) then (idxL ((v0.set (Int.toNat v1) y102).set (Int.toNat v3) y104) v126).bind fun y175=>if (0:Int)≤v152∧v152<((((v0.set (Int.toNat v1) y102).set (Int.toNat v3) y104).set (Int.toNat v126) y171).length:Int) then (idxL (((v0.set (Int.toNat v1) y102).set (Int.toNat v3) y104).set (Int.toNat v126) y171) v152).bind fun y177=>(((ZaB k v1 k ((((v0.set (Int.toNat v1) y102).set (Int.toNat v3) y104).set (Int.toNat v126) y171).set (Int.toNat v152) y173) (w64 (v126+1)) (w64 (v152-1))))) else none else none else none else none)))))
def Zgo (k:Nat) (self6:Int→Option (Int×Bool×(List Zb))) (v0:List Zb) (v1:Int) (v3:Int) (y102:Zb) (y104:Zb) (v126:Int) (v152:Int):Option (Int×Bool×(List Zb)):=
  cond (decide (v126≤v152)) (if (0:Int)≤v152∧v152<(((v0.set (Int.toNat v1) y102).set (Int.toNat v3) y104).length:Int) then (idxL ((v0.set (Int.toNat v1) y102).set (Int.toNat v3) y104) v152).bind fun y155=>if (0:Int)≤v1∧v1<(((v0.set (Int.toNat v1) y102).set (Int.toNat v3) y104).length:Int) then (idxL ((v0.set (Int.toNat v1) y102).set (Int.toNat v3) y104) v1).bind fun y157=>(F104 k y155 y157).bind fun y158=>(Zdh k self6 v0 v1 v3 y102 y104 v126 v152 (!(decide (y158<0)))) else none else none) ((Zdh k self6 v0 v1 v3 y102 y104 v126 v152 false))
def Zbf (k:Nat) (v0:List Zb) (v1:Int) (v3:Int) (y102:Zb) (y104:Zb) (v126:Int):Nat→Int→Option (Int×Bool×(List Zb))
  | 0,_=>none
  | m_+1,v152=>Zgo k (Zbf k v0 v1 v3 y102 y104 v126 m_) v0 v1 v3 y102 y104 v126 v152
def Zdg (k:Nat) (self2:Int→Option (Int×Bool×(List Zb))) (v0:List Zb) (v1:Int) (v2:Int) (v3:Int) (y102:Zb) (y104:Zb) (v126:Int) (v133:Bool):Option (Int×Bool×(List Zb)):=
  cond v133 ((self2 (w64 (v126+1)))) ((Zbf k v0 v1 v3 y102 y104 v126 k (w64 (v2-1))))
def Zgn (k:Nat) (self2:Int→Option (Int×Bool×(List Zb))) (v0:List Zb) (v1:Int) (v2:Int) (v3:Int) (y102:Zb) (y104:Zb) (v126:Int):Option (Int×Bool×(List Zb)):=
  cond (decide (v126≤(w64 (v2-1)))) (if (0:Int)≤v126∧v126<(((v0.set (Int.toNat v1) y102).set (Int.toNat v3) y104).length:Int) then (idxL ((v0.set (Int.toNat v1) y102).set (Int.toNat v3) y104) v126).bind fun y129=>if (0:Int)≤v1∧v1<(((v0.set (Int.toNat v1) y102).set (Int.toNat v3) y104).length:Int) then (idxL ((v0.set (Int.toNat v1) y102).set (Int.toNat v3) y104) v1).bind fun y131=>(F104 k y129 y131).bind fun y132=>(Zdg k self2 v0 v1 v2 v3 y102 y104 v126 (decide (y132<0))) else none else none) ((Zdg k self2 v0 v1 v2 v3 y102 y104 v126 false))
def Zb5 (k:Nat) (v0:List Zb) (v1:Int) (v2:Int) (v3:Int) (y102:Zb) (y104:Zb):Nat→Int→Option (Int×Bool×(List Zb))
  | 0,_=>none
  | m_+1,v126=>Zgn k (Zb5 k v0 v1 v2 v3 y102 y104 m_) v0 v1 v2 v3 y102 y104 v126
def F156 (k:Nat) (v0:List Zb) (v1:Int) (v2:Int) (v3:Int):Option (Int×Bool×(List Zb)):=
  (if (0:Int)≤v3∧v3<(v0.length:Int) then (idxL v0 v3).bind fun y102=>if (0:Int)≤v1∧v1<(v0.length:Int) then (idxL v0 v1).bind fun y104=>if (0:Int)≤v1∧v1<(v0.length:Int) then (idxL v0 v1).bind fun y106=>if (0:Int)≤v3∧v3<((v0.set (Int.toNat v1) y102).length:Int) then (idxL (v0.set (Int.toNat v1) y102) v3).bind fun y108=>((Zb5 k v0 v1 v2 v3 y102 y104 k (w64 (v1+1)))) else none else none else none else none)
theorem Zn3 (k:Nat) (v0:List Zb) (v1:Int) (v2:Int) (v3:Int) (r:Int×Bool×(List Zb)) (hF:F156 k v0 v1 v2 v3=some r) {n0:Nat} (hn_n0:n0=v0.length):Sim Tryz.prog GL0 156 [.val false [.arr 0 n0],one (.int .i64 v1),one (.int .i64 v2),one (.int .i64 v3),.val false [.pv (.fn 104)]] [.arr 2 (v0.map Za)] (.tup [(false,[.pv (.int .i64 r.1)]),(false,[.pv (.bool r.2.1)])]) [.arr 2 (r.2.2.map Za)]:=by
 refine ZB [0] Tryz.func156 rfl kr kr ?_
 show WA _ _ 178 _ _ _
 refine WA.seq ?_
 refine WA.reg [0,1,2,3,4] [0] [] (env':=[(0,.val false [.arr 0 n0]),(1,one (.int .i64 v1)),(2,one (.int .i64 v2)),(3,one (.int .i64 v3)),(4,.val false [.pv (.fn 104)])]) (os':=[(0,.arr 2 (v0.map Za))]) (O:=[]) kr (sound _ _) trivial ?_
 refine WA.seq ?_
 obtain ⟨hc101,hF⟩:=Zo hF
 obtain ⟨y102,hy102,hF⟩:=bind_some hF
 obtain ⟨hc103,hF⟩:=Zo hF
 obtain ⟨y104,hy104,hF⟩:=bind_some hF
 obtain ⟨hc105,hF⟩:=Zo hF
 obtain ⟨y106,hy106,hF⟩:=bind_some hF
 obtain ⟨hc107,hF⟩:=Zo hF
 obtain ⟨y108,hy108,hF⟩:=bind_some hF
 have z0:v3<((n0:Nat):Int):=(by have h_:=hc101.2;(try simp only [zl,Zh] at h_ ⊢);omega)
 have z2:v1<((n0:Nat):Int):=(by have h_:=hc103.2;(try simp only [zl,Zh] at h_ ⊢);omega)
 refine WA.rdm (α:=(List (List PV))×(List (List PV))) (raw:=((((v0.map Za).set (Int.toNat v1) (Za y102)).set (Int.toNat v3) (Za y104)),((v0.map Za).set (Int.toNat v1) (Za y102)))) (can:=((((v0.set (Int.toNat v1) y102).set (Int.toNat v3) y104).map Za),((v0.set (Int.toNat v1) y102).map Za))) (fun m_=>([(0,.val false [.arr 0 n0]),(1,one (.int .i64 v1)),(2,one (.int .i64 v2)),(4,.val false [.pv (.fn 104)])],[(0,.arr 2 m_.1)],[n0=(v0.map Za).length,(0:Int)≤v3,v3<((n0:Nat):Int),n0=(v0.map Za).length,(v0.map Za)[Int.toNat v3]?=some (Za y102),n0=(v0.map Za).length,(0:Int)≤v1,v1<((n0:Nat):Int),n0=(v0.map Za).length,(v0.map Za)[Int.toNat v1]?=some (Za y104),n0=(v0.map Za).length,(0:Int)≤v1,v1<((n0:Nat):Int),n0=(v0.map Za).length,(v0.map Za)[Int.toNat v1]?=some (Za y106),n0=m_.2.length,(0:Int)≤v3,v3<((n0:Nat):Int),n0=m_.2.length,m_.2[Int.toNat v3]?=some (Za y108)])) (ZE zm zm) [0,1,2,4] [0] [(7,.cells (Za y102)),(11,.cells (Za y104)),(13,.cells (Za y106)),(15,.cells (Za y108))] kr kr kr (sound _ _) ⟨zt,hc101.1,z0,zt,(Zr (Zs _ hy102)),zt,hc103.1,z2,zt,(Zr (Zs _ hy104)),zt,hc105.1,z2,zt,(Zr (Zs _ hy106)),zt,hc107.1,z0,zt,(Zr (Zs _ hy108)),trivial⟩ ?_
 refine WA.seq ?_
 refine WA.reg [0,1,4,12,13] [0] [] (env':=[(0,.val false [.arr 0 n0]),(1,one (.int .i64 v1)),(4,.val false [.pv (.fn 104)]),(12,one (.int .i64 (w64 (v1+1)))),(13,one (.int .i64 (w64 (v2-1))))]) (os':=[(0,.arr 2 (((v0.set (Int.toNat v1) y102).set (Int.toNat v3) y104).map Za))]) (O:=[]) kr (sound _ _) trivial ?_
 refine WA.seq ?_
 refine WA.block ?_
 refine WA.loop (fun m s_=>∃(v126:Int),Zl s_.env [0,1,4,12,13]=[(0,.val false [.arr 0 n0]),(1,one (.int .i64 v1)),(4,.val false [.pv (.fn 104)]),(12,one (.int .i64 v126)),(13,one (.int .i64 (w64 (v2-1))))]∧Zl s_.os [0]=[(0,.arr 2 (((v0.set (Int.toNat v1) y102).set (Int.toNat v3) y104).map Za))]∧Zb5 k v0 v1 v2 v3 y102 y104 m v126=some r) k ⟨(w64 (v1+1)),kr,kr,hF⟩ ?_
 clear hF
 rintro m2 s_ ⟨v126,he,ho,hF⟩
 refine WA.keep _ _ he ho ?_
 clear he ho
 cases m2 with
 | zero=>cases hF
 | succ m2=>
  obtain ⟨self2,hself2⟩:∃g,g=Zb5 k v0 v1 v2 v3 y102 y104 m2:=⟨_,rfl⟩
  have hF:Zgn k self2 v0 v1 v2 v3 y102 y104 v126=some r:=by first | (rw [hself2];exact hF) | exact hF
  refine WA.seq ?_
  refine WA.join (fun s_=>∃(v133:Bool),Zl s_.env [0,1,4,12,13,47]=[(0,.val false [.arr 0 n0]),(1,one (.int .i64 v1)),(4,.val false [.pv (.fn 104)]),(12,one (.int .i64 v126)),(13,one (.int .i64 (w64 (v2-1)))),(47,one (.bool v133))]∧Zl s_.os [0]=[(0,.arr 2 (((v0.set (Int.toNat v1) y102).set (Int.toNat v3) y104).map Za))]∧Zdg k self2 v0 v1 v2 v3 y102 y104 v126 v133=some r) ?_ ?_
  {
 rintro s_ ⟨v133,he,ho,hF⟩
 refine WA.keep _ _ he ho ?_
 clear he ho
 refine WA.cond (b:=v133) rfl (fun hb134=>?_) (fun hb134=>?_)
 {
 have hF:=Zk hF hb134
 refine WA.skip ?_
 refine WA.block ?_
 refine WA.reg [0,1,4,12,13] [0] [] (env':=[(0,.val false [.arr 0 n0]),(1,one (.int .i64 v1)),(4,.val false [.pv (.fn 104)]),(12,one (.int .i64 (w64 (v126+1)))),(13,one (.int .i64 (w64 (v2-1))))]) (os':=[(0,.arr 2 (((v0.set (Int.toNat v1) y102).set (Int.toNat v3) y104).map Za))]) (O:=[]) kr (sound _ _) trivial ?_
 exact ⟨m2,Nat.lt_succ_self _,(w64 (v126+1)),kr,kr,by rw [hself2] at hF;exact hF⟩ }
 {
 have hF:=Zj hF hb134
 refine WA.exit ?_
 refine WA.seq ?_
 refine WA.block ?_
 refine WA.loop (fun m s_=>∃(v152:Int),Zl s_.env [0,1,4,12,13]=[(0,.val false [.arr 0 n0]),(1,one (.int .i64 v1)),(4,.val false [.pv (.fn 104)]),(12,one (.int .i64 v126)),(13,one (.int .i64 v152))]∧Zl s_.os [0]=[(0,.arr 2 (((v0.set (Int.toNat v1) y102).set (Int.toNat v3) y104).map Za))]∧Zbf k v0 v1 v3 y102 y104 v126 m v152=some r) k ⟨(w64 (v2-1)),kr,kr,hF⟩ ?_
 clear hF
 rintro m6 s_ ⟨v152,he,ho,hF⟩
 refine WA.keep _ _ he ho ?_
 clear he ho
 cases m6 with
 | zero=>cases hF
 | succ m6=>
  obtain ⟨self6,hself6⟩:∃g,g=Zbf k v0 v1 v3 y102 y104 v126 m6:=⟨_,rfl⟩
  have hF:Zgo k self6 v0 v1 v3 y102 y104 v126 v152=some r:=by first | (rw [hself6];exact hF) | exact hF
  refine WA.seq ?_
  refine WA.join (fun s_=>∃(v159:Bool),Zl s_.env [0,1,4,12,13,66]=[(0,.val false [.arr 0 n0]),(1,one (.int .i64 v1)),(4,.val false [.pv (.fn 104)]),(12,one (.int .i64 v126)),(13,one (.int .i64 v152)),(66,one (.bool v159))]∧Zl s_.os [0]=[(0,.arr 2 (((v0.set (Int.toNat v1) y102).set (Int.toNat v3) y104).map Za))]∧Zdh k self6 v0 v1 v3 y102 y104 v126 v152 v159=some r) ?_ ?_
  {
 rintro s_ ⟨v159,he,ho,hF⟩
 refine WA.keep _ _ he ho ?_
 clear he ho
 refine WA.cond (b:=v159) rfl (fun hb160=>?_) (fun hb160=>?_)
 {
 have hF:=Zk hF hb160
 refine WA.skip ?_
 refine WA.block ?_
 refine WA.reg [0,1,4,12,13] [0] [] (env':=[(0,.val false [.arr 0 n0]),(1,one (.int .i64 v1)),(4,.val false [.pv (.fn 104)]),(12,one (.int .i64 v126)),(13,one (.int .i64 (w64 (v152-1))))]) (os':=[(0,.arr 2 (((v0.set (Int.toNat v1) y102).set (Int.toNat v3) y104).map Za))]) (O:=[]) kr (sound _ _) trivial ?_
 exact ⟨m6,Nat.lt_succ_self _,(w64 (v152-1)),kr,kr,by rw [hself6] at hF;exact hF⟩ }
 {
 have hF:=Zj hF hb160
 refine WA.exit ?_
 refine WA.seq ?_
 refine WA.seq ?_
 refine WA.reg [0,1,4,12,13,71] [0] [] (env':=[(0,.val false [.arr 0 n0]),(1,one (.int .i64 v1)),(4,.val false [.pv (.fn 104)]),(12,one (.int .i64 v126)),(13,one (.int .i64 v152)),(71,one (.bool (decide (v126 > v152))))]) (os':=[(0,.arr 2 (((v0.set (Int.toNat v1) y102).set (Int.toNat v3) y104).map Za))]) (O:=[]) kr (sound _ _) trivial ?_
 refine WA.cond (b:=(decide (v126 > v152))) rfl (fun hb161=>?_) (fun hb161=>?_)
 {
 have hF:=Zk hF hb161
 refine WA.seq ?_
 obtain ⟨hc162,hF⟩:=Zo hF
 obtain ⟨y163,hy163,hF⟩:=bind_some hF
 obtain ⟨hc164,hF⟩:=Zo hF
 obtain ⟨y165,hy165,hF⟩:=bind_some hF
 obtain ⟨hc166,hF⟩:=Zo hF
 obtain ⟨y167,hy167,hF⟩:=bind_some hF
 obtain ⟨hc168,hF⟩:=Zo hF
 obtain ⟨y169,hy169,hF⟩:=bind_some hF
 have z0:v1<((n0:Nat):Int):=(by have h_:=hc162.2;(try simp only [zl,Zh] at h_ ⊢);omega)
 have z2:v152<((n0:Nat):Int):=(by have h_:=hc164.2;(try simp only [zl,Zh] at h_ ⊢);omega)
 refine WA.rdm (α:=(List (List PV))×(List (List PV))) (raw:=((((((v0.set (Int.toNat v1) y102).set (Int.toNat v3) y104).map Za).set (Int.toNat v152) (Za y163)).set (Int.toNat v1) (Za y165)),((((v0.set (Int.toNat v1) y102).set (Int.toNat v3) y104).map Za).set (Int.toNat v152) (Za y163)))) (can:=((((((v0.set (Int.toNat v1) y102).set (Int.toNat v3) y104).set (Int.toNat v152) y163).set (Int.toNat v1) y165).map Za),((((v0.set (Int.toNat v1) y102).set (Int.toNat v3) y104).set (Int.toNat v152) y163).map Za))) (fun m_=>([(13,one (.int .i64 v152))],[(0,.arr 2 m_.1)],[n0=(((v0.set (Int.toNat v1) y102).set (Int.toNat v3) y104).map Za).length,(0:Int)≤v1,v1<((n0:Nat):Int),n0=(((v0.set (Int.toNat v1) y102).set (Int.toNat v3) y104).map Za).length,(((v0.set (Int.toNat v1) y102).set (Int.toNat v3) y104).map Za)[Int.toNat v1]?=some (Za y163),n0=(((v0.set (Int.toNat v1) y102).set (Int.toNat v3) y104).map Za).length,(0:Int)≤v152,v152<((n0:Nat):Int),n0=(((v0.set (Int.toNat v1) y102).set (Int.toNat v3) y104).map Za).length,(((v0.set (Int.toNat v1) y102).set (Int.toNat v3) y104).map Za)[Int.toNat v152]?=some (Za y165),n0=(((v0.set (Int.toNat v1) y102).set (Int.toNat v3) y104).map Za).length,(0:Int)≤v152,v152<((n0:Nat):Int),n0=(((v0.set (Int.toNat v1) y102).set (Int.toNat v3) y104).map Za).length,(((v0.set (Int.toNat v1) y102).set (Int.toNat v3) y104).map Za)[Int.toNat v152]?=some (Za y167),n0=m_.2.length,(0:Int)≤v1,v1<((n0:Nat):Int),n0=m_.2.length,m_.2[Int.toNat v1]?=some (Za y169)])) (ZE zm zm) [13] [0] [(7,.cells (Za y163)),(11,.cells (Za y165)),(13,.cells (Za y167)),(15,.cells (Za y169))] kr kr kr (sound _ _) ⟨zt,hc162.1,z0,zt,(Zr (Zs _ hy163)),zt,hc164.1,z2,zt,(Zr (Zs _ hy165)),zt,hc166.1,z2,zt,(Zr (Zs _ hy167)),zt,hc168.1,z0,zt,(Zr (Zs _ hy169)),trivial⟩ ?_
 refine WA.seq ?_
 refine WA.reg [10,11] [0] [] (env':=[(10,one (.int .i64 v152)),(11,one (.bool true))]) (os':=[(0,.arr 2 (((((v0.set (Int.toNat v1) y102).set (Int.toNat v3) y104).set (Int.toNat v152) y163).set (Int.toNat v1) y165).map Za))]) (O:=[]) kr (sound _ _) trivial ?_
 refine WA.ret ?_
 obtain rfl:=Option.some.inj hF
 exact Zp (.tup [(false,[.pv (.int .i64 v152)]),(false,[.pv (.bool true)])]) [.arr 2 (((((v0.set (Int.toNat v1) y102).set (Int.toNat v3) y104).set (Int.toNat v152) y163).set (Int.toNat v1) y165).map Za)] kr kr kr kr (by decide) rfl rfl }
 {
 have hF:=Zj hF hb161
 refine WA.skip ?_
 refine WA.seq ?_
 obtain ⟨hc170,hF⟩:=Zo hF
 obtain ⟨y171,hy171,hF⟩:=bind_some hF
 obtain ⟨hc172,hF⟩:=Zo hF
 obtain ⟨y173,hy173,hF⟩:=bind_some hF
 obtain ⟨hc174,hF⟩:=Zo hF
 obtain ⟨y175,hy175,hF⟩:=bind_some hF
 obtain ⟨hc176,hF⟩:=Zo hF
 obtain ⟨y177,hy177,hF⟩:=bind_some hF
 have z0:v152<((n0:Nat):Int):=(by have h_:=hc170.2;(try simp only [zl,Zh] at h_ ⊢);omega)
 have z2:v126<((n0:Nat):Int):=(by have h_:=hc172.2;(try simp only [zl,Zh] at h_ ⊢);omega)
 refine WA.rdm (α:=(List (List PV))×(List (List PV))) (raw:=((((((v0.set (Int.toNat v1) y102).set (Int.toNat v3) y104).map Za).set (Int.toNat v126) (Za y171)).set (Int.toNat v152) (Za y173)),((((v0.set (Int.toNat v1) y102).set (Int.toNat v3) y104).map Za).set (Int.toNat v126) (Za y171)))) (can:=((((((v0.set (Int.toNat v1) y102).set (Int.toNat v3) y104).set (Int.toNat v126) y171).set (Int.toNat v152) y173).map Za),((((v0.set (Int.toNat v1) y102).set (Int.toNat v3) y104).set (Int.toNat v126) y171).map Za))) (fun m_=>([(0,.val false [.arr 0 n0]),(1,one (.int .i64 v1)),(4,.val false [.pv (.fn 104)]),(12,one (.int .i64 v126)),(13,one (.int .i64 v152))],[(0,.arr 2 m_.1)],[n0=(((v0.set (Int.toNat v1) y102).set (Int.toNat v3) y104).map Za).length,(0:Int)≤v152,v152<((n0:Nat):Int),n0=(((v0.set (Int.toNat v1) y102).set (Int.toNat v3) y104).map Za).length,(((v0.set (Int.toNat v1) y102).set (Int.toNat v3) y104).map Za)[Int.toNat v152]?=some (Za y171),n0=(((v0.set (Int.toNat v1) y102).set (Int.toNat v3) y104).map Za).length,(0:Int)≤v126,v126<((n0:Nat):Int),n0=(((v0.set (Int.toNat v1) y102).set (Int.toNat v3) y104).map Za).length,(((v0.set (Int.toNat v1) y102).set (Int.toNat v3) y104).map Za)[Int.toNat v126]?=some (Za y173),n0=(((v0.set (Int.toNat v1) y102).set (Int.toNat v3) y104).map Za).length,(0:Int)≤v126,v126<((n0:Nat):Int),n0=(((v0.set (Int.toNat v1) y102).set (Int.toNat v3) y104).map Za).length,(((v0.set (Int.toNat v1) y102).set (Int.toNat v3) y104).map Za)[Int.toNat v126]?=some (Za y175),n0=m_.2.length,(0:Int)≤v152,v152<((n0:Nat):Int),n0=m_.2.length,m_.2[Int.toNat v152]?=some (Za y177)])) (ZE zm zm) [0,1,4,12,13] [0] [(7,.cells (Za y171)),(11,.cells (Za y173)),(13,.cells (Za y175)),(15,.cells (Za y177))] kr kr kr (sound _ _) ⟨zt,hc170.1,z0,zt,(Zr (Zs _ hy171)),zt,hc172.1,z2,zt,(Zr (Zs _ hy173)),zt,hc174.1,z2,zt,(Zr (Zs _ hy175)),zt,hc176.1,z0,zt,(Zr (Zs _ hy177)),trivial⟩ ?_
 refine WA.seq ?_
 refine WA.reg [0,1,4,12,13] [0] [] (env':=[(0,.val false [.arr 0 n0]),(1,one (.int .i64 v1)),(4,.val false [.pv (.fn 104)]),(12,one (.int .i64 (w64 (v126+1)))),(13,one (.int .i64 v152))]) (os':=[(0,.arr 2 (((((v0.set (Int.toNat v1) y102).set (Int.toNat v3) y104).set (Int.toNat v126) y171).set (Int.toNat v152) y173).map Za))]) (O:=[]) kr (sound _ _) trivial ?_
 refine WA.seq ?_
 refine WA.reg [0,1,4,12,13] [0] [] (env':=[(0,.val false [.arr 0 n0]),(1,one (.int .i64 v1)),(4,.val false [.pv (.fn 104)]),(12,one (.int .i64 (w64 (v126+1)))),(13,one (.int .i64 (w64 (v152-1))))]) (os':=[(0,.arr 2 (((((v0.set (Int.toNat v1) y102).set (Int.toNat v3) y104).set (Int.toNat v126) y171).set (Int.toNat v152) y173).map Za))]) (O:=[]) kr (sound _ _) trivial ?_
 refine WA.seq ?_
 refine WA.block ?_
 refine WA.loop (fun m s_=>∃(v304:List Zb) (v305:Nat) (v306:Int) (v307:Int),Zl s_.env [0,1,4,12,13]=[(0,.val false [.arr 0 v305]),(1,one (.int .i64 v1)),(4,.val false [.pv (.fn 104)]),(12,one (.int .i64 v306)),(13,one (.int .i64 v307))]∧Zl s_.os [0]=[(0,.arr 2 (v304.map Za))]∧v305=(v304:List _).length∧ZaB k v1 m v304 v306 v307=some r) k ⟨((((v0.set (Int.toNat v1) y102).set (Int.toNat v3) y104).set (Int.toNat v126) y171).set (Int.toNat v152) y173),n0,(w64 (v126+1)),(w64 (v152-1)),kr,kr,zt,hF⟩ ?_
 clear hF
 rintro m24 s_ ⟨v304,v305,v306,v307,he,ho,hn_v305,hF⟩
 refine WA.keep _ _ he ho ?_
 clear he ho
 cases m24 with
 | zero=>cases hF
 | succ m24=>
  obtain ⟨self24,hself24⟩:∃g,g=ZaB k v1 m24:=⟨_,rfl⟩
  have hF:ZjF k self24 v1 v304 v306 v307=some r:=by first | (rw [hself24];exact hF) | exact hF
  refine WA.block ?_
  refine WA.seq ?_
  refine WA.block ?_
  refine WA.loop (fun m s_=>∃(v325:Int),Zl s_.env [0,1,4,12,13]=[(0,.val false [.arr 0 v305]),(1,one (.int .i64 v1)),(4,.val false [.pv (.fn 104)]),(12,one (.int .i64 v325)),(13,one (.int .i64 v307))]∧Zl s_.os [0]=[(0,.arr 2 (v304.map Za))]∧Zbp k self24 v1 v304 v307 m v325=some r) k ⟨v306,kr,kr,hF⟩ ?_
  clear hF
  rintro m27 s_ ⟨v325,he,ho,hF⟩
  refine WA.keep _ _ he ho ?_
  clear he ho
  cases m27 with
  | zero=>cases hF
  | succ m27=>
   obtain ⟨self27,hself27⟩:∃g,g=Zbp k self24 v1 v304 v307 m27:=⟨_,rfl⟩
   have hF:Ze5 k self24 self27 v1 v304 v307 v325=some r:=by first | (rw [hself27];exact hF) | exact hF
   refine WA.seq ?_
   refine WA.join (fun s_=>∃(v332:Bool),Zl s_.env [0,1,4,12,13,120]=[(0,.val false [.arr 0 v305]),(1,one (.int .i64 v1)),(4,.val false [.pv (.fn 104)]),(12,one (.int .i64 v325)),(13,one (.int .i64 v307)),(120,one (.bool v332))]∧Zl s_.os [0]=[(0,.arr 2 (v304.map Za))]∧Ze7 k self24 self27 v1 v304 v307 v325 v332=some r) ?_ ?_
   {
 rintro s_ ⟨v332,he,ho,hF⟩
 refine WA.keep _ _ he ho ?_
 clear he ho
 refine WA.cond (b:=v332) rfl (fun hb333=>?_) (fun hb333=>?_)
 {
 have hF:=Zk hF hb333
 refine WA.skip ?_
 refine WA.block ?_
 refine WA.reg [0,1,4,12,13] [0] [] (env':=[(0,.val false [.arr 0 v305]),(1,one (.int .i64 v1)),(4,.val false [.pv (.fn 104)]),(12,one (.int .i64 (w64 (v325+1)))),(13,one (.int .i64 v307))]) (os':=[(0,.arr 2 (v304.map Za))]) (O:=[]) kr (sound _ _) trivial ?_
 exact ⟨m27,Nat.lt_succ_self _,(w64 (v325+1)),kr,kr,by rw [hself27] at hF;exact hF⟩ }
 {
 have hF:=Zj hF hb333
 refine WA.exit ?_
 refine WA.seq ?_
 refine WA.block ?_
 refine WA.loop (fun m s_=>∃(v351:Int),Zl s_.env [0,1,4,12,13]=[(0,.val false [.arr 0 v305]),(1,one (.int .i64 v1)),(4,.val false [.pv (.fn 104)]),(12,one (.int .i64 v325)),(13,one (.int .i64 v351))]∧Zl s_.os [0]=[(0,.arr 2 (v304.map Za))]∧Zbq k self24 v1 v304 v325 m v351=some r) k ⟨v307,kr,kr,hF⟩ ?_
 clear hF
 rintro m31 s_ ⟨v351,he,ho,hF⟩
 refine WA.keep _ _ he ho ?_
 clear he ho
 cases m31 with
 | zero=>cases hF
 | succ m31=>
  obtain ⟨self31,hself31⟩:∃g,g=Zbq k self24 v1 v304 v325 m31:=⟨_,rfl⟩
  have hF:Ze6 k self24 self31 v1 v304 v325 v351=some r:=by first | (rw [hself31];exact hF) | exact hF
  refine WA.seq ?_
  refine WA.join (fun s_=>∃(v358:Bool),Zl s_.env [0,1,4,12,13,139]=[(0,.val false [.arr 0 v305]),(1,one (.int .i64 v1)),(4,.val false [.pv (.fn 104)]),(12,one (.int .i64 v325)),(13,one (.int .i64 v351)),(139,one (.bool v358))]∧Zl s_.os [0]=[(0,.arr 2 (v304.map Za))]∧ZbX self24 self31 v1 v304 v325 v351 v358=some r) ?_ ?_
  {
 rintro s_ ⟨v358,he,ho,hF⟩
 refine WA.keep _ _ he ho ?_
 clear he ho
 refine WA.cond (b:=v358) rfl (fun hb359=>?_) (fun hb359=>?_)
 {
 have hF:=Zk hF hb359
 refine WA.skip ?_
 refine WA.block ?_
 refine WA.reg [0,1,4,12,13] [0] [] (env':=[(0,.val false [.arr 0 v305]),(1,one (.int .i64 v1)),(4,.val false [.pv (.fn 104)]),(12,one (.int .i64 v325)),(13,one (.int .i64 (w64 (v351-1))))]) (os':=[(0,.arr 2 (v304.map Za))]) (O:=[]) kr (sound _ _) trivial ?_
 exact ⟨m31,Nat.lt_succ_self _,(w64 (v351-1)),kr,kr,by rw [hself31] at hF;exact hF⟩ }
 {
 have hF:=Zj hF hb359
 refine WA.exit ?_
 refine WA.seq ?_
 refine WA.seq ?_
 refine WA.reg [0,1,4,12,13,144] [0] [] (env':=[(0,.val false [.arr 0 v305]),(1,one (.int .i64 v1)),(4,.val false [.pv (.fn 104)]),(12,one (.int .i64 v325)),(13,one (.int .i64 v351)),(144,one (.bool (decide (v325 > v351))))]) (os':=[(0,.arr 2 (v304.map Za))]) (O:=[]) kr (sound _ _) trivial ?_
 refine WA.cond (b:=(decide (v325 > v351))) rfl (fun hb360=>?_) (fun hb360=>?_)
 {
 have hF:=Zk hF hb360
 refine WA.exit ?_
 refine WA.seq ?_
 obtain ⟨hc369,hF⟩:=Zo hF
 obtain ⟨y370,hy370,hF⟩:=bind_some hF
 obtain ⟨hc371,hF⟩:=Zo hF
 obtain ⟨y372,hy372,hF⟩:=bind_some hF
 obtain ⟨hc373,hF⟩:=Zo hF
 obtain ⟨y374,hy374,hF⟩:=bind_some hF
 obtain ⟨hc375,hF⟩:=Zo hF
 obtain ⟨y376,hy376,hF⟩:=bind_some hF
 have z0:v1<((v305:Nat):Int):=(by have h_:=hc369.2;(try simp only [zl,Zh] at h_ ⊢);omega)
 have z2:v351<((v305:Nat):Int):=(by have h_:=hc371.2;(try simp only [zl,Zh] at h_ ⊢);omega)
 refine WA.rdm (α:=(List (List PV))×(List (List PV))) (raw:=((((v304.map Za).set (Int.toNat v351) (Za y370)).set (Int.toNat v1) (Za y372)),((v304.map Za).set (Int.toNat v351) (Za y370)))) (can:=((((v304.set (Int.toNat v351) y370).set (Int.toNat v1) y372).map Za),((v304.set (Int.toNat v351) y370).map Za))) (fun m_=>([(13,one (.int .i64 v351))],[(0,.arr 2 m_.1)],[v305=(v304.map Za).length,(0:Int)≤v1,v1<((v305:Nat):Int),v305=(v304.map Za).length,(v304.map Za)[Int.toNat v1]?=some (Za y370),v305=(v304.map Za).length,(0:Int)≤v351,v351<((v305:Nat):Int),v305=(v304.map Za).length,(v304.map Za)[Int.toNat v351]?=some (Za y372),v305=(v304.map Za).length,(0:Int)≤v351,v351<((v305:Nat):Int),v305=(v304.map Za).length,(v304.map Za)[Int.toNat v351]?=some (Za y374),v305=m_.2.length,(0:Int)≤v1,v1<((v305:Nat):Int),v305=m_.2.length,m_.2[Int.toNat v1]?=some (Za y376)])) (ZE zm zm) [13] [0] [(7,.cells (Za y370)),(11,.cells (Za y372)),(13,.cells (Za y374)),(15,.cells (Za y376))] kr kr kr (sound _ _) ⟨zt,hc369.1,z0,zt,(Zr (Zs _ hy370)),zt,hc371.1,z2,zt,(Zr (Zs _ hy372)),zt,hc373.1,z2,zt,(Zr (Zs _ hy374)),zt,hc375.1,z0,zt,(Zr (Zs _ hy376)),trivial⟩ ?_
 refine WA.seq ?_
 refine WA.reg [10,11] [0] [] (env':=[(10,one (.int .i64 v351)),(11,one (.bool false))]) (os':=[(0,.arr 2 (((v304.set (Int.toNat v351) y370).set (Int.toNat v1) y372).map Za))]) (O:=[]) kr (sound _ _) trivial ?_
 refine WA.ret ?_
 obtain rfl:=Option.some.inj hF
 exact Zp (.tup [(false,[.pv (.int .i64 v351)]),(false,[.pv (.bool false)])]) [.arr 2 (((v304.set (Int.toNat v351) y370).set (Int.toNat v1) y372).map Za)] kr kr kr kr (by decide) rfl rfl }
 {
 have hF:=Zj hF hb360
 refine WA.skip ?_
 refine WA.seq ?_
 obtain ⟨hc361,hF⟩:=Zo hF
 obtain ⟨y362,hy362,hF⟩:=bind_some hF
 obtain ⟨hc363,hF⟩:=Zo hF
 obtain ⟨y364,hy364,hF⟩:=bind_some hF
 obtain ⟨hc365,hF⟩:=Zo hF
 obtain ⟨y366,hy366,hF⟩:=bind_some hF
 obtain ⟨hc367,hF⟩:=Zo hF
 obtain ⟨y368,hy368,hF⟩:=bind_some hF
 have z0:v351<((v305:Nat):Int):=(by have h_:=hc361.2;(try simp only [zl,Zh] at h_ ⊢);omega)
 have z2:v325<((v305:Nat):Int):=(by have h_:=hc363.2;(try simp only [zl,Zh] at h_ ⊢);omega)
 refine WA.rdm (α:=(List (List PV))×(List (List PV))) (raw:=((((v304.map Za).set (Int.toNat v325) (Za y362)).set (Int.toNat v351) (Za y364)),((v304.map Za).set (Int.toNat v325) (Za y362)))) (can:=((((v304.set (Int.toNat v325) y362).set (Int.toNat v351) y364).map Za),((v304.set (Int.toNat v325) y362).map Za))) (fun m_=>([(0,.val false [.arr 0 v305]),(1,one (.int .i64 v1)),(4,.val false [.pv (.fn 104)]),(12,one (.int .i64 v325)),(13,one (.int .i64 v351))],[(0,.arr 2 m_.1)],[v305=(v304.map Za).length,(0:Int)≤v351,v351<((v305:Nat):Int),v305=(v304.map Za).length,(v304.map Za)[Int.toNat v351]?=some (Za y362),v305=(v304.map Za).length,(0:Int)≤v325,v325<((v305:Nat):Int),v305=(v304.map Za).length,(v304.map Za)[Int.toNat v325]?=some (Za y364),v305=(v304.map Za).length,(0:Int)≤v325,v325<((v305:Nat):Int),v305=(v304.map Za).length,(v304.map Za)[Int.toNat v325]?=some (Za y366),v305=m_.2.length,(0:Int)≤v351,v351<((v305:Nat):Int),v305=m_.2.length,m_.2[Int.toNat v351]?=some (Za y368)])) (ZE zm zm) [0,1,4,12,13] [0] [(7,.cells (Za y362)),(11,.cells (Za y364)),(13,.cells (Za y366)),(15,.cells (Za y368))] kr kr kr (sound _ _) ⟨zt,hc361.1,z0,zt,(Zr (Zs _ hy362)),zt,hc363.1,z2,zt,(Zr (Zs _ hy364)),zt,hc365.1,z2,zt,(Zr (Zs _ hy366)),zt,hc367.1,z0,zt,(Zr (Zs _ hy368)),trivial⟩ ?_
 refine WA.seq ?_
 refine WA.reg [0,1,4,12,13] [0] [] (env':=[(0,.val false [.arr 0 v305]),(1,one (.int .i64 v1)),(4,.val false [.pv (.fn 104)]),(12,one (.int .i64 (w64 (v325+1)))),(13,one (.int .i64 v351))]) (os':=[(0,.arr 2 (((v304.set (Int.toNat v325) y362).set (Int.toNat v351) y364).map Za))]) (O:=[]) kr (sound _ _) trivial ?_
 refine WA.reg [0,1,4,12,13] [0] [] (env':=[(0,.val false [.arr 0 v305]),(1,one (.int .i64 v1)),(4,.val false [.pv (.fn 104)]),(12,one (.int .i64 (w64 (v325+1)))),(13,one (.int .i64 (w64 (v351-1))))]) (os':=[(0,.arr 2 (((v304.set (Int.toNat v325) y362).set (Int.toNat v351) y364).map Za))]) (O:=[]) kr (sound _ _) trivial ?_
 exact ⟨m24,Nat.lt_succ_self _,((v304.set (Int.toNat v325) y362).set (Int.toNat v351) y364),v305,(w64 (v325+1)),(w64 (v351-1)),kr,kr,zt,by rw [hself24] at hF;exact hF⟩ } } }
  {
 rcases Bool.eq_false_or_eq_true (decide (v325≤v351)) with hb352 | hb352
 {
 have hF:=Zk hF hb352
 obtain ⟨hc353,hF⟩:=Zo hF
 obtain ⟨y354,hy354,hF⟩:=bind_some hF
 obtain ⟨hc355,hF⟩:=Zo hF
 obtain ⟨y356,hy356,hF⟩:=bind_some hF
 obtain ⟨y357,hy357,hF⟩:=bind_some hF
 refine WA.regD kr [0,1,4,12,13,139] [0] [(3,.bool true),(8,.cells (Za y354)),(12,.cells (Za y356)),(13,.callR [] (one (.int .i64 y357)))] (env':=[(0,.val false [.arr 0 v305]),(1,one (.int .i64 v1)),(4,.val false [.pv (.fn 104)]),(12,one (.int .i64 v325)),(13,one (.int .i64 v351)),(139,one (.bool (!(decide (y357<0)))))]) (os':=[(0,.arr 2 (v304.map Za))]) (O:=[(decide (v325≤v351))=true,v305=(v304.map Za).length,(0:Int)≤v351,v351<((v305:Nat):Int),v305=(v304.map Za).length,(v304.map Za)[Int.toNat v351]?=some (Za y354),v305=(v304.map Za).length,(0:Int)≤v1,v1<((v305:Nat):Int),v305=(v304.map Za).length,(v304.map Za)[Int.toNat v1]?=some (Za y356),Sim Tryz.prog GL0 104 [.val true (pvL (Za y354)),.val true (pvL (Za y356))] [] (one (.int .i64 y357)) [],([]:List Nat).Nodup]) kr kr (sound _ _) ⟨hb352,zt,hc353.1,(by have h_:=hc353.2;(try simp only [zl,Zh] at h_ ⊢);omega),zt,(Zr (Zs _ hy354)),zt,hc355.1,(by have h_:=hc355.2;(try simp only [zl,Zh] at h_ ⊢);omega),zt,(Zr (Zs _ hy356)),(Zap k _ _ _ hy357),(by decide),trivial⟩ ?_
 exact ⟨(!(decide (y357<0))),kr,kr,hF⟩ }
 {
 have hF:=Zj hF hb352
 refine WA.regD kr [0,1,4,12,13,139] [0] [(3,.bool false),(13,.callR [] (.tup []))] (env':=[(0,.val false [.arr 0 v305]),(1,one (.int .i64 v1)),(4,.val false [.pv (.fn 104)]),(12,one (.int .i64 v325)),(13,one (.int .i64 v351)),(139,one (.bool false))]) (os':=[(0,.arr 2 (v304.map Za))]) (O:=[(decide (v325≤v351))=false]) kr kr (sound _ _) ⟨hb352,trivial⟩ ?_
 exact ⟨false,kr,kr,hF⟩ } } } }
   {
 rcases Bool.eq_false_or_eq_true (decide (v325≤v307)) with hb326 | hb326
 {
 have hF:=Zk hF hb326
 obtain ⟨hc327,hF⟩:=Zo hF
 obtain ⟨y328,hy328,hF⟩:=bind_some hF
 obtain ⟨hc329,hF⟩:=Zo hF
 obtain ⟨y330,hy330,hF⟩:=bind_some hF
 obtain ⟨y331,hy331,hF⟩:=bind_some hF
 refine WA.regD kr [0,1,4,12,13,120] [0] [(3,.bool true),(8,.cells (Za y328)),(12,.cells (Za y330)),(13,.callR [] (one (.int .i64 y331)))] (env':=[(0,.val false [.arr 0 v305]),(1,one (.int .i64 v1)),(4,.val false [.pv (.fn 104)]),(12,one (.int .i64 v325)),(13,one (.int .i64 v307)),(120,one (.bool (decide (y331<0))))]) (os':=[(0,.arr 2 (v304.map Za))]) (O:=[(decide (v325≤v307))=true,v305=(v304.map Za).length,(0:Int)≤v325,v325<((v305:Nat):Int),v305=(v304.map Za).length,(v304.map Za)[Int.toNat v325]?=some (Za y328),v305=(v304.map Za).length,(0:Int)≤v1,v1<((v305:Nat):Int),v305=(v304.map Za).length,(v304.map Za)[Int.toNat v1]?=some (Za y330),Sim Tryz.prog GL0 104 [.val true (pvL (Za y328)),.val true (pvL (Za y330))] [] (one (.int .i64 y331)) [],([]:List Nat).Nodup]) kr kr (sound _ _) ⟨hb326,zt,hc327.1,(by have h_:=hc327.2;(try simp only [zl,Zh] at h_ ⊢);omega),zt,(Zr (Zs _ hy328)),zt,hc329.1,(by have h_:=hc329.2;(try simp only [zl,Zh] at h_ ⊢);omega),zt,(Zr (Zs _ hy330)),(Zap k _ _ _ hy331),(by decide),trivial⟩ ?_
 exact ⟨(decide (y331<0)),kr,kr,hF⟩ }
 {
 have hF:=Zj hF hb326
 refine WA.regD kr [0,1,4,12,13,120] [0] [(3,.bool false),(13,.callR [] (.tup []))] (env':=[(0,.val false [.arr 0 v305]),(1,one (.int .i64 v1)),(4,.val false [.pv (.fn 104)]),(12,one (.int .i64 v325)),(13,one (.int .i64 v307)),(120,one (.bool false))]) (os':=[(0,.arr 2 (v304.map Za))]) (O:=[(decide (v325≤v307))=false]) kr kr (sound _ _) ⟨hb326,trivial⟩ ?_
 exact ⟨false,kr,kr,hF⟩ } } } } }
  {
 rcases Bool.eq_false_or_eq_true (decide (v126≤v152)) with hb153 | hb153
 {
 have hF:=Zk hF hb153
 obtain ⟨hc154,hF⟩:=Zo hF
 obtain ⟨y155,hy155,hF⟩:=bind_some hF
 obtain ⟨hc156,hF⟩:=Zo hF
 obtain ⟨y157,hy157,hF⟩:=bind_some hF
 obtain ⟨y158,hy158,hF⟩:=bind_some hF
 refine WA.regD kr [0,1,4,12,13,66] [0] [(3,.bool true),(8,.cells (Za y155)),(12,.cells (Za y157)),(13,.callR [] (one (.int .i64 y158)))] (env':=[(0,.val false [.arr 0 n0]),(1,one (.int .i64 v1)),(4,.val false [.pv (.fn 104)]),(12,one (.int .i64 v126)),(13,one (.int .i64 v152)),(66,one (.bool (!(decide (y158<0)))))]) (os':=[(0,.arr 2 (((v0.set (Int.toNat v1) y102).set (Int.toNat v3) y104).map Za))]) (O:=[(decide (v126≤v152))=true,n0=(((v0.set (Int.toNat v1) y102).set (Int.toNat v3) y104).map Za).length,(0:Int)≤v152,v152<((n0:Nat):Int),n0=(((v0.set (Int.toNat v1) y102).set (Int.toNat v3) y104).map Za).length,(((v0.set (Int.toNat v1) y102).set (Int.toNat v3) y104).map Za)[Int.toNat v152]?=some (Za y155),n0=(((v0.set (Int.toNat v1) y102).set (Int.toNat v3) y104).map Za).length,(0:Int)≤v1,v1<((n0:Nat):Int),n0=(((v0.set (Int.toNat v1) y102).set (Int.toNat v3) y104).map Za).length,(((v0.set (Int.toNat v1) y102).set (Int.toNat v3) y104).map Za)[Int.toNat v1]?=some (Za y157),Sim Tryz.prog GL0 104 [.val true (pvL (Za y155)),.val true (pvL (Za y157))] [] (one (.int .i64 y158)) [],([]:List Nat).Nodup]) kr kr (sound _ _) ⟨hb153,zt,hc154.1,(by have h_:=hc154.2;(try simp only [zl,Zh] at h_ ⊢);omega),zt,(Zr (Zs _ hy155)),zt,hc156.1,(by have h_:=hc156.2;(try simp only [zl,Zh] at h_ ⊢);omega),zt,(Zr (Zs _ hy157)),(Zap k _ _ _ hy158),(by decide),trivial⟩ ?_
 exact ⟨(!(decide (y158<0))),kr,kr,hF⟩ }
 {
 have hF:=Zj hF hb153
 refine WA.regD kr [0,1,4,12,13,66] [0] [(3,.bool false),(13,.callR [] (.tup []))] (env':=[(0,.val false [.arr 0 n0]),(1,one (.int .i64 v1)),(4,.val false [.pv (.fn 104)]),(12,one (.int .i64 v126)),(13,one (.int .i64 v152)),(66,one (.bool false))]) (os':=[(0,.arr 2 (((v0.set (Int.toNat v1) y102).set (Int.toNat v3) y104).map Za))]) (O:=[(decide (v126≤v152))=false]) kr kr (sound _ _) ⟨hb153,trivial⟩ ?_
 exact ⟨false,kr,kr,hF⟩ } } } }
  {
 rcases Bool.eq_false_or_eq_true (decide (v126≤(w64 (v2-1)))) with hb127 | hb127
 {
 have hF:=Zk hF hb127
 obtain ⟨hc128,hF⟩:=Zo hF
 obtain ⟨y129,hy129,hF⟩:=bind_some hF
 obtain ⟨hc130,hF⟩:=Zo hF
 obtain ⟨y131,hy131,hF⟩:=bind_some hF
 obtain ⟨y132,hy132,hF⟩:=bind_some hF
 refine WA.regD kr [0,1,4,12,13,47] [0] [(3,.bool true),(8,.cells (Za y129)),(12,.cells (Za y131)),(13,.callR [] (one (.int .i64 y132)))] (env':=[(0,.val false [.arr 0 n0]),(1,one (.int .i64 v1)),(4,.val false [.pv (.fn 104)]),(12,one (.int .i64 v126)),(13,one (.int .i64 (w64 (v2-1)))),(47,one (.bool (decide (y132<0))))]) (os':=[(0,.arr 2 (((v0.set (Int.toNat v1) y102).set (Int.toNat v3) y104).map Za))]) (O:=[(decide (v126≤(w64 (v2-1))))=true,n0=(((v0.set (Int.toNat v1) y102).set (Int.toNat v3) y104).map Za).length,(0:Int)≤v126,v126<((n0:Nat):Int),n0=(((v0.set (Int.toNat v1) y102).set (Int.toNat v3) y104).map Za).length,(((v0.set (Int.toNat v1) y102).set (Int.toNat v3) y104).map Za)[Int.toNat v126]?=some (Za y129),n0=(((v0.set (Int.toNat v1) y102).set (Int.toNat v3) y104).map Za).length,(0:Int)≤v1,v1<((n0:Nat):Int),n0=(((v0.set (Int.toNat v1) y102).set (Int.toNat v3) y104).map Za).length,(((v0.set (Int.toNat v1) y102).set (Int.toNat v3) y104).map Za)[Int.toNat v1]?=some (Za y131),Sim Tryz.prog GL0 104 [.val true (pvL (Za y129)),.val true (pvL (Za y131))] [] (one (.int .i64 y132)) [],([]:List Nat).Nodup]) kr kr (sound _ _) ⟨hb127,zt,hc128.1,(by have h_:=hc128.2;(try simp only [zl,Zh] at h_ ⊢);omega),zt,(Zr (Zs _ hy129)),zt,hc130.1,(by have h_:=hc130.2;(try simp only [zl,Zh] at h_ ⊢);omega),zt,(Zr (Zs _ hy131)),(Zap k _ _ _ hy132),(by decide),trivial⟩ ?_
 exact ⟨(decide (y132<0)),kr,kr,hF⟩ }
 {
 have hF:=Zj hF hb127
 refine WA.regD kr [0,1,4,12,13,47] [0] [(3,.bool false),(13,.callR [] (.tup []))] (env':=[(0,.val false [.arr 0 n0]),(1,one (.int .i64 v1)),(4,.val false [.pv (.fn 104)]),(12,one (.int .i64 v126)),(13,one (.int .i64 (w64 (v2-1)))),(47,one (.bool false))]) (os':=[(0,.arr 2 (((v0.set (Int.toNat v1) y102).set (Int.toNat v3) y104).map Za))]) (O:=[(decide (v126≤(w64 (v2-1))))=false]) kr kr (sound _ _) ⟨hb127,trivial⟩ ?_
 exact ⟨false,kr,kr,hF⟩ } }
def Zcs (self16:(List Zb)→Int→Int→Option (Int×(List Zb))) (self23:Int→Option (Int×(List Zb))) (v235:List Zb) (v256:Int) (v282:Int) (v289:Bool):Option (Int×(List Zb)):=
  cond v289 ((self23 (w64 (v282-1)))) (((cond (decide (v256 > v282)) (((some (v256,v235)))) ((if (0:Int)≤v282∧v282<(v235.length:Int) then (idxL v235 v282).bind fun y293=>if (0:Int)≤v256∧v256<(v235.length:Int) then (idxL v235 v256).bind fun y295=>if (0:Int)≤v256∧v256<(v235.length:Int) then (idxL v235 v256).bind fun y297=>if (0:Int)≤v282∧v282<((v235.set (Int.toNat v256) y293).length:Int) then (idxL (v235.set (Int.toNat v256) y293) v282).bind fun y299=>((self16 ((v235.set (Int.toNat v256) y293).set (Int.toNat v282) y295) (w64 (v256+1)) (w64 (v282-1)))) else none else none else none else none)))))
def Ze3 (k:Nat) (self16:(List Zb)→Int→Int→Option (Int×(List Zb))) (self23:Int→Option (Int×(List Zb))) (v1:Int) (v235:List Zb) (v256:Int) (v282:Int):Option (Int×(List Zb)):=
  cond (decide (v256≤v282)) (if (0:Int)≤v1∧v1<(v235.length:Int) then (idxL v235 v1).bind fun y285=>if (0:Int)≤v282∧v282<(v235.length:Int) then (idxL v235 v282).bind fun y287=>(F104 k y285 y287).bind fun y288=>(Zcs self16 self23 v235 v256 v282 (decide (y288<0))) else none else none) ((Zcs self16 self23 v235 v256 v282 false))
def ZaR (k:Nat) (self16:(List Zb)→Int→Int→Option (Int×(List Zb))) (v1:Int) (v235:List Zb) (v256:Int):Nat→Int→Option (Int×(List Zb))
  | 0,_=>none
  | m_+1,v282=>Ze3 k self16 (ZaR k self16 v1 v235 v256 m_) v1 v235 v256 v282
def Ze4 (k:Nat) (self16:(List Zb)→Int→Int→Option (Int×(List Zb))) (self19:Int→Option (Int×(List Zb))) (v1:Int) (v235:List Zb) (v238:Int) (v256:Int) (v263:Bool):Option (Int×(List Zb)):=
  cond v263 ((self19 (w64 (v256+1)))) ((ZaR k self16 v1 v235 v256 k v238))
def Ze2 (k:Nat) (self16:(List Zb)→Int→Int→Option (Int×(List Zb))) (self19:Int→Option (Int×(List Zb))) (v1:Int) (v235:List Zb) (v238:Int) (v256:Int):Option (Int×(List Zb)):=
  cond (decide (v256≤v238)) (if (0:Int)≤v1∧v1<(v235.length:Int) then (idxL v235 v1).bind fun y259=>if (0:Int)≤v256∧v256<(v235.length:Int) then (idxL v235 v256).bind fun y261=>(F104 k y259 y261).bind fun y262=>(Ze4 k self16 self19 v1 v235 v238 v256 (!(decide (y262<0)))) else none else none) ((Ze4 k self16 self19 v1 v235 v238 v256 false))
def Zbo (k:Nat) (self16:(List Zb)→Int→Int→Option (Int×(List Zb))) (v1:Int) (v235:List Zb) (v238:Int):Nat→Int→Option (Int×(List Zb))
  | 0,_=>none
  | m_+1,v256=>Ze2 k self16 (Zbo k self16 v1 v235 v238 m_) v1 v235 v238 v256
def ZjE (k:Nat) (self16:(List Zb)→Int→Int→Option (Int×(List Zb))) (v1:Int) (v235:List Zb) (v237:Int) (v238:Int):Option (Int×(List Zb)):=
  Zbo k self16 v1 v235 v238 k v237
def ZaA (k:Nat) (v1:Int):Nat→(List Zb)→Int→Int→Option (Int×(List Zb))
  | 0,_,_,_=>none
  | m_+1,v235,v237,v238=>ZjE k (ZaA k v1 m_) v1 v235 v237 v238
def F155 (k:Nat) (v0:List Zb) (v1:Int) (v2:Int) (v3:Int):Option (Int×(List Zb)):=
  (if (0:Int)≤v3∧v3<(v0.length:Int) then (idxL v0 v3).bind fun y102=>if (0:Int)≤v1∧v1<(v0.length:Int) then (idxL v0 v1).bind fun y104=>if (0:Int)≤v1∧v1<(v0.length:Int) then (idxL v0 v1).bind fun y106=>if (0:Int)≤v3∧v3<((v0.set (Int.toNat v1) y102).length:Int) then (idxL (v0.set (Int.toNat v1) y102) v3).bind fun y108=>((ZaA k v1 k ((v0.set (Int.toNat v1) y102).set (Int.toNat v3) y104) (w64 (v1+1)) (w64 (v2-1)))) else none else none else none else none)
theorem Zn2 (k:Nat) (v0:List Zb) (v1:Int) (v2:Int) (v3:Int) (r:Int×(List Zb)) (hF:F155 k v0 v1 v2 v3=some r) {n0:Nat} (hn_n0:n0=v0.length):Sim Tryz.prog GL0 155 [.val false [.arr 0 n0],one (.int .i64 v1),one (.int .i64 v2),one (.int .i64 v3),.val false [.pv (.fn 104)]] [.arr 2 (v0.map Za)] (one (.int .i64 r.1)) [.arr 2 (r.2.map Za)]:=by
 refine ZB [0] Tryz.func155 rfl kr kr ?_
 show WA _ _ 90 _ _ _
 refine WA.seq ?_
 refine WA.reg [0,1,2,3,4] [0] [] (env':=[(0,.val false [.arr 0 n0]),(1,one (.int .i64 v1)),(2,one (.int .i64 v2)),(3,one (.int .i64 v3)),(4,.val false [.pv (.fn 104)])]) (os':=[(0,.arr 2 (v0.map Za))]) (O:=[]) kr (sound _ _) trivial ?_
 refine WA.seq ?_
 obtain ⟨hc101,hF⟩:=Zo hF
 obtain ⟨y102,hy102,hF⟩:=bind_some hF
 obtain ⟨hc103,hF⟩:=Zo hF
 obtain ⟨y104,hy104,hF⟩:=bind_some hF
 obtain ⟨hc105,hF⟩:=Zo hF
 obtain ⟨y106,hy106,hF⟩:=bind_some hF
 obtain ⟨hc107,hF⟩:=Zo hF
 obtain ⟨y108,hy108,hF⟩:=bind_some hF
 have z0:v3<((n0:Nat):Int):=(by have h_:=hc101.2;(try simp only [zl,Zh] at h_ ⊢);omega)
 have z2:v1<((n0:Nat):Int):=(by have h_:=hc103.2;(try simp only [zl,Zh] at h_ ⊢);omega)
 refine WA.rdm (α:=(List (List PV))×(List (List PV))) (raw:=((((v0.map Za).set (Int.toNat v1) (Za y102)).set (Int.toNat v3) (Za y104)),((v0.map Za).set (Int.toNat v1) (Za y102)))) (can:=((((v0.set (Int.toNat v1) y102).set (Int.toNat v3) y104).map Za),((v0.set (Int.toNat v1) y102).map Za))) (fun m_=>([(0,.val false [.arr 0 n0]),(1,one (.int .i64 v1)),(2,one (.int .i64 v2)),(4,.val false [.pv (.fn 104)])],[(0,.arr 2 m_.1)],[n0=(v0.map Za).length,(0:Int)≤v3,v3<((n0:Nat):Int),n0=(v0.map Za).length,(v0.map Za)[Int.toNat v3]?=some (Za y102),n0=(v0.map Za).length,(0:Int)≤v1,v1<((n0:Nat):Int),n0=(v0.map Za).length,(v0.map Za)[Int.toNat v1]?=some (Za y104),n0=(v0.map Za).length,(0:Int)≤v1,v1<((n0:Nat):Int),n0=(v0.map Za).length,(v0.map Za)[Int.toNat v1]?=some (Za y106),n0=m_.2.length,(0:Int)≤v3,v3<((n0:Nat):Int),n0=m_.2.length,m_.2[Int.toNat v3]?=some (Za y108)])) (ZE zm zm) [0,1,2,4] [0] [(7,.cells (Za y102)),(11,.cells (Za y104)),(13,.cells (Za y106)),(15,.cells (Za y108))] kr kr kr (sound _ _) ⟨zt,hc101.1,z0,zt,(Zr (Zs _ hy102)),zt,hc103.1,z2,zt,(Zr (Zs _ hy104)),zt,hc105.1,z2,zt,(Zr (Zs _ hy106)),zt,hc107.1,z0,zt,(Zr (Zs _ hy108)),trivial⟩ ?_
 refine WA.seq ?_
 refine WA.reg [0,1,4,11,12] [0] [] (env':=[(0,.val false [.arr 0 n0]),(1,one (.int .i64 v1)),(4,.val false [.pv (.fn 104)]),(11,one (.int .i64 (w64 (v1+1)))),(12,one (.int .i64 (w64 (v2-1))))]) (os':=[(0,.arr 2 (((v0.set (Int.toNat v1) y102).set (Int.toNat v3) y104).map Za))]) (O:=[]) kr (sound _ _) trivial ?_
 refine WA.seq ?_
 refine WA.block ?_
 refine WA.loop (fun m s_=>∃(v235:List Zb) (v236:Nat) (v237:Int) (v238:Int),Zl s_.env [0,1,4,11,12]=[(0,.val false [.arr 0 v236]),(1,one (.int .i64 v1)),(4,.val false [.pv (.fn 104)]),(11,one (.int .i64 v237)),(12,one (.int .i64 v238))]∧Zl s_.os [0]=[(0,.arr 2 (v235.map Za))]∧v236=(v235:List _).length∧ZaA k v1 m v235 v237 v238=some r) k ⟨((v0.set (Int.toNat v1) y102).set (Int.toNat v3) y104),n0,(w64 (v1+1)),(w64 (v2-1)),kr,kr,zt,hF⟩ ?_
 clear hF
 rintro m16 s_ ⟨v235,v236,v237,v238,he,ho,hn_v236,hF⟩
 refine WA.keep _ _ he ho ?_
 clear he ho
 cases m16 with
 | zero=>cases hF
 | succ m16=>
  obtain ⟨self16,hself16⟩:∃g,g=ZaA k v1 m16:=⟨_,rfl⟩
  have hF:ZjE k self16 v1 v235 v237 v238=some r:=by first | (rw [hself16];exact hF) | exact hF
  refine WA.block ?_
  refine WA.seq ?_
  refine WA.block ?_
  refine WA.loop (fun m s_=>∃(v256:Int),Zl s_.env [0,1,4,11,12]=[(0,.val false [.arr 0 v236]),(1,one (.int .i64 v1)),(4,.val false [.pv (.fn 104)]),(11,one (.int .i64 v256)),(12,one (.int .i64 v238))]∧Zl s_.os [0]=[(0,.arr 2 (v235.map Za))]∧Zbo k self16 v1 v235 v238 m v256=some r) k ⟨v237,kr,kr,hF⟩ ?_
  clear hF
  rintro m19 s_ ⟨v256,he,ho,hF⟩
  refine WA.keep _ _ he ho ?_
  clear he ho
  cases m19 with
  | zero=>cases hF
  | succ m19=>
   obtain ⟨self19,hself19⟩:∃g,g=Zbo k self16 v1 v235 v238 m19:=⟨_,rfl⟩
   have hF:Ze2 k self16 self19 v1 v235 v238 v256=some r:=by first | (rw [hself19];exact hF) | exact hF
   refine WA.seq ?_
   refine WA.join (fun s_=>∃(v263:Bool),Zl s_.env [0,1,4,11,12,47]=[(0,.val false [.arr 0 v236]),(1,one (.int .i64 v1)),(4,.val false [.pv (.fn 104)]),(11,one (.int .i64 v256)),(12,one (.int .i64 v238)),(47,one (.bool v263))]∧Zl s_.os [0]=[(0,.arr 2 (v235.map Za))]∧Ze4 k self16 self19 v1 v235 v238 v256 v263=some r) ?_ ?_
   {
 rintro s_ ⟨v263,he,ho,hF⟩
 refine WA.keep _ _ he ho ?_
 clear he ho
 refine WA.cond (b:=v263) rfl (fun hb264=>?_) (fun hb264=>?_)
 {
 have hF:=Zk hF hb264
 refine WA.skip ?_
 refine WA.block ?_
 refine WA.reg [0,1,4,11,12] [0] [] (env':=[(0,.val false [.arr 0 v236]),(1,one (.int .i64 v1)),(4,.val false [.pv (.fn 104)]),(11,one (.int .i64 (w64 (v256+1)))),(12,one (.int .i64 v238))]) (os':=[(0,.arr 2 (v235.map Za))]) (O:=[]) kr (sound _ _) trivial ?_
 exact ⟨m19,Nat.lt_succ_self _,(w64 (v256+1)),kr,kr,by rw [hself19] at hF;exact hF⟩ }
 {
 have hF:=Zj hF hb264
 refine WA.exit ?_
 refine WA.seq ?_
 refine WA.block ?_
 refine WA.loop (fun m s_=>∃(v282:Int),Zl s_.env [0,1,4,11,12]=[(0,.val false [.arr 0 v236]),(1,one (.int .i64 v1)),(4,.val false [.pv (.fn 104)]),(11,one (.int .i64 v256)),(12,one (.int .i64 v282))]∧Zl s_.os [0]=[(0,.arr 2 (v235.map Za))]∧ZaR k self16 v1 v235 v256 m v282=some r) k ⟨v238,kr,kr,hF⟩ ?_
 clear hF
 rintro m23 s_ ⟨v282,he,ho,hF⟩
 refine WA.keep _ _ he ho ?_
 clear he ho
 cases m23 with
 | zero=>cases hF
 | succ m23=>
  obtain ⟨self23,hself23⟩:∃g,g=ZaR k self16 v1 v235 v256 m23:=⟨_,rfl⟩
  have hF:Ze3 k self16 self23 v1 v235 v256 v282=some r:=by first | (rw [hself23];exact hF) | exact hF
  refine WA.seq ?_
  refine WA.join (fun s_=>∃(v289:Bool),Zl s_.env [0,1,4,11,12,65]=[(0,.val false [.arr 0 v236]),(1,one (.int .i64 v1)),(4,.val false [.pv (.fn 104)]),(11,one (.int .i64 v256)),(12,one (.int .i64 v282)),(65,one (.bool v289))]∧Zl s_.os [0]=[(0,.arr 2 (v235.map Za))]∧Zcs self16 self23 v235 v256 v282 v289=some r) ?_ ?_
  {
 rintro s_ ⟨v289,he,ho,hF⟩
 refine WA.keep _ _ he ho ?_
 clear he ho
 refine WA.cond (b:=v289) rfl (fun hb290=>?_) (fun hb290=>?_)
 {
 have hF:=Zk hF hb290
 refine WA.skip ?_
 refine WA.block ?_
 refine WA.reg [0,1,4,11,12] [0] [] (env':=[(0,.val false [.arr 0 v236]),(1,one (.int .i64 v1)),(4,.val false [.pv (.fn 104)]),(11,one (.int .i64 v256)),(12,one (.int .i64 (w64 (v282-1))))]) (os':=[(0,.arr 2 (v235.map Za))]) (O:=[]) kr (sound _ _) trivial ?_
 exact ⟨m23,Nat.lt_succ_self _,(w64 (v282-1)),kr,kr,by rw [hself23] at hF;exact hF⟩ }
 {
 have hF:=Zj hF hb290
 refine WA.exit ?_
 refine WA.seq ?_
 refine WA.seq ?_
 refine WA.reg [0,1,4,11,12,70] [0] [] (env':=[(0,.val false [.arr 0 v236]),(1,one (.int .i64 v1)),(4,.val false [.pv (.fn 104)]),(11,one (.int .i64 v256)),(12,one (.int .i64 v282)),(70,one (.bool (decide (v256 > v282))))]) (os':=[(0,.arr 2 (v235.map Za))]) (O:=[]) kr (sound _ _) trivial ?_
 refine WA.cond (b:=(decide (v256 > v282))) rfl (fun hb291=>?_) (fun hb291=>?_)
 {
 have hF:=Zk hF hb291
 refine WA.exit ?_
 refine WA.seq ?_
 refine WA.reg [10] [0] [] (env':=[(10,one (.int .i64 v256))]) (os':=[(0,.arr 2 (v235.map Za))]) (O:=[]) kr (sound _ _) trivial ?_
 refine WA.ret ?_
 obtain rfl:=Option.some.inj hF
 exact Zp (one (.int .i64 v256)) [.arr 2 (v235.map Za)] kr kr kr kr (by decide) rfl rfl }
 {
 have hF:=Zj hF hb291
 refine WA.skip ?_
 refine WA.seq ?_
 obtain ⟨hc292,hF⟩:=Zo hF
 obtain ⟨y293,hy293,hF⟩:=bind_some hF
 obtain ⟨hc294,hF⟩:=Zo hF
 obtain ⟨y295,hy295,hF⟩:=bind_some hF
 obtain ⟨hc296,hF⟩:=Zo hF
 obtain ⟨y297,hy297,hF⟩:=bind_some hF
 obtain ⟨hc298,hF⟩:=Zo hF
 obtain ⟨y299,hy299,hF⟩:=bind_some hF
 have z0:v282<((v236:Nat):Int):=(by have h_:=hc292.2;(try simp only [zl,Zh] at h_ ⊢);omega)
 have z2:v256<((v236:Nat):Int):=(by have h_:=hc294.2;(try simp only [zl,Zh] at h_ ⊢);omega)
 refine WA.rdm (α:=(List (List PV))×(List (List PV))) (raw:=((((v235.map Za).set (Int.toNat v256) (Za y293)).set (Int.toNat v282) (Za y295)),((v235.map Za).set (Int.toNat v256) (Za y293)))) (can:=((((v235.set (Int.toNat v256) y293).set (Int.toNat v282) y295).map Za),((v235.set (Int.toNat v256) y293).map Za))) (fun m_=>([(0,.val false [.arr 0 v236]),(1,one (.int .i64 v1)),(4,.val false [.pv (.fn 104)]),(11,one (.int .i64 v256)),(12,one (.int .i64 v282))],[(0,.arr 2 m_.1)],[v236=(v235.map Za).length,(0:Int)≤v282,v282<((v236:Nat):Int),v236=(v235.map Za).length,(v235.map Za)[Int.toNat v282]?=some (Za y293),v236=(v235.map Za).length,(0:Int)≤v256,v256<((v236:Nat):Int),v236=(v235.map Za).length,(v235.map Za)[Int.toNat v256]?=some (Za y295),v236=(v235.map Za).length,(0:Int)≤v256,v256<((v236:Nat):Int),v236=(v235.map Za).length,(v235.map Za)[Int.toNat v256]?=some (Za y297),v236=m_.2.length,(0:Int)≤v282,v282<((v236:Nat):Int),v236=m_.2.length,m_.2[Int.toNat v282]?=some (Za y299)])) (ZE zm zm) [0,1,4,11,12] [0] [(7,.cells (Za y293)),(11,.cells (Za y295)),(13,.cells (Za y297)),(15,.cells (Za y299))] kr kr kr (sound _ _) ⟨zt,hc292.1,z0,zt,(Zr (Zs _ hy293)),zt,hc294.1,z2,zt,(Zr (Zs _ hy295)),zt,hc296.1,z2,zt,(Zr (Zs _ hy297)),zt,hc298.1,z0,zt,(Zr (Zs _ hy299)),trivial⟩ ?_
 refine WA.seq ?_
 refine WA.reg [0,1,4,11,12] [0] [] (env':=[(0,.val false [.arr 0 v236]),(1,one (.int .i64 v1)),(4,.val false [.pv (.fn 104)]),(11,one (.int .i64 (w64 (v256+1)))),(12,one (.int .i64 v282))]) (os':=[(0,.arr 2 (((v235.set (Int.toNat v256) y293).set (Int.toNat v282) y295).map Za))]) (O:=[]) kr (sound _ _) trivial ?_
 refine WA.reg [0,1,4,11,12] [0] [] (env':=[(0,.val false [.arr 0 v236]),(1,one (.int .i64 v1)),(4,.val false [.pv (.fn 104)]),(11,one (.int .i64 (w64 (v256+1)))),(12,one (.int .i64 (w64 (v282-1))))]) (os':=[(0,.arr 2 (((v235.set (Int.toNat v256) y293).set (Int.toNat v282) y295).map Za))]) (O:=[]) kr (sound _ _) trivial ?_
 exact ⟨m16,Nat.lt_succ_self _,((v235.set (Int.toNat v256) y293).set (Int.toNat v282) y295),v236,(w64 (v256+1)),(w64 (v282-1)),kr,kr,zt,by rw [hself16] at hF;exact hF⟩ } } }
  {
 rcases Bool.eq_false_or_eq_true (decide (v256≤v282)) with hb283 | hb283
 {
 have hF:=Zk hF hb283
 obtain ⟨hc284,hF⟩:=Zo hF
 obtain ⟨y285,hy285,hF⟩:=bind_some hF
 obtain ⟨hc286,hF⟩:=Zo hF
 obtain ⟨y287,hy287,hF⟩:=bind_some hF
 obtain ⟨y288,hy288,hF⟩:=bind_some hF
 refine WA.regD kr [0,1,4,11,12,65] [0] [(3,.bool true),(8,.cells (Za y285)),(12,.cells (Za y287)),(13,.callR [] (one (.int .i64 y288)))] (env':=[(0,.val false [.arr 0 v236]),(1,one (.int .i64 v1)),(4,.val false [.pv (.fn 104)]),(11,one (.int .i64 v256)),(12,one (.int .i64 v282)),(65,one (.bool (decide (y288<0))))]) (os':=[(0,.arr 2 (v235.map Za))]) (O:=[(decide (v256≤v282))=true,v236=(v235.map Za).length,(0:Int)≤v1,v1<((v236:Nat):Int),v236=(v235.map Za).length,(v235.map Za)[Int.toNat v1]?=some (Za y285),v236=(v235.map Za).length,(0:Int)≤v282,v282<((v236:Nat):Int),v236=(v235.map Za).length,(v235.map Za)[Int.toNat v282]?=some (Za y287),Sim Tryz.prog GL0 104 [.val true (pvL (Za y285)),.val true (pvL (Za y287))] [] (one (.int .i64 y288)) [],([]:List Nat).Nodup]) kr kr (sound _ _) ⟨hb283,zt,hc284.1,(by have h_:=hc284.2;(try simp only [zl,Zh] at h_ ⊢);omega),zt,(Zr (Zs _ hy285)),zt,hc286.1,(by have h_:=hc286.2;(try simp only [zl,Zh] at h_ ⊢);omega),zt,(Zr (Zs _ hy287)),(Zap k _ _ _ hy288),(by decide),trivial⟩ ?_
 exact ⟨(decide (y288<0)),kr,kr,hF⟩ }
 {
 have hF:=Zj hF hb283
 refine WA.regD kr [0,1,4,11,12,65] [0] [(3,.bool false),(13,.callR [] (.tup []))] (env':=[(0,.val false [.arr 0 v236]),(1,one (.int .i64 v1)),(4,.val false [.pv (.fn 104)]),(11,one (.int .i64 v256)),(12,one (.int .i64 v282)),(65,one (.bool false))]) (os':=[(0,.arr 2 (v235.map Za))]) (O:=[(decide (v256≤v282))=false]) kr kr (sound _ _) ⟨hb283,trivial⟩ ?_
 exact ⟨false,kr,kr,hF⟩ } } } }
   {
 rcases Bool.eq_false_or_eq_true (decide (v256≤v238)) with hb257 | hb257
 {
 have hF:=Zk hF hb257
 obtain ⟨hc258,hF⟩:=Zo hF
 obtain ⟨y259,hy259,hF⟩:=bind_some hF
 obtain ⟨hc260,hF⟩:=Zo hF
 obtain ⟨y261,hy261,hF⟩:=bind_some hF
 obtain ⟨y262,hy262,hF⟩:=bind_some hF
 refine WA.regD kr [0,1,4,11,12,47] [0] [(3,.bool true),(8,.cells (Za y259)),(12,.cells (Za y261)),(13,.callR [] (one (.int .i64 y262)))] (env':=[(0,.val false [.arr 0 v236]),(1,one (.int .i64 v1)),(4,.val false [.pv (.fn 104)]),(11,one (.int .i64 v256)),(12,one (.int .i64 v238)),(47,one (.bool (!(decide (y262<0)))))]) (os':=[(0,.arr 2 (v235.map Za))]) (O:=[(decide (v256≤v238))=true,v236=(v235.map Za).length,(0:Int)≤v1,v1<((v236:Nat):Int),v236=(v235.map Za).length,(v235.map Za)[Int.toNat v1]?=some (Za y259),v236=(v235.map Za).length,(0:Int)≤v256,v256<((v236:Nat):Int),v236=(v235.map Za).length,(v235.map Za)[Int.toNat v256]?=some (Za y261),Sim Tryz.prog GL0 104 [.val true (pvL (Za y259)),.val true (pvL (Za y261))] [] (one (.int .i64 y262)) [],([]:List Nat).Nodup]) kr kr (sound _ _) ⟨hb257,zt,hc258.1,(by have h_:=hc258.2;(try simp only [zl,Zh] at h_ ⊢);omega),zt,(Zr (Zs _ hy259)),zt,hc260.1,(by have h_:=hc260.2;(try simp only [zl,Zh] at h_ ⊢);omega),zt,(Zr (Zs _ hy261)),(Zap k _ _ _ hy262),(by decide),trivial⟩ ?_
 exact ⟨(!(decide (y262<0))),kr,kr,hF⟩ }
 {
 have hF:=Zj hF hb257
 refine WA.regD kr [0,1,4,11,12,47] [0] [(3,.bool false),(13,.callR [] (.tup []))] (env':=[(0,.val false [.arr 0 v236]),(1,one (.int .i64 v1)),(4,.val false [.pv (.fn 104)]),(11,one (.int .i64 v256)),(12,one (.int .i64 v238)),(47,one (.bool false))]) (os':=[(0,.arr 2 (v235.map Za))]) (O:=[(decide (v256≤v238))=false]) kr kr (sound _ _) ⟨hb257,trivial⟩ ?_
 exact ⟨false,kr,kr,hF⟩ } }
def ZbW (self16:(List Zb)→Int→Int→Option (Bool×(List Zb))) (v400:Int) (v544:List Zb) (v546:Int):Option (Bool×(List Zb)):=
  self16 v544 v546 (w64 (v400+1))
def Ze1 (k:Nat) (self16:(List Zb)→Int→Int→Option (Bool×(List Zb))) (self23:(List Zb)→Int→Option (Bool×(List Zb))) (v2:Int) (v400:Int) (v419:Int) (v526:List Zb) (v528:Int):Option (Bool×(List Zb)):=
  (cond (decide (v528<v2)) ((if (0:Int)≤v528∧v528<(v526.length:Int) then (idxL v526 v528).bind fun y531=>if (0:Int)≤(w64 (v528-1))∧(w64 (v528-1))<(v526.length:Int) then (idxL v526 (w64 (v528-1))).bind fun y533=>(F104 k y531 y533).bind fun y534=>(cond (!(decide (y534<0))) ((ZbW self16 v400 v526 v419)) ((if (0:Int)≤(w64 (v528-1))∧(w64 (v528-1))<(v526.length:Int) then (idxL v526 (w64 (v528-1))).bind fun y537=>if (0:Int)≤v528∧v528<(v526.length:Int) then (idxL v526 v528).bind fun y539=>if (0:Int)≤v528∧v528<(v526.length:Int) then (idxL v526 v528).bind fun y541=>if (0:Int)≤(w64 (v528-1))∧(w64 (v528-1))<((v526.set (Int.toNat v528) y537).length:Int) then (idxL (v526.set (Int.toNat v528) y537) (w64 (v528-1))).bind fun y543=>(self23 ((v526.set (Int.toNat v528) y537).set (Int.toNat (w64 (v528-1))) y539) (w64 (v528+1))) else none else none else none else none))) else none else none)) ((ZbW self16 v400 v526 v419)))
def Za4 (k:Nat) (self16:(List Zb)→Int→Int→Option (Bool×(List Zb))) (v2:Int) (v400:Int) (v419:Int):Nat→(List Zb)→Int→Option (Bool×(List Zb))
  | 0,_,_=>none
  | m_+1,v526,v528=>Ze1 k self16 (Za4 k self16 v2 v400 v419 m_) v2 v400 v419 v526 v528
def Za1 (k:Nat) (self16:(List Zb)→Int→Int→Option (Bool×(List Zb))) (v2:Int) (v400:Int) (v419:Int) (v490:List Zb):Option (Bool×(List Zb)):=
  (cond (decide ((w64 (v2-v419))≥2)) ((Za4 k self16 v2 v400 v419 k v490 (w64 (v419+1)))) ((ZbW self16 v400 v490 v419)))
def Ze0 (k:Nat) (self16:(List Zb)→Int→Int→Option (Bool×(List Zb))) (self21:(List Zb)→Int→Option (Bool×(List Zb))) (v2:Int) (v400:Int) (v419:Int) (v472:List Zb) (v474:Int):Option (Bool×(List Zb)):=
  (cond (decide (v474≥1)) ((if (0:Int)≤v474∧v474<(v472.length:Int) then (idxL v472 v474).bind fun y477=>if (0:Int)≤(w64 (v474-1))∧(w64 (v474-1))<(v472.length:Int) then (idxL v472 (w64 (v474-1))).bind fun y479=>(F104 k y477 y479).bind fun y480=>(cond (!(decide (y480<0))) ((Za1 k self16 v2 v400 v419 v472)) ((if (0:Int)≤(w64 (v474-1))∧(w64 (v474-1))<(v472.length:Int) then (idxL v472 (w64 (v474-1))).bind fun y483=>if (0:Int)≤v474∧v474<(v472.length:Int) then (idxL v472 v474).bind fun y485=>if (0:Int)≤v474∧v474<(v472.length:Int) then (idxL v472 v474).bind fun y487=>if (0:Int)≤(w64 (v474-1))∧(w64 (v474-1))<((v472.set (Int.toNat v474) y483).length:Int) then (idxL (v472.set (Int.toNat v474) y483) (w64 (v474-1))).bind fun y489=>(self21 ((v472.set (Int.toNat v474) y483).set (Int.toNat (w64 (v474-1))) y485) (w64 (v474-1))) else none else none else none else none))) else none else none)) ((Za1 k self16 v2 v400 v419 v472)))
def Za3 (k:Nat) (self16:(List Zb)→Int→Int→Option (Bool×(List Zb))) (v2:Int) (v400:Int) (v419:Int):Nat→(List Zb)→Int→Option (Bool×(List Zb))
  | 0,_,_=>none
  | m_+1,v472,v474=>Ze0 k self16 (Za3 k self16 v2 v400 v419 m_) v2 v400 v419 v472 v474
def Zcr (k:Nat) (self16:(List Zb)→Int→Int→Option (Bool×(List Zb))) (self19:Int→Option (Bool×(List Zb))) (v1:Int) (v2:Int) (v397:List Zb) (v400:Int) (v419:Int) (v426:Bool):Option (Bool×(List Zb)):=
  cond v426 ((self19 (w64 (v419+1)))) (((cond (v419 == v2) ((some (true,v397))) (((cond (decide ((w64 (v2-v1))<50)) ((some (false,v397))) ((if (0:Int)≤(w64 (v419-1))∧(w64 (v419-1))<(v397.length:Int) then (idxL v397 (w64 (v419-1))).bind fun y431=>if (0:Int)≤v419∧v419<(v397.length:Int) then (idxL v397 v419).bind fun y433=>if (0:Int)≤v419∧v419<(v397.length:Int) then (idxL v397 v419).bind fun y435=>if (0:Int)≤(w64 (v419-1))∧(w64 (v419-1))<((v397.set (Int.toNat v419) y431).length:Int) then (idxL (v397.set (Int.toNat v419) y431) (w64 (v419-1))).bind fun y437=>((cond (decide ((w64 (v419-v1))≥2)) ((Za3 k self16 v2 v400 v419 k ((v397.set (Int.toNat v419) y431).set (Int.toNat (w64 (v419-1))) y433) (w64 (v419-1)))) ((Za1 k self16 v2 v400 v419 ((v397.set (Int.toNat v419) y431).set (Int.toNat (w64 (v419-1))) y433))))) else none else none else none else none))))))))
def ZeZ (k:Nat) (self16:(List Zb)→Int→Int→Option (Bool×(List Zb))) (self19:Int→Option (Bool×(List Zb))) (v1:Int) (v2:Int) (v397:List Zb) (v400:Int) (v419:Int):Option (Bool×(List Zb)):=
  cond (decide (v419<v2)) (if (0:Int)≤v419∧v419<(v397.length:Int) then (idxL v397 v419).bind fun y422=>if (0:Int)≤(w64 (v419-1))∧(w64 (v419-1))<(v397.length:Int) then (idxL v397 (w64 (v419-1))).bind fun y424=>(F104 k y422 y424).bind fun y425=>(Zcr k self16 self19 v1 v2 v397 v400 v419 (!(decide (y425<0)))) else none else none) ((Zcr k self16 self19 v1 v2 v397 v400 v419 false))
def Za2 (k:Nat) (self16:(List Zb)→Int→Int→Option (Bool×(List Zb))) (v1:Int) (v2:Int) (v397:List Zb) (v400:Int):Nat→Int→Option (Bool×(List Zb))
  | 0,_=>none
  | m_+1,v419=>ZeZ k self16 (Za2 k self16 v1 v2 v397 v400 m_) v1 v2 v397 v400 v419
def ZeY (k:Nat) (self16:(List Zb)→Int→Int→Option (Bool×(List Zb))) (v1:Int) (v2:Int) (v397:List Zb) (v399:Int) (v400:Int):Option (Bool×(List Zb)):=
  (cond (decide (v400<5)) ((Za2 k self16 v1 v2 v397 v400 k v399)) (((some (false,v397)))))
def Zah (k:Nat) (v1:Int) (v2:Int):Nat→(List Zb)→Int→Int→Option (Bool×(List Zb))
  | 0,_,_,_=>none
  | m_+1,v397,v399,v400=>ZeY k (Zah k v1 v2 m_) v1 v2 v397 v399 v400
def F154 (k:Nat) (v0:List Zb) (v1:Int) (v2:Int):Option (Bool×(List Zb)):=
  (((Zah k v1 v2 k v0 (w64 (v1+1)) 0)))
theorem Zn1 (k:Nat) (v0:List Zb) (v1:Int) (v2:Int) (r:Bool×(List Zb)) (hF:F154 k v0 v1 v2=some r) {n0:Nat} (hn_n0:n0=v0.length):Sim Tryz.prog GL0 154 [.val false [.arr 0 n0],one (.int .i64 v1),one (.int .i64 v2),.val false [.pv (.fn 104)]] [.arr 2 (v0.map Za)] (one (.bool r.1)) [.arr 2 (r.2.map Za)]:=by
 refine ZB [0] Tryz.func154 rfl kr kr ?_
 show WA _ _ 141 _ _ _
 refine WA.seq ?_
 refine WA.reg [0,1,2,3] [0] [] (env':=[(0,.val false [.arr 0 n0]),(1,one (.int .i64 v1)),(2,one (.int .i64 v2)),(3,.val false [.pv (.fn 104)])]) (os':=[(0,.arr 2 (v0.map Za))]) (O:=[]) kr (sound _ _) trivial ?_
 refine WA.seq ?_
 refine WA.reg [0,1,2,3,9] [0] [] (env':=[(0,.val false [.arr 0 n0]),(1,one (.int .i64 v1)),(2,one (.int .i64 v2)),(3,.val false [.pv (.fn 104)]),(9,one (.int .i64 (w64 (v1+1))))]) (os':=[(0,.arr 2 (v0.map Za))]) (O:=[]) kr (sound _ _) trivial ?_
 refine WA.seq ?_
 refine WA.seq ?_
 refine WA.reg [0,1,2,3,9,10] [0] [] (env':=[(0,.val false [.arr 0 n0]),(1,one (.int .i64 v1)),(2,one (.int .i64 v2)),(3,.val false [.pv (.fn 104)]),(9,one (.int .i64 (w64 (v1+1)))),(10,one (.int .i64 0))]) (os':=[(0,.arr 2 (v0.map Za))]) (O:=[]) kr (sound _ _) trivial ?_
 refine WA.block ?_
 refine WA.loop (fun m s_=>∃(v397:List Zb) (v398:Nat) (v399:Int) (v400:Int),Zl s_.env [0,1,2,3,9,10]=[(0,.val false [.arr 0 v398]),(1,one (.int .i64 v1)),(2,one (.int .i64 v2)),(3,.val false [.pv (.fn 104)]),(9,one (.int .i64 v399)),(10,one (.int .i64 v400))]∧Zl s_.os [0]=[(0,.arr 2 (v397.map Za))]∧v398=(v397:List _).length∧Zah k v1 v2 m v397 v399 v400=some r) k ⟨v0,n0,(w64 (v1+1)),0,kr,kr,zt,hF⟩ ?_
 clear hF
 rintro m16 s_ ⟨v397,v398,v399,v400,he,ho,hn_v398,hF⟩
 refine WA.keep _ _ he ho ?_
 clear he ho
 cases m16 with
 | zero=>cases hF
 | succ m16=>
  obtain ⟨self16,hself16⟩:∃g,g=Zah k v1 v2 m16:=⟨_,rfl⟩
  have hF:ZeY k self16 v1 v2 v397 v399 v400=some r:=by first | (rw [hself16];exact hF) | exact hF
  refine WA.seq ?_
  refine WA.seq ?_
  refine WA.reg [0,1,2,3,9,10,16] [0] [] (env':=[(0,.val false [.arr 0 v398]),(1,one (.int .i64 v1)),(2,one (.int .i64 v2)),(3,.val false [.pv (.fn 104)]),(9,one (.int .i64 v399)),(10,one (.int .i64 v400)),(16,one (.bool (decide (v400<5))))]) (os':=[(0,.arr 2 (v397.map Za))]) (O:=[]) kr (sound _ _) trivial ?_
  refine WA.cond (b:=(decide (v400<5))) rfl (fun hb401=>?_) (fun hb401=>?_)
  {
 have hF:=Zk hF hb401
 refine WA.skip ?_
 refine WA.join (fun s_=>∃(v544:List Zb) (v545:Nat) (v546:Int),Zl s_.env [0,1,2,3,9,10]=[(0,.val false [.arr 0 v545]),(1,one (.int .i64 v1)),(2,one (.int .i64 v2)),(3,.val false [.pv (.fn 104)]),(9,one (.int .i64 v546)),(10,one (.int .i64 v400))]∧Zl s_.os [0]=[(0,.arr 2 (v544.map Za))]∧v545=(v544:List _).length∧ZbW self16 v400 v544 v546=some r) ?_ ?_
 {
 rintro s_ ⟨v544,v545,v546,he,ho,hn_v545,hF⟩
 refine WA.keep _ _ he ho ?_
 clear he ho
 refine WA.reg [0,1,2,3,9,10] [0] [] (env':=[(0,.val false [.arr 0 v545]),(1,one (.int .i64 v1)),(2,one (.int .i64 v2)),(3,.val false [.pv (.fn 104)]),(9,one (.int .i64 v546)),(10,one (.int .i64 (w64 (v400+1))))]) (os':=[(0,.arr 2 (v544.map Za))]) (O:=[]) kr (sound _ _) trivial ?_
 exact ⟨m16,Nat.lt_succ_self _,v544,v545,v546,(w64 (v400+1)),kr,kr,zt,by rw [hself16] at hF;exact hF⟩ }
 {
 refine WA.block ?_
 refine WA.seq ?_
 refine WA.block ?_
 refine WA.loop (fun m s_=>∃(v419:Int),Zl s_.env [0,1,2,3,9,10]=[(0,.val false [.arr 0 v398]),(1,one (.int .i64 v1)),(2,one (.int .i64 v2)),(3,.val false [.pv (.fn 104)]),(9,one (.int .i64 v419)),(10,one (.int .i64 v400))]∧Zl s_.os [0]=[(0,.arr 2 (v397.map Za))]∧Za2 k self16 v1 v2 v397 v400 m v419=some r) k ⟨v399,kr,kr,hF⟩ ?_
 clear hF
 rintro m19 s_ ⟨v419,he,ho,hF⟩
 refine WA.keep _ _ he ho ?_
 clear he ho
 cases m19 with
 | zero=>cases hF
 | succ m19=>
  obtain ⟨self19,hself19⟩:∃g,g=Za2 k self16 v1 v2 v397 v400 m19:=⟨_,rfl⟩
  have hF:ZeZ k self16 self19 v1 v2 v397 v400 v419=some r:=by first | (rw [hself19];exact hF) | exact hF
  refine WA.seq ?_
  refine WA.join (fun s_=>∃(v426:Bool),Zl s_.env [0,1,2,3,9,10,36]=[(0,.val false [.arr 0 v398]),(1,one (.int .i64 v1)),(2,one (.int .i64 v2)),(3,.val false [.pv (.fn 104)]),(9,one (.int .i64 v419)),(10,one (.int .i64 v400)),(36,one (.bool v426))]∧Zl s_.os [0]=[(0,.arr 2 (v397.map Za))]∧Zcr k self16 self19 v1 v2 v397 v400 v419 v426=some r) ?_ ?_
  {
 rintro s_ ⟨v426,he,ho,hF⟩
 refine WA.keep _ _ he ho ?_
 clear he ho
 refine WA.cond (b:=v426) rfl (fun hb427=>?_) (fun hb427=>?_)
 {
 have hF:=Zk hF hb427
 refine WA.skip ?_
 refine WA.block ?_
 refine WA.reg [0,1,2,3,9,10] [0] [] (env':=[(0,.val false [.arr 0 v398]),(1,one (.int .i64 v1)),(2,one (.int .i64 v2)),(3,.val false [.pv (.fn 104)]),(9,one (.int .i64 (w64 (v419+1)))),(10,one (.int .i64 v400))]) (os':=[(0,.arr 2 (v397.map Za))]) (O:=[]) kr (sound _ _) trivial ?_
 exact ⟨m19,Nat.lt_succ_self _,(w64 (v419+1)),kr,kr,by rw [hself19] at hF;exact hF⟩ }
 {
 have hF:=Zj hF hb427
 refine WA.exit ?_
 refine WA.seq ?_
 refine WA.seq ?_
 refine WA.reg [0,1,2,3,9,10,41] [0] [] (env':=[(0,.val false [.arr 0 v398]),(1,one (.int .i64 v1)),(2,one (.int .i64 v2)),(3,.val false [.pv (.fn 104)]),(9,one (.int .i64 v419)),(10,one (.int .i64 v400)),(41,one (.bool (v419 == v2)))]) (os':=[(0,.arr 2 (v397.map Za))]) (O:=[]) kr (sound _ _) trivial ?_
 refine WA.cond (b:=(v419 == v2)) rfl (fun hb428=>?_) (fun hb428=>?_)
 {
 have hF:=Zk hF hb428
 refine WA.seq ?_
 refine WA.reg [8] [0] [] (env':=[(8,one (.bool true))]) (os':=[(0,.arr 2 (v397.map Za))]) (O:=[]) kr (sound _ _) trivial ?_
 refine WA.ret ?_
 obtain rfl:=Option.some.inj hF
 exact Zp (one (.bool true)) [.arr 2 (v397.map Za)] kr kr kr kr (by decide) rfl rfl }
 {
 have hF:=Zj hF hb428
 refine WA.skip ?_
 refine WA.seq ?_
 refine WA.seq ?_
 refine WA.reg [0,1,2,3,9,10,45] [0] [] (env':=[(0,.val false [.arr 0 v398]),(1,one (.int .i64 v1)),(2,one (.int .i64 v2)),(3,.val false [.pv (.fn 104)]),(9,one (.int .i64 v419)),(10,one (.int .i64 v400)),(45,one (.bool (decide ((w64 (v2-v1))<50))))]) (os':=[(0,.arr 2 (v397.map Za))]) (O:=[]) kr (sound _ _) trivial ?_
 refine WA.cond (b:=(decide ((w64 (v2-v1))<50))) rfl (fun hb429=>?_) (fun hb429=>?_)
 {
 have hF:=Zk hF hb429
 refine WA.seq ?_
 refine WA.reg [8] [0] [] (env':=[(8,one (.bool false))]) (os':=[(0,.arr 2 (v397.map Za))]) (O:=[]) kr (sound _ _) trivial ?_
 refine WA.ret ?_
 obtain rfl:=Option.some.inj hF
 exact Zp (one (.bool false)) [.arr 2 (v397.map Za)] kr kr kr kr (by decide) rfl rfl }
 {
 have hF:=Zj hF hb429
 refine WA.skip ?_
 refine WA.seq ?_
 obtain ⟨hc430,hF⟩:=Zo hF
 obtain ⟨y431,hy431,hF⟩:=bind_some hF
 obtain ⟨hc432,hF⟩:=Zo hF
 obtain ⟨y433,hy433,hF⟩:=bind_some hF
 obtain ⟨hc434,hF⟩:=Zo hF
 obtain ⟨y435,hy435,hF⟩:=bind_some hF
 obtain ⟨hc436,hF⟩:=Zo hF
 obtain ⟨y437,hy437,hF⟩:=bind_some hF
 have z0:(w64 (v419-1))<((v398:Nat):Int):=(by have h_:=hc430.2;(try simp only [zl,Zh] at h_ ⊢);omega)
 have z2:v419<((v398:Nat):Int):=(by have h_:=hc432.2;(try simp only [zl,Zh] at h_ ⊢);omega)
 refine WA.rdm (α:=(List (List PV))×(List (List PV))) (raw:=((((v397.map Za).set (Int.toNat v419) (Za y431)).set (Int.toNat (w64 (v419-1))) (Za y433)),((v397.map Za).set (Int.toNat v419) (Za y431)))) (can:=((((v397.set (Int.toNat v419) y431).set (Int.toNat (w64 (v419-1))) y433).map Za),((v397.set (Int.toNat v419) y431).map Za))) (fun m_=>([(0,.val false [.arr 0 v398]),(1,one (.int .i64 v1)),(2,one (.int .i64 v2)),(3,.val false [.pv (.fn 104)]),(9,one (.int .i64 v419)),(10,one (.int .i64 v400))],[(0,.arr 2 m_.1)],[v398=(v397.map Za).length,(0:Int)≤(w64 (v419-1)),(w64 (v419-1))<((v398:Nat):Int),v398=(v397.map Za).length,(v397.map Za)[Int.toNat (w64 (v419-1))]?=some (Za y431),v398=(v397.map Za).length,(0:Int)≤v419,v419<((v398:Nat):Int),v398=(v397.map Za).length,(v397.map Za)[Int.toNat v419]?=some (Za y433),v398=(v397.map Za).length,(0:Int)≤v419,v419<((v398:Nat):Int),v398=(v397.map Za).length,(v397.map Za)[Int.toNat v419]?=some (Za y435),v398=m_.2.length,(0:Int)≤(w64 (v419-1)),(w64 (v419-1))<((v398:Nat):Int),v398=m_.2.length,m_.2[Int.toNat (w64 (v419-1))]?=some (Za y437)])) (ZE zm zm) [0,1,2,3,9,10] [0] [(9,.cells (Za y431)),(13,.cells (Za y433)),(15,.cells (Za y435)),(17,.cells (Za y437))] kr kr kr (sound _ _) ⟨zt,hc430.1,z0,zt,(Zr (Zs _ hy431)),zt,hc432.1,z2,zt,(Zr (Zs _ hy433)),zt,hc434.1,z2,zt,(Zr (Zs _ hy435)),zt,hc436.1,z0,zt,(Zr (Zs _ hy437)),trivial⟩ ?_
 refine WA.join (fun s_=>∃(v490:List Zb) (v491:Nat),Zl s_.env [0,1,2,3,9,10]=[(0,.val false [.arr 0 v491]),(1,one (.int .i64 v1)),(2,one (.int .i64 v2)),(3,.val false [.pv (.fn 104)]),(9,one (.int .i64 v419)),(10,one (.int .i64 v400))]∧Zl s_.os [0]=[(0,.arr 2 (v490.map Za))]∧v491=(v490:List _).length∧Za1 k self16 v2 v400 v419 v490=some r) ?_ ?_
 {
 rintro s_ ⟨v490,v491,he,ho,hn_v491,hF⟩
 refine WA.keep _ _ he ho ?_
 clear he ho
 refine WA.seq ?_
 refine WA.reg [0,1,2,3,9,10,104] [0] [] (env':=[(0,.val false [.arr 0 v491]),(1,one (.int .i64 v1)),(2,one (.int .i64 v2)),(3,.val false [.pv (.fn 104)]),(9,one (.int .i64 v419)),(10,one (.int .i64 v400)),(104,one (.bool (decide ((w64 (v2-v419))≥2))))]) (os':=[(0,.arr 2 (v490.map Za))]) (O:=[]) kr (sound _ _) trivial ?_
 refine WA.cond (b:=(decide ((w64 (v2-v419))≥2))) rfl (fun hb492=>?_) (fun hb492=>?_)
 {
 have hF:=Zk hF hb492
 refine WA.seq ?_
 refine WA.reg [0,1,2,3,9,10,12] [0] [] (env':=[(0,.val false [.arr 0 v491]),(1,one (.int .i64 v1)),(2,one (.int .i64 v2)),(3,.val false [.pv (.fn 104)]),(9,one (.int .i64 v419)),(10,one (.int .i64 v400)),(12,one (.int .i64 (w64 (v419+1))))]) (os':=[(0,.arr 2 (v490.map Za))]) (O:=[]) kr (sound _ _) trivial ?_
 refine WA.block ?_
 refine WA.loop (fun m s_=>∃(v526:List Zb) (v527:Nat) (v528:Int),Zl s_.env [0,1,2,3,9,10,12]=[(0,.val false [.arr 0 v527]),(1,one (.int .i64 v1)),(2,one (.int .i64 v2)),(3,.val false [.pv (.fn 104)]),(9,one (.int .i64 v419)),(10,one (.int .i64 v400)),(12,one (.int .i64 v528))]∧Zl s_.os [0]=[(0,.arr 2 (v526.map Za))]∧v527=(v526:List _).length∧Za4 k self16 v2 v400 v419 m v526 v528=some r) k ⟨v490,v491,(w64 (v419+1)),kr,kr,zt,hF⟩ ?_
 clear hF
 rintro m23 s_ ⟨v526,v527,v528,he,ho,hn_v527,hF⟩
 refine WA.keep _ _ he ho ?_
 clear he ho
 cases m23 with
 | zero=>cases hF
 | succ m23=>
  obtain ⟨self23,hself23⟩:∃g,g=Za4 k self16 v2 v400 v419 m23:=⟨_,rfl⟩
  have hF:Ze1 k self16 self23 v2 v400 v419 v526 v528=some r:=by first | (rw [hself23];exact hF) | exact hF
  refine WA.seq ?_
  refine WA.seq ?_
  refine WA.reg [0,1,2,3,9,10,12,109] [0] [] (env':=[(0,.val false [.arr 0 v527]),(1,one (.int .i64 v1)),(2,one (.int .i64 v2)),(3,.val false [.pv (.fn 104)]),(9,one (.int .i64 v419)),(10,one (.int .i64 v400)),(12,one (.int .i64 v528)),(109,one (.bool (decide (v528<v2))))]) (os':=[(0,.arr 2 (v526.map Za))]) (O:=[]) kr (sound _ _) trivial ?_
  refine WA.cond (b:=(decide (v528<v2))) rfl (fun hb529=>?_) (fun hb529=>?_)
  {
 have hF:=Zk hF hb529
 refine WA.skip ?_
 refine WA.seq ?_
 refine WA.block ?_
 refine WA.seq ?_
 refine WA.seq ?_
 obtain ⟨hc530,hF⟩:=Zo hF
 obtain ⟨y531,hy531,hF⟩:=bind_some hF
 obtain ⟨hc532,hF⟩:=Zo hF
 obtain ⟨y533,hy533,hF⟩:=bind_some hF
 obtain ⟨y534,hy534,hF⟩:=bind_some hF
 refine WA.regD kr [0,1,2,3,9,10,12,124] [0] [(4,.cells (Za y531)),(9,.cells (Za y533)),(10,.callR [] (one (.int .i64 y534)))] (env':=[(0,.val false [.arr 0 v527]),(1,one (.int .i64 v1)),(2,one (.int .i64 v2)),(3,.val false [.pv (.fn 104)]),(9,one (.int .i64 v419)),(10,one (.int .i64 v400)),(12,one (.int .i64 v528)),(124,one (.bool (!(decide (y534<0)))))]) (os':=[(0,.arr 2 (v526.map Za))]) (O:=[v527=(v526.map Za).length,(0:Int)≤v528,v528<((v527:Nat):Int),v527=(v526.map Za).length,(v526.map Za)[Int.toNat v528]?=some (Za y531),v527=(v526.map Za).length,(0:Int)≤(w64 (v528-1)),(w64 (v528-1))<((v527:Nat):Int),v527=(v526.map Za).length,(v526.map Za)[Int.toNat (w64 (v528-1))]?=some (Za y533),Sim Tryz.prog GL0 104 [.val true (pvL (Za y531)),.val true (pvL (Za y533))] [] (one (.int .i64 y534)) [],([]:List Nat).Nodup]) kr kr (sound _ _) ⟨zt,hc530.1,(by have h_:=hc530.2;(try simp only [zl,Zh] at h_ ⊢);omega),zt,(Zr (Zs _ hy531)),zt,hc532.1,(by have h_:=hc532.2;(try simp only [zl,Zh] at h_ ⊢);omega),zt,(Zr (Zs _ hy533)),(Zap k _ _ _ hy534),(by decide),trivial⟩ ?_
 refine WA.cond (b:=(!(decide (y534<0)))) rfl (fun hb535=>?_) (fun hb535=>?_)
 {
 have hF:=Zk hF hb535
 refine WA.exit ?_
 exact ⟨v526,v527,v419,kr,kr,zt,hF⟩ }
 {
 have hF:=Zj hF hb535
 refine WA.skip ?_
 obtain ⟨hc536,hF⟩:=Zo hF
 obtain ⟨y537,hy537,hF⟩:=bind_some hF
 obtain ⟨hc538,hF⟩:=Zo hF
 obtain ⟨y539,hy539,hF⟩:=bind_some hF
 obtain ⟨hc540,hF⟩:=Zo hF
 obtain ⟨y541,hy541,hF⟩:=bind_some hF
 obtain ⟨hc542,hF⟩:=Zo hF
 obtain ⟨y543,hy543,hF⟩:=bind_some hF
 have z0:(w64 (v528-1))<((v527:Nat):Int):=(by have h_:=hc536.2;(try simp only [zl,Zh] at h_ ⊢);omega)
 have z2:v528<((v527:Nat):Int):=(by have h_:=hc538.2;(try simp only [zl,Zh] at h_ ⊢);omega)
 refine WA.rdm (α:=(List (List PV))×(List (List PV))) (raw:=((((v526.map Za).set (Int.toNat v528) (Za y537)).set (Int.toNat (w64 (v528-1))) (Za y539)),((v526.map Za).set (Int.toNat v528) (Za y537)))) (can:=((((v526.set (Int.toNat v528) y537).set (Int.toNat (w64 (v528-1))) y539).map Za),((v526.set (Int.toNat v528) y537).map Za))) (fun m_=>([(0,.val false [.arr 0 v527]),(1,one (.int .i64 v1)),(2,one (.int .i64 v2)),(3,.val false [.pv (.fn 104)]),(9,one (.int .i64 v419)),(10,one (.int .i64 v400)),(12,one (.int .i64 v528))],[(0,.arr 2 m_.1)],[v527=(v526.map Za).length,(0:Int)≤(w64 (v528-1)),(w64 (v528-1))<((v527:Nat):Int),v527=(v526.map Za).length,(v526.map Za)[Int.toNat (w64 (v528-1))]?=some (Za y537),v527=(v526.map Za).length,(0:Int)≤v528,v528<((v527:Nat):Int),v527=(v526.map Za).length,(v526.map Za)[Int.toNat v528]?=some (Za y539),v527=(v526.map Za).length,(0:Int)≤v528,v528<((v527:Nat):Int),v527=(v526.map Za).length,(v526.map Za)[Int.toNat v528]?=some (Za y541),v527=m_.2.length,(0:Int)≤(w64 (v528-1)),(w64 (v528-1))<((v527:Nat):Int),v527=m_.2.length,m_.2[Int.toNat (w64 (v528-1))]?=some (Za y543)])) (ZE zm zm) [0,1,2,3,9,10,12] [0] [(9,.cells (Za y537)),(13,.cells (Za y539)),(15,.cells (Za y541)),(17,.cells (Za y543))] kr kr kr (sound _ _) ⟨zt,hc536.1,z0,zt,(Zr (Zs _ hy537)),zt,hc538.1,z2,zt,(Zr (Zs _ hy539)),zt,hc540.1,z2,zt,(Zr (Zs _ hy541)),zt,hc542.1,z0,zt,(Zr (Zs _ hy543)),trivial⟩ ?_
 refine WA.reg [0,1,2,3,9,10,12] [0] [] (env':=[(0,.val false [.arr 0 v527]),(1,one (.int .i64 v1)),(2,one (.int .i64 v2)),(3,.val false [.pv (.fn 104)]),(9,one (.int .i64 v419)),(10,one (.int .i64 v400)),(12,one (.int .i64 (w64 (v528+1))))]) (os':=[(0,.arr 2 (((v526.set (Int.toNat v528) y537).set (Int.toNat (w64 (v528-1))) y539).map Za))]) (O:=[]) kr (sound _ _) trivial ?_
 exact ⟨m23,Nat.lt_succ_self _,((v526.set (Int.toNat v528) y537).set (Int.toNat (w64 (v528-1))) y539),v527,(w64 (v528+1)),kr,kr,zt,by rw [hself23] at hF;exact hF⟩ } }
  {
 have hF:=Zj hF hb529
 refine WA.exit ?_
 exact ⟨v526,v527,v419,kr,kr,zt,hF⟩ } }
 {
 have hF:=Zj hF hb492
 refine WA.skip ?_
 exact ⟨v490,v491,v419,kr,kr,zt,hF⟩ } }
 {
 refine WA.seq ?_
 refine WA.reg [0,1,2,3,9,10,65] [0] [] (env':=[(0,.val false [.arr 0 v398]),(1,one (.int .i64 v1)),(2,one (.int .i64 v2)),(3,.val false [.pv (.fn 104)]),(9,one (.int .i64 v419)),(10,one (.int .i64 v400)),(65,one (.bool (decide ((w64 (v419-v1))≥2))))]) (os':=[(0,.arr 2 (((v397.set (Int.toNat v419) y431).set (Int.toNat (w64 (v419-1))) y433).map Za))]) (O:=[]) kr (sound _ _) trivial ?_
 refine WA.cond (b:=(decide ((w64 (v419-v1))≥2))) rfl (fun hb438=>?_) (fun hb438=>?_)
 {
 have hF:=Zk hF hb438
 refine WA.seq ?_
 refine WA.reg [0,1,2,3,9,10,11] [0] [] (env':=[(0,.val false [.arr 0 v398]),(1,one (.int .i64 v1)),(2,one (.int .i64 v2)),(3,.val false [.pv (.fn 104)]),(9,one (.int .i64 v419)),(10,one (.int .i64 v400)),(11,one (.int .i64 (w64 (v419-1))))]) (os':=[(0,.arr 2 (((v397.set (Int.toNat v419) y431).set (Int.toNat (w64 (v419-1))) y433).map Za))]) (O:=[]) kr (sound _ _) trivial ?_
 refine WA.block ?_
 refine WA.loop (fun m s_=>∃(v472:List Zb) (v473:Nat) (v474:Int),Zl s_.env [0,1,2,3,9,10,11]=[(0,.val false [.arr 0 v473]),(1,one (.int .i64 v1)),(2,one (.int .i64 v2)),(3,.val false [.pv (.fn 104)]),(9,one (.int .i64 v419)),(10,one (.int .i64 v400)),(11,one (.int .i64 v474))]∧Zl s_.os [0]=[(0,.arr 2 (v472.map Za))]∧v473=(v472:List _).length∧Za3 k self16 v2 v400 v419 m v472 v474=some r) k ⟨((v397.set (Int.toNat v419) y431).set (Int.toNat (w64 (v419-1))) y433),v398,(w64 (v419-1)),kr,kr,zt,hF⟩ ?_
 clear hF
 rintro m21 s_ ⟨v472,v473,v474,he,ho,hn_v473,hF⟩
 refine WA.keep _ _ he ho ?_
 clear he ho
 cases m21 with
 | zero=>cases hF
 | succ m21=>
  obtain ⟨self21,hself21⟩:∃g,g=Za3 k self16 v2 v400 v419 m21:=⟨_,rfl⟩
  have hF:Ze0 k self16 self21 v2 v400 v419 v472 v474=some r:=by first | (rw [hself21];exact hF) | exact hF
  refine WA.seq ?_
  refine WA.seq ?_
  refine WA.reg [0,1,2,3,9,10,11,69] [0] [] (env':=[(0,.val false [.arr 0 v473]),(1,one (.int .i64 v1)),(2,one (.int .i64 v2)),(3,.val false [.pv (.fn 104)]),(9,one (.int .i64 v419)),(10,one (.int .i64 v400)),(11,one (.int .i64 v474)),(69,one (.bool (decide (v474≥1))))]) (os':=[(0,.arr 2 (v472.map Za))]) (O:=[]) kr (sound _ _) trivial ?_
  refine WA.cond (b:=(decide (v474≥1))) rfl (fun hb475=>?_) (fun hb475=>?_)
  {
 have hF:=Zk hF hb475
 refine WA.skip ?_
 refine WA.seq ?_
 refine WA.block ?_
 refine WA.seq ?_
 refine WA.seq ?_
 obtain ⟨hc476,hF⟩:=Zo hF
 obtain ⟨y477,hy477,hF⟩:=bind_some hF
 obtain ⟨hc478,hF⟩:=Zo hF
 obtain ⟨y479,hy479,hF⟩:=bind_some hF
 obtain ⟨y480,hy480,hF⟩:=bind_some hF
 refine WA.regD kr [0,1,2,3,9,10,11,84] [0] [(4,.cells (Za y477)),(9,.cells (Za y479)),(10,.callR [] (one (.int .i64 y480)))] (env':=[(0,.val false [.arr 0 v473]),(1,one (.int .i64 v1)),(2,one (.int .i64 v2)),(3,.val false [.pv (.fn 104)]),(9,one (.int .i64 v419)),(10,one (.int .i64 v400)),(11,one (.int .i64 v474)),(84,one (.bool (!(decide (y480<0)))))]) (os':=[(0,.arr 2 (v472.map Za))]) (O:=[v473=(v472.map Za).length,(0:Int)≤v474,v474<((v473:Nat):Int),v473=(v472.map Za).length,(v472.map Za)[Int.toNat v474]?=some (Za y477),v473=(v472.map Za).length,(0:Int)≤(w64 (v474-1)),(w64 (v474-1))<((v473:Nat):Int),v473=(v472.map Za).length,(v472.map Za)[Int.toNat (w64 (v474-1))]?=some (Za y479),Sim Tryz.prog GL0 104 [.val true (pvL (Za y477)),.val true (pvL (Za y479))] [] (one (.int .i64 y480)) [],([]:List Nat).Nodup]) kr kr (sound _ _) ⟨zt,hc476.1,(by have h_:=hc476.2;(try simp only [zl,Zh] at h_ ⊢);omega),zt,(Zr (Zs _ hy477)),zt,hc478.1,(by have h_:=hc478.2;(try simp only [zl,Zh] at h_ ⊢);omega),zt,(Zr (Zs _ hy479)),(Zap k _ _ _ hy480),(by decide),trivial⟩ ?_
 refine WA.cond (b:=(!(decide (y480<0)))) rfl (fun hb481=>?_) (fun hb481=>?_)
 {
 have hF:=Zk hF hb481
 refine WA.exit ?_
 exact ⟨v472,v473,kr,kr,zt,hF⟩ }
 {
 have hF:=Zj hF hb481
 refine WA.skip ?_
 obtain ⟨hc482,hF⟩:=Zo hF
 obtain ⟨y483,hy483,hF⟩:=bind_some hF
 obtain ⟨hc484,hF⟩:=Zo hF
 obtain ⟨y485,hy485,hF⟩:=bind_some hF
 obtain ⟨hc486,hF⟩:=Zo hF
 obtain ⟨y487,hy487,hF⟩:=bind_some hF
 obtain ⟨hc488,hF⟩:=Zo hF
 obtain ⟨y489,hy489,hF⟩:=bind_some hF
 have z0:(w64 (v474-1))<((v473:Nat):Int):=(by have h_:=hc482.2;(try simp only [zl,Zh] at h_ ⊢);omega)
 have z2:v474<((v473:Nat):Int):=(by have h_:=hc484.2;(try simp only [zl,Zh] at h_ ⊢);omega)
 refine WA.rdm (α:=(List (List PV))×(List (List PV))) (raw:=((((v472.map Za).set (Int.toNat v474) (Za y483)).set (Int.toNat (w64 (v474-1))) (Za y485)),((v472.map Za).set (Int.toNat v474) (Za y483)))) (can:=((((v472.set (Int.toNat v474) y483).set (Int.toNat (w64 (v474-1))) y485).map Za),((v472.set (Int.toNat v474) y483).map Za))) (fun m_=>([(0,.val false [.arr 0 v473]),(1,one (.int .i64 v1)),(2,one (.int .i64 v2)),(3,.val false [.pv (.fn 104)]),(9,one (.int .i64 v419)),(10,one (.int .i64 v400)),(11,one (.int .i64 v474))],[(0,.arr 2 m_.1)],[v473=(v472.map Za).length,(0:Int)≤(w64 (v474-1)),(w64 (v474-1))<((v473:Nat):Int),v473=(v472.map Za).length,(v472.map Za)[Int.toNat (w64 (v474-1))]?=some (Za y483),v473=(v472.map Za).length,(0:Int)≤v474,v474<((v473:Nat):Int),v473=(v472.map Za).length,(v472.map Za)[Int.toNat v474]?=some (Za y485),v473=(v472.map Za).length,(0:Int)≤v474,v474<((v473:Nat):Int),v473=(v472.map Za).length,(v472.map Za)[Int.toNat v474]?=some (Za y487),v473=m_.2.length,(0:Int)≤(w64 (v474-1)),(w64 (v474-1))<((v473:Nat):Int),v473=m_.2.length,m_.2[Int.toNat (w64 (v474-1))]?=some (Za y489)])) (ZE zm zm) [0,1,2,3,9,10,11] [0] [(9,.cells (Za y483)),(13,.cells (Za y485)),(15,.cells (Za y487)),(17,.cells (Za y489))] kr kr kr (sound _ _) ⟨zt,hc482.1,z0,zt,(Zr (Zs _ hy483)),zt,hc484.1,z2,zt,(Zr (Zs _ hy485)),zt,hc486.1,z2,zt,(Zr (Zs _ hy487)),zt,hc488.1,z0,zt,(Zr (Zs _ hy489)),trivial⟩ ?_
 refine WA.reg [0,1,2,3,9,10,11] [0] [] (env':=[(0,.val false [.arr 0 v473]),(1,one (.int .i64 v1)),(2,one (.int .i64 v2)),(3,.val false [.pv (.fn 104)]),(9,one (.int .i64 v419)),(10,one (.int .i64 v400)),(11,one (.int .i64 (w64 (v474-1))))]) (os':=[(0,.arr 2 (((v472.set (Int.toNat v474) y483).set (Int.toNat (w64 (v474-1))) y485).map Za))]) (O:=[]) kr (sound _ _) trivial ?_
 exact ⟨m21,Nat.lt_succ_self _,((v472.set (Int.toNat v474) y483).set (Int.toNat (w64 (v474-1))) y485),v473,(w64 (v474-1)),kr,kr,zt,by rw [hself21] at hF;exact hF⟩ } }
  {
 have hF:=Zj hF hb475
 refine WA.exit ?_
 exact ⟨v472,v473,kr,kr,zt,hF⟩ } }
 {
 have hF:=Zj hF hb438
 refine WA.skip ?_
 exact ⟨((v397.set (Int.toNat v419) y431).set (Int.toNat (w64 (v419-1))) y433),v398,kr,kr,zt,hF⟩ } } } } } }
  {
 rcases Bool.eq_false_or_eq_true (decide (v419<v2)) with hb420 | hb420
 {
 have hF:=Zk hF hb420
 obtain ⟨hc421,hF⟩:=Zo hF
 obtain ⟨y422,hy422,hF⟩:=bind_some hF
 obtain ⟨hc423,hF⟩:=Zo hF
 obtain ⟨y424,hy424,hF⟩:=bind_some hF
 obtain ⟨y425,hy425,hF⟩:=bind_some hF
 refine WA.regD kr [0,1,2,3,9,10,36] [0] [(3,.bool true),(8,.cells (Za y422)),(13,.cells (Za y424)),(14,.callR [] (one (.int .i64 y425)))] (env':=[(0,.val false [.arr 0 v398]),(1,one (.int .i64 v1)),(2,one (.int .i64 v2)),(3,.val false [.pv (.fn 104)]),(9,one (.int .i64 v419)),(10,one (.int .i64 v400)),(36,one (.bool (!(decide (y425<0)))))]) (os':=[(0,.arr 2 (v397.map Za))]) (O:=[(decide (v419<v2))=true,v398=(v397.map Za).length,(0:Int)≤v419,v419<((v398:Nat):Int),v398=(v397.map Za).length,(v397.map Za)[Int.toNat v419]?=some (Za y422),v398=(v397.map Za).length,(0:Int)≤(w64 (v419-1)),(w64 (v419-1))<((v398:Nat):Int),v398=(v397.map Za).length,(v397.map Za)[Int.toNat (w64 (v419-1))]?=some (Za y424),Sim Tryz.prog GL0 104 [.val true (pvL (Za y422)),.val true (pvL (Za y424))] [] (one (.int .i64 y425)) [],([]:List Nat).Nodup]) kr kr (sound _ _) ⟨hb420,zt,hc421.1,(by have h_:=hc421.2;(try simp only [zl,Zh] at h_ ⊢);omega),zt,(Zr (Zs _ hy422)),zt,hc423.1,(by have h_:=hc423.2;(try simp only [zl,Zh] at h_ ⊢);omega),zt,(Zr (Zs _ hy424)),(Zap k _ _ _ hy425),(by decide),trivial⟩ ?_
 exact ⟨(!(decide (y425<0))),kr,kr,hF⟩ }
 {
 have hF:=Zj hF hb420
 refine WA.regD kr [0,1,2,3,9,10,36] [0] [(3,.bool false),(14,.callR [] (.tup []))] (env':=[(0,.val false [.arr 0 v398]),(1,one (.int .i64 v1)),(2,one (.int .i64 v2)),(3,.val false [.pv (.fn 104)]),(9,one (.int .i64 v419)),(10,one (.int .i64 v400)),(36,one (.bool false))]) (os':=[(0,.arr 2 (v397.map Za))]) (O:=[(decide (v419<v2))=false]) kr kr (sound _ _) ⟨hb420,trivial⟩ ?_
 exact ⟨false,kr,kr,hF⟩ } } } }
  {
 have hF:=Zj hF hb401
 refine WA.exit ?_
 refine WA.seq ?_
 refine WA.reg [8] [0] [] (env':=[(8,one (.bool false))]) (os':=[(0,.arr 2 (v397.map Za))]) (O:=[]) kr (sound _ _) trivial ?_
 refine WA.ret ?_
 obtain rfl:=Option.some.inj hF
 exact Zp (one (.bool false)) [.arr 2 (v397.map Za)] kr kr kr kr (by decide) rfl rfl }
def Zdf (self0:(List Zb)→Int→Int→Option (List Zb)) (v123:List Zb) (v125:Int) (v126:Int):Option (List Zb):=
  (cond (decide (v125<v126)) ((if (0:Int)≤v126∧v126<(v123.length:Int) then (idxL v123 v126).bind fun y129=>if (0:Int)≤v125∧v125<(v123.length:Int) then (idxL v123 v125).bind fun y131=>if (0:Int)≤v125∧v125<(v123.length:Int) then (idxL v123 v125).bind fun y133=>if (0:Int)≤v126∧v126<((v123.set (Int.toNat v125) y129).length:Int) then (idxL (v123.set (Int.toNat v125) y129) v126).bind fun y135=>((self0 ((v123.set (Int.toNat v125) y129).set (Int.toNat v126) y131) (w64 (v125+1)) (w64 (v126-1)))) else none else none else none else none)) (some v123))
def ZbF:Nat→(List Zb)→Int→Int→Option (List Zb)
  | 0,_,_,_=>none
  | m_+1,v123,v125,v126=>Zdf (ZbF m_) v123 v125 v126
def F153 (k:Nat) (v0:List Zb) (v1:Int) (v2:Int):Option (List Zb):=
  ((ZbF k v0 v1 (w64 (v2-1))))
theorem Zn0 (k:Nat) (v0:List Zb) (v1:Int) (v2:Int) (r:List Zb) (hF:F153 k v0 v1 v2=some r) {n0:Nat} (hn_n0:n0=v0.length):Sim Tryz.prog GL0 153 [.val false [.arr 0 n0],one (.int .i64 v1),one (.int .i64 v2),.val false [.pv (.fn 104)]] [.arr 2 (v0.map Za)] (.tup []) [.arr 2 (r.map Za)]:=by
 refine ZB [0] Tryz.func153 rfl kr kr ?_
 show WA _ _ 34 _ _ _
 refine WA.seq ?_
 refine WA.reg [0,2,8] [0] [] (env':=[(0,.val false [.arr 0 n0]),(2,one (.int .i64 v2)),(8,one (.int .i64 v1))]) (os':=[(0,.arr 2 (v0.map Za))]) (O:=[]) kr (sound _ _) trivial ?_
 refine WA.seq ?_
 refine WA.reg [0,8,9] [0] [] (env':=[(0,.val false [.arr 0 n0]),(8,one (.int .i64 v1)),(9,one (.int .i64 (w64 (v2-1))))]) (os':=[(0,.arr 2 (v0.map Za))]) (O:=[]) kr (sound _ _) trivial ?_
 refine WA.block ?_
 refine WA.loop (fun m s_=>∃(v123:List Zb) (v124:Nat) (v125:Int) (v126:Int),Zl s_.env [0,8,9]=[(0,.val false [.arr 0 v124]),(8,one (.int .i64 v125)),(9,one (.int .i64 v126))]∧Zl s_.os [0]=[(0,.arr 2 (v123.map Za))]∧v124=(v123:List _).length∧ZbF m v123 v125 v126=some r) k ⟨v0,n0,v1,(w64 (v2-1)),kr,kr,zt,hF⟩ ?_
 clear hF
 rintro m0 s_ ⟨v123,v124,v125,v126,he,ho,hn_v124,hF⟩
 refine WA.keep _ _ he ho ?_
 clear he ho
 cases m0 with
 | zero=>cases hF
 | succ m0=>
  obtain ⟨self0,hself0⟩:∃g,g=ZbF m0:=⟨_,rfl⟩
  have hF:Zdf self0 v123 v125 v126=some r:=by first | (rw [hself0];exact hF) | exact hF
  refine WA.seq ?_
  refine WA.seq ?_
  refine WA.reg [0,8,9,15] [0] [] (env':=[(0,.val false [.arr 0 v124]),(8,one (.int .i64 v125)),(9,one (.int .i64 v126)),(15,one (.bool (decide (v125<v126))))]) (os':=[(0,.arr 2 (v123.map Za))]) (O:=[]) kr (sound _ _) trivial ?_
  refine WA.cond (b:=(decide (v125<v126))) rfl (fun hb127=>?_) (fun hb127=>?_)
  {
 have hF:=Zk hF hb127
 refine WA.skip ?_
 refine WA.block ?_
 refine WA.seq ?_
 obtain ⟨hc128,hF⟩:=Zo hF
 obtain ⟨y129,hy129,hF⟩:=bind_some hF
 obtain ⟨hc130,hF⟩:=Zo hF
 obtain ⟨y131,hy131,hF⟩:=bind_some hF
 obtain ⟨hc132,hF⟩:=Zo hF
 obtain ⟨y133,hy133,hF⟩:=bind_some hF
 obtain ⟨hc134,hF⟩:=Zo hF
 obtain ⟨y135,hy135,hF⟩:=bind_some hF
 have z0:v126<((v124:Nat):Int):=(by have h_:=hc128.2;(try simp only [zl,Zh] at h_ ⊢);omega)
 have z2:v125<((v124:Nat):Int):=(by have h_:=hc130.2;(try simp only [zl,Zh] at h_ ⊢);omega)
 refine WA.rdm (α:=(List (List PV))×(List (List PV))) (raw:=((((v123.map Za).set (Int.toNat v125) (Za y129)).set (Int.toNat v126) (Za y131)),((v123.map Za).set (Int.toNat v125) (Za y129)))) (can:=((((v123.set (Int.toNat v125) y129).set (Int.toNat v126) y131).map Za),((v123.set (Int.toNat v125) y129).map Za))) (fun m_=>([(0,.val false [.arr 0 v124]),(8,one (.int .i64 v125)),(9,one (.int .i64 v126))],[(0,.arr 2 m_.1)],[v124=(v123.map Za).length,(0:Int)≤v126,v126<((v124:Nat):Int),v124=(v123.map Za).length,(v123.map Za)[Int.toNat v126]?=some (Za y129),v124=(v123.map Za).length,(0:Int)≤v125,v125<((v124:Nat):Int),v124=(v123.map Za).length,(v123.map Za)[Int.toNat v125]?=some (Za y131),v124=(v123.map Za).length,(0:Int)≤v125,v125<((v124:Nat):Int),v124=(v123.map Za).length,(v123.map Za)[Int.toNat v125]?=some (Za y133),v124=m_.2.length,(0:Int)≤v126,v126<((v124:Nat):Int),v124=m_.2.length,m_.2[Int.toNat v126]?=some (Za y135)])) (ZE zm zm) [0,8,9] [0] [(7,.cells (Za y129)),(11,.cells (Za y131)),(13,.cells (Za y133)),(15,.cells (Za y135))] kr kr kr (sound _ _) ⟨zt,hc128.1,z0,zt,(Zr (Zs _ hy129)),zt,hc130.1,z2,zt,(Zr (Zs _ hy131)),zt,hc132.1,z2,zt,(Zr (Zs _ hy133)),zt,hc134.1,z0,zt,(Zr (Zs _ hy135)),trivial⟩ ?_
 refine WA.seq ?_
 refine WA.reg [0,8,9] [0] [] (env':=[(0,.val false [.arr 0 v124]),(8,one (.int .i64 (w64 (v125+1)))),(9,one (.int .i64 v126))]) (os':=[(0,.arr 2 (((v123.set (Int.toNat v125) y129).set (Int.toNat v126) y131).map Za))]) (O:=[]) kr (sound _ _) trivial ?_
 refine WA.reg [0,8,9] [0] [] (env':=[(0,.val false [.arr 0 v124]),(8,one (.int .i64 (w64 (v125+1)))),(9,one (.int .i64 (w64 (v126-1))))]) (os':=[(0,.arr 2 (((v123.set (Int.toNat v125) y129).set (Int.toNat v126) y131).map Za))]) (O:=[]) kr (sound _ _) trivial ?_
 exact ⟨m0,Nat.lt_succ_self _,((v123.set (Int.toNat v125) y129).set (Int.toNat v126) y131),v124,(w64 (v125+1)),(w64 (v126-1)),kr,kr,zt,by rw [hself0] at hF;exact hF⟩ }
  {
 have hF:=Zj hF hb127
 refine WA.exit ?_
 obtain rfl:=Option.some.inj hF
 exact Zcy (.tup []) [.arr 2 (v123.map Za)] kr kr kr kr (by decide) rfl rfl }
def Zek (v120:List Zb) (v121:Int) (v122:Int):Option (Int×Int×(List Zb)):=
  ((cond (v121 == 0) ((some (v122,1,v120))) ((cond (v121 == 12) ((some (v122,2,v120))) ((some (v122,0,v120)))))))
def Zej (k:Nat) (v112:List Zb) (v113:Int) (v115:Int) (v116:Int) (v117:Int):Option (Int×Int×(List Zb)):=
  (F178 k v112 v115 v116 v117 v113).bind fun y118=>if y118.2.1.length=v112.length then (Zek y118.2.1 y118.2.2 y118.1) else none
def F152 (k:Nat) (v0:List Zb) (v1:Int) (v2:Int):Option (Int×Int×(List Zb)):=
  (((if (4:Int)≠0 then (if (4:Int)≠0 then (if (4:Int)≠0 then ((cond (decide ((w64 (v2-v1))≥8)) ((cond (decide ((w64 (v2-v1))≥50)) ((F177 k v0 (w64 (v1+(w64 ((w64 (Int.tdiv (w64 (v2-v1)) 4))*1)))) 0).bind fun y106=>if y106.2.1.length=v0.length then (F177 k y106.2.1 (w64 (v1+(w64 ((w64 (Int.tdiv (w64 (v2-v1)) 4))*2)))) y106.2.2).bind fun y108=>if y108.2.1.length=y106.2.1.length then (F177 k y108.2.1 (w64 (v1+(w64 ((w64 (Int.tdiv (w64 (v2-v1)) 4))*3)))) y108.2.2).bind fun y110=>if y110.2.1.length=y108.2.1.length then (Zej k y110.2.1 y110.2.2 y106.1 y108.1 y110.1) else none else none else none) ((Zej k v0 0 (w64 (v1+(w64 ((w64 (Int.tdiv (w64 (v2-v1)) 4))*1)))) (w64 (v1+(w64 ((w64 (Int.tdiv (w64 (v2-v1)) 4))*2)))) (w64 (v1+(w64 ((w64 (Int.tdiv (w64 (v2-v1)) 4))*3)))))))) ((Zek v0 0 (w64 (v1+(w64 ((w64 (Int.tdiv (w64 (v2-v1)) 4))*2)))))))) else none) else none) else none)))
theorem ZnZ (k:Nat) (v0:List Zb) (v1:Int) (v2:Int) (r:Int×Int×(List Zb)) (hF:F152 k v0 v1 v2=some r) {n0:Nat} (hn_n0:n0=v0.length):Sim Tryz.prog GL0 152 [.val false [.arr 0 n0],one (.int .i64 v1),one (.int .i64 v2),.val false [.pv (.fn 104)]] [.arr 2 (v0.map Za)] (.tup [(false,[.pv (.int .i64 r.1)]),(false,[.pv (.int .i64 r.2.1)])]) [.arr 2 (r.2.2.map Za)]:=by
 refine ZB [0] Tryz.func152 rfl kr kr ?_
 show WA _ _ 63 _ _ _
 refine WA.seq ?_
 refine WA.reg [0,1,2,3] [0] [] (env':=[(0,.val false [.arr 0 n0]),(1,one (.int .i64 v1)),(2,one (.int .i64 v2)),(3,.val false [.pv (.fn 104)])]) (os':=[(0,.arr 2 (v0.map Za))]) (O:=[]) kr (sound _ _) trivial ?_
 refine WA.seq ?_
 refine WA.reg [0,1,3,10] [0] [] (env':=[(0,.val false [.arr 0 n0]),(1,one (.int .i64 v1)),(3,.val false [.pv (.fn 104)]),(10,one (.int .i64 (w64 (v2-v1))))]) (os':=[(0,.arr 2 (v0.map Za))]) (O:=[]) kr (sound _ _) trivial ?_
 refine WA.seq ?_
 refine WA.reg [0,1,3,10,11] [0,111] [(0,.obj 111)] (env':=[(0,.val false [.arr 0 n0]),(1,one (.int .i64 v1)),(3,.val false [.pv (.fn 104)]),(10,one (.int .i64 (w64 (v2-v1)))),(11,.val false [.ptr 111 1 0 0])]) (os':=[(0,.arr 2 (v0.map Za)),(111,.box (pvL [.int .i64 0]))]) (O:=[]) kr (sound _ _) trivial ?_
 refine WA.seq ?_
 obtain ⟨hc101,hF⟩:=Zo hF
 refine WA.reg [0,1,3,10,11,12] [0,111] [] (env':=[(0,.val false [.arr 0 n0]),(1,one (.int .i64 v1)),(3,.val false [.pv (.fn 104)]),(10,one (.int .i64 (w64 (v2-v1)))),(11,.val false [.ptr 111 1 0 0]),(12,one (.int .i64 (w64 (v1+(w64 ((w64 (Int.tdiv (w64 (v2-v1)) 4))*1))))))]) (os':=[(0,.arr 2 (v0.map Za)),(111,.box (pvL [.int .i64 0]))]) (O:=[(4:Int)≠0]) kr (sound _ _) ⟨hc101,trivial⟩ ?_
 refine WA.seq ?_
 obtain ⟨hc102,hF⟩:=Zo hF
 refine WA.reg [0,1,3,10,11,12,13] [0,111] [] (env':=[(0,.val false [.arr 0 n0]),(1,one (.int .i64 v1)),(3,.val false [.pv (.fn 104)]),(10,one (.int .i64 (w64 (v2-v1)))),(11,.val false [.ptr 111 1 0 0]),(12,one (.int .i64 (w64 (v1+(w64 ((w64 (Int.tdiv (w64 (v2-v1)) 4))*1)))))),(13,one (.int .i64 (w64 (v1+(w64 ((w64 (Int.tdiv (w64 (v2-v1)) 4))*2))))))]) (os':=[(0,.arr 2 (v0.map Za)),(111,.box (pvL [.int .i64 0]))]) (O:=[(4:Int)≠0]) kr (sound _ _) ⟨hc102,trivial⟩ ?_
 refine WA.seq ?_
 obtain ⟨hc103,hF⟩:=Zo hF
 refine WA.reg [0,3,10,11,12,13,14] [0,111] [] (env':=[(0,.val false [.arr 0 n0]),(3,.val false [.pv (.fn 104)]),(10,one (.int .i64 (w64 (v2-v1)))),(11,.val false [.ptr 111 1 0 0]),(12,one (.int .i64 (w64 (v1+(w64 ((w64 (Int.tdiv (w64 (v2-v1)) 4))*1)))))),(13,one (.int .i64 (w64 (v1+(w64 ((w64 (Int.tdiv (w64 (v2-v1)) 4))*2)))))),(14,one (.int .i64 (w64 (v1+(w64 ((w64 (Int.tdiv (w64 (v2-v1)) 4))*3))))))]) (os':=[(0,.arr 2 (v0.map Za)),(111,.box (pvL [.int .i64 0]))]) (O:=[(4:Int)≠0]) kr (sound _ _) ⟨hc103,trivial⟩ ?_
 refine WA.join (fun s_=>∃(v120:List Zb) (v121:Int) (v122:Int),Zl s_.env [11,13]=[(11,.val false [.ptr 111 1 0 0]),(13,one (.int .i64 v122))]∧Zl s_.os [0,111]=[(0,.arr 2 (v120.map Za)),(111,.box (pvL [.int .i64 v121]))]∧Zek v120 v121 v122=some r) ?_ ?_
 {
 rintro s_ ⟨v120,v121,v122,he,ho,hF⟩
 refine WA.keep _ _ he ho ?_
 clear he ho
 refine WA.seq ?_
 refine WA.reg [13,55] [0] [] (env':=[(13,one (.int .i64 v122)),(55,one (.int .i64 v121))]) (os':=[(0,.arr 2 (v120.map Za))]) (O:=[]) kr (sound _ _) trivial ?_
 refine WA.block ?_
 refine WA.seq ?_
 refine WA.reg [13,55,57] [0] [] (env':=[(13,one (.int .i64 v122)),(55,one (.int .i64 v121)),(57,one (.bool (v121 == 0)))]) (os':=[(0,.arr 2 (v120.map Za))]) (O:=[]) kr (sound _ _) trivial ?_
 refine WA.cond (b:=(v121 == 0)) rfl (fun hb123=>?_) (fun hb123=>?_)
 {
 have hF:=Zk hF hb123
 refine WA.seq ?_
 refine WA.reg [8,9] [0] [] (env':=[(8,one (.int .i64 v122)),(9,one (.int .i64 1))]) (os':=[(0,.arr 2 (v120.map Za))]) (O:=[]) kr (sound _ _) trivial ?_
 refine WA.ret ?_
 obtain rfl:=Option.some.inj hF
 exact Zp (.tup [(false,[.pv (.int .i64 v122)]),(false,[.pv (.int .i64 1)])]) [.arr 2 (v120.map Za)] kr kr kr kr (by decide) rfl rfl }
 {
 have hF:=Zj hF hb123
 refine WA.seq ?_
 refine WA.reg [13,60] [0] [] (env':=[(13,one (.int .i64 v122)),(60,one (.bool (v121 == 12)))]) (os':=[(0,.arr 2 (v120.map Za))]) (O:=[]) kr (sound _ _) trivial ?_
 refine WA.cond (b:=(v121 == 12)) rfl (fun hb124=>?_) (fun hb124=>?_)
 {
 have hF:=Zk hF hb124
 refine WA.seq ?_
 refine WA.reg [8,9] [0] [] (env':=[(8,one (.int .i64 v122)),(9,one (.int .i64 2))]) (os':=[(0,.arr 2 (v120.map Za))]) (O:=[]) kr (sound _ _) trivial ?_
 refine WA.ret ?_
 obtain rfl:=Option.some.inj hF
 exact Zp (.tup [(false,[.pv (.int .i64 v122)]),(false,[.pv (.int .i64 2)])]) [.arr 2 (v120.map Za)] kr kr kr kr (by decide) rfl rfl }
 {
 have hF:=Zj hF hb124
 refine WA.seq ?_
 refine WA.reg [8,9] [0] [] (env':=[(8,one (.int .i64 v122)),(9,one (.int .i64 0))]) (os':=[(0,.arr 2 (v120.map Za))]) (O:=[]) kr (sound _ _) trivial ?_
 refine WA.ret ?_
 obtain rfl:=Option.some.inj hF
 exact Zp (.tup [(false,[.pv (.int .i64 v122)]),(false,[.pv (.int .i64 0)])]) [.arr 2 (v120.map Za)] kr kr kr kr (by decide) rfl rfl } } }
 {
 refine WA.seq ?_
 refine WA.reg [0,3,10,11,12,13,14,34] [0,111] [] (env':=[(0,.val false [.arr 0 n0]),(3,.val false [.pv (.fn 104)]),(10,one (.int .i64 (w64 (v2-v1)))),(11,.val false [.ptr 111 1 0 0]),(12,one (.int .i64 (w64 (v1+(w64 ((w64 (Int.tdiv (w64 (v2-v1)) 4))*1)))))),(13,one (.int .i64 (w64 (v1+(w64 ((w64 (Int.tdiv (w64 (v2-v1)) 4))*2)))))),(14,one (.int .i64 (w64 (v1+(w64 ((w64 (Int.tdiv (w64 (v2-v1)) 4))*3)))))),(34,one (.bool (decide ((w64 (v2-v1))≥8))))]) (os':=[(0,.arr 2 (v0.map Za)),(111,.box (pvL [.int .i64 0]))]) (O:=[]) kr (sound _ _) trivial ?_
 refine WA.cond (b:=(decide ((w64 (v2-v1))≥8))) rfl (fun hb104=>?_) (fun hb104=>?_)
 {
 have hF:=Zk hF hb104
 refine WA.join (fun s_=>∃(v112:List Zb) (v113:Int) (v114:Nat) (v115:Int) (v116:Int) (v117:Int),Zl s_.env [0,3,11,12,13,14]=[(0,.val false [.arr 0 v114]),(3,.val false [.pv (.fn 104)]),(11,.val false [.ptr 111 1 0 0]),(12,one (.int .i64 v115)),(13,one (.int .i64 v116)),(14,one (.int .i64 v117))]∧Zl s_.os [0,111]=[(0,.arr 2 (v112.map Za)),(111,.box (pvL [.int .i64 v113]))]∧v114=(v112:List _).length∧Zej k v112 v113 v115 v116 v117=some r) ?_ ?_
 {
 rintro s_ ⟨v112,v113,v114,v115,v116,v117,he,ho,hn_v114,hF⟩
 refine WA.keep _ _ he ho ?_
 clear he ho
 obtain ⟨y118,hy118,hF⟩:=bind_some hF
 obtain ⟨hl119,hF⟩:=Zo hF
 refine WA.reg [11,13] [0,111] [(5,.call [0,111] (one (.int .i64 y118.1)) [.arr 2 (y118.2.1.map Za),.box (pvL [.int .i64 y118.2.2])] [])] (env':=[(11,.val false [.ptr 111 1 0 0]),(13,one (.int .i64 y118.1))]) (os':=[(0,.arr 2 (y118.2.1.map Za)),(111,.box (pvL [.int .i64 y118.2.2]))]) (O:=[Sim Tryz.prog GL0 178 [.val false [.arr 0 v114],one (.int .i64 v115),one (.int .i64 v116),one (.int .i64 v117),.val false [.ptr 1 1 0 0],.val false [.pv (.fn 104)]] [.arr 2 (v112.map Za),.box (pvL [.int .i64 v113])] (one (.int .i64 y118.1)) [.arr 2 (y118.2.1.map Za),.box (pvL [.int .i64 y118.2.2])],([0,111]:List Nat).Nodup]) kr (sound _ _) ⟨(Zk7 k _ _ _ _ _ _ hy118 (n0:=v114) zt),(by decide),trivial⟩ ?_
 exact ⟨y118.2.1,y118.2.2,y118.1,kr,kr,hF⟩ }
 {
 refine WA.seq ?_
 refine WA.reg [0,3,11,12,13,14,36] [0,111] [] (env':=[(0,.val false [.arr 0 n0]),(3,.val false [.pv (.fn 104)]),(11,.val false [.ptr 111 1 0 0]),(12,one (.int .i64 (w64 (v1+(w64 ((w64 (Int.tdiv (w64 (v2-v1)) 4))*1)))))),(13,one (.int .i64 (w64 (v1+(w64 ((w64 (Int.tdiv (w64 (v2-v1)) 4))*2)))))),(14,one (.int .i64 (w64 (v1+(w64 ((w64 (Int.tdiv (w64 (v2-v1)) 4))*3)))))),(36,one (.bool (decide ((w64 (v2-v1))≥50))))]) (os':=[(0,.arr 2 (v0.map Za)),(111,.box (pvL [.int .i64 0]))]) (O:=[]) kr (sound _ _) trivial ?_
 refine WA.cond (b:=(decide ((w64 (v2-v1))≥50))) rfl (fun hb105=>?_) (fun hb105=>?_)
 {
 have hF:=Zk hF hb105
 refine WA.seq ?_
 obtain ⟨y106,hy106,hF⟩:=bind_some hF
 obtain ⟨hl107,hF⟩:=Zo hF
 refine WA.reg [0,3,11,12,13,14] [0,111] [(3,.call [0,111] (one (.int .i64 y106.1)) [.arr 2 (y106.2.1.map Za),.box (pvL [.int .i64 y106.2.2])] [])] (env':=[(0,.val false [.arr 0 n0]),(3,.val false [.pv (.fn 104)]),(11,.val false [.ptr 111 1 0 0]),(12,one (.int .i64 y106.1)),(13,one (.int .i64 (w64 (v1+(w64 ((w64 (Int.tdiv (w64 (v2-v1)) 4))*2)))))),(14,one (.int .i64 (w64 (v1+(w64 ((w64 (Int.tdiv (w64 (v2-v1)) 4))*3))))))]) (os':=[(0,.arr 2 (y106.2.1.map Za)),(111,.box (pvL [.int .i64 y106.2.2]))]) (O:=[Sim Tryz.prog GL0 177 [.val false [.arr 0 n0],one (.int .i64 (w64 (v1+(w64 ((w64 (Int.tdiv (w64 (v2-v1)) 4))*1))))),.val false [.ptr 1 1 0 0],.val false [.pv (.fn 104)]] [.arr 2 (v0.map Za),.box (pvL [.int .i64 0])] (one (.int .i64 y106.1)) [.arr 2 (y106.2.1.map Za),.box (pvL [.int .i64 y106.2.2])],([0,111]:List Nat).Nodup]) kr (sound _ _) ⟨(Ziw k _ _ _ _ hy106 (n0:=n0) zt),(by decide),trivial⟩ ?_
 refine WA.seq ?_
 obtain ⟨y108,hy108,hF⟩:=bind_some hF
 obtain ⟨hl109,hF⟩:=Zo hF
 refine WA.reg [0,3,11,12,13,14] [0,111] [(3,.call [0,111] (one (.int .i64 y108.1)) [.arr 2 (y108.2.1.map Za),.box (pvL [.int .i64 y108.2.2])] [])] (env':=[(0,.val false [.arr 0 n0]),(3,.val false [.pv (.fn 104)]),(11,.val false [.ptr 111 1 0 0]),(12,one (.int .i64 y106.1)),(13,one (.int .i64 y108.1)),(14,one (.int .i64 (w64 (v1+(w64 ((w64 (Int.tdiv (w64 (v2-v1)) 4))*3))))))]) (os':=[(0,.arr 2 (y108.2.1.map Za)),(111,.box (pvL [.int .i64 y108.2.2]))]) (O:=[Sim Tryz.prog GL0 177 [.val false [.arr 0 n0],one (.int .i64 (w64 (v1+(w64 ((w64 (Int.tdiv (w64 (v2-v1)) 4))*2))))),.val false [.ptr 1 1 0 0],.val false [.pv (.fn 104)]] [.arr 2 (y106.2.1.map Za),.box (pvL [.int .i64 y106.2.2])] (one (.int .i64 y108.1)) [.arr 2 (y108.2.1.map Za),.box (pvL [.int .i64 y108.2.2])],([0,111]:List Nat).Nodup]) kr (sound _ _) ⟨(Ziw k _ _ _ _ hy108 (n0:=n0) zt),(by decide),trivial⟩ ?_
 obtain ⟨y110,hy110,hF⟩:=bind_some hF
 obtain ⟨hl111,hF⟩:=Zo hF
 refine WA.reg [0,3,11,12,13,14] [0,111] [(3,.call [0,111] (one (.int .i64 y110.1)) [.arr 2 (y110.2.1.map Za),.box (pvL [.int .i64 y110.2.2])] [])] (env':=[(0,.val false [.arr 0 n0]),(3,.val false [.pv (.fn 104)]),(11,.val false [.ptr 111 1 0 0]),(12,one (.int .i64 y106.1)),(13,one (.int .i64 y108.1)),(14,one (.int .i64 y110.1))]) (os':=[(0,.arr 2 (y110.2.1.map Za)),(111,.box (pvL [.int .i64 y110.2.2]))]) (O:=[Sim Tryz.prog GL0 177 [.val false [.arr 0 n0],one (.int .i64 (w64 (v1+(w64 ((w64 (Int.tdiv (w64 (v2-v1)) 4))*3))))),.val false [.ptr 1 1 0 0],.val false [.pv (.fn 104)]] [.arr 2 (y108.2.1.map Za),.box (pvL [.int .i64 y108.2.2])] (one (.int .i64 y110.1)) [.arr 2 (y110.2.1.map Za),.box (pvL [.int .i64 y110.2.2])],([0,111]:List Nat).Nodup]) kr (sound _ _) ⟨(Ziw k _ _ _ _ hy110 (n0:=n0) zt),(by decide),trivial⟩ ?_
 exact ⟨y110.2.1,y110.2.2,n0,y106.1,y108.1,y110.1,kr,kr,zt,hF⟩ }
 {
 have hF:=Zj hF hb105
 refine WA.skip ?_
 exact ⟨v0,0,n0,(w64 (v1+(w64 ((w64 (Int.tdiv (w64 (v2-v1)) 4))*1)))),(w64 (v1+(w64 ((w64 (Int.tdiv (w64 (v2-v1)) 4))*2)))),(w64 (v1+(w64 ((w64 (Int.tdiv (w64 (v2-v1)) 4))*3)))),kr,kr,zt,hF⟩ } } }
 {
 have hF:=Zj hF hb104
 refine WA.skip ?_
 exact ⟨v0,0,(w64 (v1+(w64 ((w64 (Int.tdiv (w64 (v2-v1)) 4))*2)))),kr,kr,hF⟩ } }
def Zei (self2:(List Zb)→Int→Int→Option (List Zb)) (v1:Int) (v134:List Zb) (v137:Int) (y140:Int×Int) (v142:Int):Option (List Zb):=
  if (0:Int)≤(w64 (v1+v142))∧(w64 (v1+v142))<(v134.length:Int) then (idxL v134 (w64 (v1+v142))).bind fun y144=>if (0:Int)≤v137∧v137<(v134.length:Int) then (idxL v134 v137).bind fun y146=>if (0:Int)≤v137∧v137<(v134.length:Int) then (idxL v134 v137).bind fun y148=>if (0:Int)≤(w64 (v1+v142))∧(w64 (v1+v142))<((v134.set (Int.toNat v137) y144).length:Int) then (idxL (v134.set (Int.toNat v137) y144) (w64 (v1+v142))).bind fun y150=>(self2 ((v134.set (Int.toNat v137) y144).set (Int.toNat (w64 (v1+v142))) y146) y140.2 (w64 (v137+1))) else none else none else none else none
def Zgm (k:Nat) (self2:(List Zb)→Int→Int→Option (List Zb)) (v1:Int) (v2:Int) (y102:Int) (v134:List Zb) (v135:Int) (v137:Int):Option (List Zb):=
  if (4:Int)≠0 then (cond (decide (v137≤(w64 ((w64 (v1+(w64 ((w64 (Int.tdiv (w64 (v2-v1)) 4))*2))))+1)))) ((F161 k v135).bind fun y140=>((cond (decide ((w64 (Zx .and .u64 y140.1 (IntKind.wrap .u64 (y102-1))))≥(w64 (v2-v1)))) ((Zei self2 v1 v134 v137 y140 (w64 ((w64 (Zx .and .u64 y140.1 (IntKind.wrap .u64 (y102-1))))-(w64 (v2-v1)))))) ((Zei self2 v1 v134 v137 y140 (w64 (Zx .and .u64 y140.1 (IntKind.wrap .u64 (y102-1))))))))) (some v134)) else none
def ZbE (k:Nat) (v1:Int) (v2:Int) (y102:Int):Nat→(List Zb)→Int→Int→Option (List Zb)
  | 0,_,_,_=>none
  | m_+1,v134,v135,v137=>Zgm k (ZbE k v1 v2 y102 m_) v1 v2 y102 v134 v135 v137
def F151 (k:Nat) (v0:List Zb) (v1:Int) (v2:Int):Option (List Zb):=
  ((cond (decide ((w64 (v2-v1))≥8)) ((F160 k (w64 (v2-v1))).bind fun y102=>(if (4:Int)≠0 then (ZbE k v1 v2 y102 k v0 (IntKind.wrap .u64 (w64 (v2-v1))) (w64 ((w64 (v1+(w64 ((w64 (Int.tdiv (w64 (v2-v1)) 4))*2))))-1))) else none)) (some v0)))
theorem ZnY (k:Nat) (v0:List Zb) (v1:Int) (v2:Int) (r:List Zb) (hF:F151 k v0 v1 v2=some r) {n0:Nat} (hn_n0:n0=v0.length):Sim Tryz.prog GL0 151 [.val false [.arr 0 n0],one (.int .i64 v1),one (.int .i64 v2),.val false [.pv (.fn 104)]] [.arr 2 (v0.map Za)] (.tup []) [.arr 2 (r.map Za)]:=by
 refine ZB [0] Tryz.func151 rfl kr kr ?_
 show WA _ _ 67 _ _ _
 refine WA.seq ?_
 refine WA.reg [0,1,8] [0] [] (env':=[(0,.val false [.arr 0 n0]),(1,one (.int .i64 v1)),(8,one (.int .i64 (w64 (v2-v1))))]) (os':=[(0,.arr 2 (v0.map Za))]) (O:=[]) kr (sound _ _) trivial ?_
 refine WA.seq ?_
 refine WA.reg [0,1,8,17] [0] [] (env':=[(0,.val false [.arr 0 n0]),(1,one (.int .i64 v1)),(8,one (.int .i64 (w64 (v2-v1)))),(17,one (.bool (decide ((w64 (v2-v1))≥8))))]) (os':=[(0,.arr 2 (v0.map Za))]) (O:=[]) kr (sound _ _) trivial ?_
 refine WA.cond (b:=(decide ((w64 (v2-v1))≥8))) rfl (fun hb101=>?_) (fun hb101=>?_)
 {
 have hF:=Zk hF hb101
 refine WA.seq ?_
 refine WA.reg [0,1,8,9] [0,109] [(2,.obj 109)] (env':=[(0,.val false [.arr 0 n0]),(1,one (.int .i64 v1)),(8,one (.int .i64 (w64 (v2-v1)))),(9,.val false [.ptr 109 1 0 0])]) (os':=[(0,.arr 2 (v0.map Za)),(109,.box (pvL [.int .u64 (IntKind.wrap .u64 (w64 (v2-v1)))]))]) (O:=[]) kr (sound _ _) trivial ?_
 refine WA.seq ?_
 obtain ⟨y102,hy102,hF⟩:=bind_some hF
 refine WA.reg [0,1,8,9,10] [0,109] [(1,.callR [] (one (.int .u64 y102)))] (env':=[(0,.val false [.arr 0 n0]),(1,one (.int .i64 v1)),(8,one (.int .i64 (w64 (v2-v1)))),(9,.val false [.ptr 109 1 0 0]),(10,one (.int .u64 y102))]) (os':=[(0,.arr 2 (v0.map Za)),(109,.box (pvL [.int .u64 (IntKind.wrap .u64 (w64 (v2-v1)))]))]) (O:=[Sim Tryz.prog GL0 160 [one (.int .i64 (w64 (v2-v1)))] [] (one (.int .u64 y102)) [],([]:List Nat).Nodup]) kr (sound _ _) ⟨(Zn4 k _ _ hy102),(by decide),trivial⟩ ?_
 refine WA.seq ?_
 obtain ⟨hc103,hF⟩:=Zo hF
 refine WA.reg [0,1,8,9,10,11] [0,109] [] (env':=[(0,.val false [.arr 0 n0]),(1,one (.int .i64 v1)),(8,one (.int .i64 (w64 (v2-v1)))),(9,.val false [.ptr 109 1 0 0]),(10,one (.int .u64 y102)),(11,one (.int .i64 (w64 ((w64 (v1+(w64 ((w64 (Int.tdiv (w64 (v2-v1)) 4))*2))))-1))))]) (os':=[(0,.arr 2 (v0.map Za)),(109,.box (pvL [.int .u64 (IntKind.wrap .u64 (w64 (v2-v1)))]))]) (O:=[(4:Int)≠0]) kr (sound _ _) ⟨hc103,trivial⟩ ?_
 refine WA.block ?_
 refine WA.loop (fun m s_=>∃(v134:List Zb) (v135:Int) (v136:Nat) (v137:Int),Zl s_.env [0,1,8,9,10,11]=[(0,.val false [.arr 0 v136]),(1,one (.int .i64 v1)),(8,one (.int .i64 (w64 (v2-v1)))),(9,.val false [.ptr 109 1 0 0]),(10,one (.int .u64 y102)),(11,one (.int .i64 v137))]∧Zl s_.os [0,109]=[(0,.arr 2 (v134.map Za)),(109,.box (pvL [.int .u64 v135]))]∧v136=(v134:List _).length∧ZbE k v1 v2 y102 m v134 v135 v137=some r) k ⟨v0,(IntKind.wrap .u64 (w64 (v2-v1))),n0,(w64 ((w64 (v1+(w64 ((w64 (Int.tdiv (w64 (v2-v1)) 4))*2))))-1)),kr,kr,zt,hF⟩ ?_
 clear hF
 rintro m2 s_ ⟨v134,v135,v136,v137,he,ho,hn_v136,hF⟩
 refine WA.keep _ _ he ho ?_
 clear he ho
 cases m2 with
 | zero=>cases hF
 | succ m2=>
  obtain ⟨self2,hself2⟩:∃g,g=ZbE k v1 v2 y102 m2:=⟨_,rfl⟩
  have hF:Zgm k self2 v1 v2 y102 v134 v135 v137=some r:=by first | (rw [hself2];exact hF) | exact hF
  refine WA.seq ?_
  refine WA.seq ?_
  obtain ⟨hc138,hF⟩:=Zo hF
  refine WA.reg [0,1,8,9,10,11,35] [0,109] [] (env':=[(0,.val false [.arr 0 v136]),(1,one (.int .i64 v1)),(8,one (.int .i64 (w64 (v2-v1)))),(9,.val false [.ptr 109 1 0 0]),(10,one (.int .u64 y102)),(11,one (.int .i64 v137)),(35,one (.bool (decide (v137≤(w64 ((w64 (v1+(w64 ((w64 (Int.tdiv (w64 (v2-v1)) 4))*2))))+1))))))]) (os':=[(0,.arr 2 (v134.map Za)),(109,.box (pvL [.int .u64 v135]))]) (O:=[(4:Int)≠0]) kr (sound _ _) ⟨hc138,trivial⟩ ?_
  refine WA.cond (b:=(decide (v137≤(w64 ((w64 (v1+(w64 ((w64 (Int.tdiv (w64 (v2-v1)) 4))*2))))+1))))) rfl (fun hb139=>?_) (fun hb139=>?_)
  {
 have hF:=Zk hF hb139
 refine WA.skip ?_
 refine WA.seq ?_
 refine WA.block ?_
 refine WA.seq ?_
 obtain ⟨y140,hy140,hF⟩:=bind_some hF
 refine WA.reg [0,1,8,9,10,11,12] [0,109] [(0,.call [109] (one (.int .u64 y140.1)) [.box (pvL [.int .u64 y140.2])] [])] (env':=[(0,.val false [.arr 0 v136]),(1,one (.int .i64 v1)),(8,one (.int .i64 (w64 (v2-v1)))),(9,.val false [.ptr 109 1 0 0]),(10,one (.int .u64 y102)),(11,one (.int .i64 v137)),(12,one (.int .i64 (w64 (Zx .and .u64 y140.1 (IntKind.wrap .u64 (y102-1))))))]) (os':=[(0,.arr 2 (v134.map Za)),(109,.box (pvL [.int .u64 y140.2]))]) (O:=[Sim Tryz.prog GL0 161 [.val false [.ptr 0 1 0 0]] [.box (pvL [.int .u64 v135])] (one (.int .u64 y140.1)) [.box (pvL [.int .u64 y140.2])],([109]:List Nat).Nodup]) kr (sound _ _) ⟨(Zn5 k _ _ hy140),(by decide),trivial⟩ ?_
 refine WA.join (fun s_=>∃(v142:Int),Zl s_.env [0,1,8,9,10,11,12]=[(0,.val false [.arr 0 v136]),(1,one (.int .i64 v1)),(8,one (.int .i64 (w64 (v2-v1)))),(9,.val false [.ptr 109 1 0 0]),(10,one (.int .u64 y102)),(11,one (.int .i64 v137)),(12,one (.int .i64 v142))]∧Zl s_.os [0,109]=[(0,.arr 2 (v134.map Za)),(109,.box (pvL [.int .u64 y140.2]))]∧Zei self2 v1 v134 v137 y140 v142=some r) ?_ ?_
 {
 rintro s_ ⟨v142,he,ho,hF⟩
 refine WA.keep _ _ he ho ?_
 clear he ho
 obtain ⟨hc143,hF⟩:=Zo hF
 obtain ⟨y144,hy144,hF⟩:=bind_some hF
 obtain ⟨hc145,hF⟩:=Zo hF
 obtain ⟨y146,hy146,hF⟩:=bind_some hF
 obtain ⟨hc147,hF⟩:=Zo hF
 obtain ⟨y148,hy148,hF⟩:=bind_some hF
 obtain ⟨hc149,hF⟩:=Zo hF
 obtain ⟨y150,hy150,hF⟩:=bind_some hF
 have z0:(w64 (v1+v142))<((v136:Nat):Int):=(by have h_:=hc143.2;(try simp only [zl,Zh] at h_ ⊢);omega)
 have z2:v137<((v136:Nat):Int):=(by have h_:=hc145.2;(try simp only [zl,Zh] at h_ ⊢);omega)
 refine WA.rdm (α:=(List (List PV))×(List (List PV))) (raw:=((((v134.map Za).set (Int.toNat v137) (Za y144)).set (Int.toNat (w64 (v1+v142))) (Za y146)),((v134.map Za).set (Int.toNat v137) (Za y144)))) (can:=((((v134.set (Int.toNat v137) y144).set (Int.toNat (w64 (v1+v142))) y146).map Za),((v134.set (Int.toNat v137) y144).map Za))) (fun m_=>([(0,.val false [.arr 0 v136]),(1,one (.int .i64 v1)),(8,one (.int .i64 (w64 (v2-v1)))),(9,.val false [.ptr 109 1 0 0]),(10,one (.int .u64 y102)),(11,one (.int .i64 v137))],[(0,.arr 2 m_.1),(109,.box (pvL [.int .u64 y140.2]))],[v136=(v134.map Za).length,(0:Int)≤(w64 (v1+v142)),(w64 (v1+v142))<((v136:Nat):Int),v136=(v134.map Za).length,(v134.map Za)[Int.toNat (w64 (v1+v142))]?=some (Za y144),v136=(v134.map Za).length,(0:Int)≤v137,v137<((v136:Nat):Int),v136=(v134.map Za).length,(v134.map Za)[Int.toNat v137]?=some (Za y146),v136=(v134.map Za).length,(0:Int)≤v137,v137<((v136:Nat):Int),v136=(v134.map Za).length,(v134.map Za)[Int.toNat v137]?=some (Za y148),v136=m_.2.length,(0:Int)≤(w64 (v1+v142)),(w64 (v1+v142))<((v136:Nat):Int),v136=m_.2.length,m_.2[Int.toNat (w64 (v1+v142))]?=some (Za y150)])) (ZE zm zm) [0,1,8,9,10,11] [0,109] [(11,.cells (Za y144)),(15,.cells (Za y146)),(17,.cells (Za y148)),(19,.cells (Za y150))] kr kr kr (sound _ _) ⟨zt,hc143.1,z0,zt,(Zr (Zs _ hy144)),zt,hc145.1,z2,zt,(Zr (Zs _ hy146)),zt,hc147.1,z2,zt,(Zr (Zs _ hy148)),zt,hc149.1,z0,zt,(Zr (Zs _ hy150)),trivial⟩ ?_
 refine WA.reg [0,1,8,9,10,11] [0,109] [] (env':=[(0,.val false [.arr 0 v136]),(1,one (.int .i64 v1)),(8,one (.int .i64 (w64 (v2-v1)))),(9,.val false [.ptr 109 1 0 0]),(10,one (.int .u64 y102)),(11,one (.int .i64 (w64 (v137+1))))]) (os':=[(0,.arr 2 (((v134.set (Int.toNat v137) y144).set (Int.toNat (w64 (v1+v142))) y146).map Za)),(109,.box (pvL [.int .u64 y140.2]))]) (O:=[]) kr (sound _ _) trivial ?_
 exact ⟨m2,Nat.lt_succ_self _,((v134.set (Int.toNat v137) y144).set (Int.toNat (w64 (v1+v142))) y146),y140.2,v136,(w64 (v137+1)),kr,kr,zt,by rw [hself2] at hF;exact hF⟩ }
 {
 refine WA.seq ?_
 refine WA.reg [0,1,8,9,10,11,12,45] [0,109] [] (env':=[(0,.val false [.arr 0 v136]),(1,one (.int .i64 v1)),(8,one (.int .i64 (w64 (v2-v1)))),(9,.val false [.ptr 109 1 0 0]),(10,one (.int .u64 y102)),(11,one (.int .i64 v137)),(12,one (.int .i64 (w64 (Zx .and .u64 y140.1 (IntKind.wrap .u64 (y102-1)))))),(45,one (.bool (decide ((w64 (Zx .and .u64 y140.1 (IntKind.wrap .u64 (y102-1))))≥(w64 (v2-v1))))))]) (os':=[(0,.arr 2 (v134.map Za)),(109,.box (pvL [.int .u64 y140.2]))]) (O:=[]) kr (sound _ _) trivial ?_
 refine WA.cond (b:=(decide ((w64 (Zx .and .u64 y140.1 (IntKind.wrap .u64 (y102-1))))≥(w64 (v2-v1))))) rfl (fun hb141=>?_) (fun hb141=>?_)
 {
 have hF:=Zk hF hb141
 refine WA.reg [0,1,8,9,10,11,12] [0,109] [] (env':=[(0,.val false [.arr 0 v136]),(1,one (.int .i64 v1)),(8,one (.int .i64 (w64 (v2-v1)))),(9,.val false [.ptr 109 1 0 0]),(10,one (.int .u64 y102)),(11,one (.int .i64 v137)),(12,one (.int .i64 (w64 ((w64 (Zx .and .u64 y140.1 (IntKind.wrap .u64 (y102-1))))-(w64 (v2-v1))))))]) (os':=[(0,.arr 2 (v134.map Za)),(109,.box (pvL [.int .u64 y140.2]))]) (O:=[]) kr (sound _ _) trivial ?_
 exact ⟨(w64 ((w64 (Zx .and .u64 y140.1 (IntKind.wrap .u64 (y102-1))))-(w64 (v2-v1)))),kr,kr,hF⟩ }
 {
 have hF:=Zj hF hb141
 refine WA.skip ?_
 exact ⟨(w64 (Zx .and .u64 y140.1 (IntKind.wrap .u64 (y102-1)))),kr,kr,hF⟩ } } }
  {
 have hF:=Zj hF hb139
 refine WA.exit ?_
 obtain rfl:=Option.some.inj hF
 exact Zcy (.tup []) [.arr 2 (v134.map Za)] kr kr kr kr (by decide) rfl rfl } }
 {
 have hF:=Zj hF hb101
 refine WA.skip ?_
 obtain rfl:=Option.some.inj hF
 exact Zcy (.tup []) [.arr 2 (v0.map Za)] kr kr kr kr (by decide) rfl rfl }
def Zde (k:Nat) (self1:(List Zb)→Int→Option (List Zb)) (v1:Int) (v142:List Zb) (v144:Int):Option (List Zb):=
  (cond (decide (v144≥0)) ((if (0:Int)≤(w64 (v1+v144))∧(w64 (v1+v144))<(v142.length:Int) then (idxL v142 (w64 (v1+v144))).bind fun y147=>if (0:Int)≤v1∧v1<(v142.length:Int) then (idxL v142 v1).bind fun y149=>if (0:Int)≤v1∧v1<(v142.length:Int) then (idxL v142 v1).bind fun y151=>if (0:Int)≤(w64 (v1+v144))∧(w64 (v1+v144))<((v142.set (Int.toNat v1) y147).length:Int) then (idxL (v142.set (Int.toNat v1) y147) (w64 (v1+v144))).bind fun y153=>(F176 k ((v142.set (Int.toNat v1) y147).set (Int.toNat (w64 (v1+v144))) y149) 0 v144 v1).bind fun y154=>if y154.length=((v142.set (Int.toNat v1) y147).set (Int.toNat (w64 (v1+v144))) y149).length then (self1 y154 (w64 (v144-1))) else none else none else none else none else none)) (some v142))
def ZaJ (k:Nat) (v1:Int):Nat→(List Zb)→Int→Option (List Zb)
  | 0,_,_=>none
  | m_+1,v142,v144=>Zde k (ZaJ k v1 m_) v1 v142 v144
def Zdd (k:Nat) (self0:(List Zb)→Int→Option (List Zb)) (v1:Int) (v2:Int) (v111:List Zb) (v113:Int):Option (List Zb):=
  (cond (decide (v113≥0)) ((F176 k v111 v113 (w64 (v2-v1)) v1).bind fun y115=>if y115.length=v111.length then (self0 y115 (w64 (v113-1))) else none) (((ZaJ k v1 k v111 (w64 ((w64 (v2-v1))-1))))))
def ZbD (k:Nat) (v1:Int) (v2:Int):Nat→(List Zb)→Int→Option (List Zb)
  | 0,_,_=>none
  | m_+1,v111,v113=>Zdd k (ZbD k v1 v2 m_) v1 v2 v111 v113
def F150 (k:Nat) (v0:List Zb) (v1:Int) (v2:Int):Option (List Zb):=
  (((if (2:Int)≠0 then (ZbD k v1 v2 k v0 (w64 (Int.tdiv (w64 ((w64 (v2-v1))-1)) 2))) else none)))
theorem ZnX (k:Nat) (v0:List Zb) (v1:Int) (v2:Int) (r:List Zb) (hF:F150 k v0 v1 v2=some r) {n0:Nat} (hn_n0:n0=v0.length):Sim Tryz.prog GL0 150 [.val false [.arr 0 n0],one (.int .i64 v1),one (.int .i64 v2),.val false [.pv (.fn 104)]] [.arr 2 (v0.map Za)] (.tup []) [.arr 2 (r.map Za)]:=by
 refine ZB [0] Tryz.func150 rfl kr kr ?_
 show WA _ _ 60 _ _ _
 refine WA.seq ?_
 refine WA.reg [0,1,2,3,8] [0] [] (env':=[(0,.val false [.arr 0 n0]),(1,one (.int .i64 v1)),(2,one (.int .i64 v2)),(3,.val false [.pv (.fn 104)]),(8,one (.int .i64 v1))]) (os':=[(0,.arr 2 (v0.map Za))]) (O:=[]) kr (sound _ _) trivial ?_
 refine WA.seq ?_
 refine WA.reg [0,1,2,3,8,9] [0] [] (env':=[(0,.val false [.arr 0 n0]),(1,one (.int .i64 v1)),(2,one (.int .i64 v2)),(3,.val false [.pv (.fn 104)]),(8,one (.int .i64 v1)),(9,one (.int .i64 0))]) (os':=[(0,.arr 2 (v0.map Za))]) (O:=[]) kr (sound _ _) trivial ?_
 refine WA.seq ?_
 refine WA.reg [0,3,8,9,10] [0] [] (env':=[(0,.val false [.arr 0 n0]),(3,.val false [.pv (.fn 104)]),(8,one (.int .i64 v1)),(9,one (.int .i64 0)),(10,one (.int .i64 (w64 (v2-v1))))]) (os':=[(0,.arr 2 (v0.map Za))]) (O:=[]) kr (sound _ _) trivial ?_
 refine WA.seq ?_
 refine WA.seq ?_
 obtain ⟨hc101,hF⟩:=Zo hF
 refine WA.reg [0,3,8,9,10,11] [0] [] (env':=[(0,.val false [.arr 0 n0]),(3,.val false [.pv (.fn 104)]),(8,one (.int .i64 v1)),(9,one (.int .i64 0)),(10,one (.int .i64 (w64 (v2-v1)))),(11,one (.int .i64 (w64 (Int.tdiv (w64 ((w64 (v2-v1))-1)) 2))))]) (os':=[(0,.arr 2 (v0.map Za))]) (O:=[(2:Int)≠0]) kr (sound _ _) ⟨hc101,trivial⟩ ?_
 refine WA.block ?_
 refine WA.loop (fun m s_=>∃(v111:List Zb) (v112:Nat) (v113:Int),Zl s_.env [0,3,8,9,10,11]=[(0,.val false [.arr 0 v112]),(3,.val false [.pv (.fn 104)]),(8,one (.int .i64 v1)),(9,one (.int .i64 0)),(10,one (.int .i64 (w64 (v2-v1)))),(11,one (.int .i64 v113))]∧Zl s_.os [0]=[(0,.arr 2 (v111.map Za))]∧v112=(v111:List _).length∧ZbD k v1 v2 m v111 v113=some r) k ⟨v0,n0,(w64 (Int.tdiv (w64 ((w64 (v2-v1))-1)) 2)),kr,kr,zt,hF⟩ ?_
 clear hF
 rintro m0 s_ ⟨v111,v112,v113,he,ho,hn_v112,hF⟩
 refine WA.keep _ _ he ho ?_
 clear he ho
 cases m0 with
 | zero=>cases hF
 | succ m0=>
  obtain ⟨self0,hself0⟩:∃g,g=ZbD k v1 v2 m0:=⟨_,rfl⟩
  have hF:Zdd k self0 v1 v2 v111 v113=some r:=by first | (rw [hself0];exact hF) | exact hF
  refine WA.seq ?_
  refine WA.seq ?_
  refine WA.reg [0,3,8,9,10,11,21] [0] [] (env':=[(0,.val false [.arr 0 v112]),(3,.val false [.pv (.fn 104)]),(8,one (.int .i64 v1)),(9,one (.int .i64 0)),(10,one (.int .i64 (w64 (v2-v1)))),(11,one (.int .i64 v113)),(21,one (.bool (decide (v113≥0))))]) (os':=[(0,.arr 2 (v111.map Za))]) (O:=[]) kr (sound _ _) trivial ?_
  refine WA.cond (b:=(decide (v113≥0))) rfl (fun hb114=>?_) (fun hb114=>?_)
  {
 have hF:=Zk hF hb114
 refine WA.skip ?_
 refine WA.seq ?_
 refine WA.block ?_
 obtain ⟨y115,hy115,hF⟩:=bind_some hF
 obtain ⟨hl116,hF⟩:=Zo hF
 refine WA.reg [0,3,8,9,10,11] [0] [(5,.call [0] (.tup []) [.arr 2 (y115.map Za)] [])] (env':=[(0,.val false [.arr 0 v112]),(3,.val false [.pv (.fn 104)]),(8,one (.int .i64 v1)),(9,one (.int .i64 0)),(10,one (.int .i64 (w64 (v2-v1)))),(11,one (.int .i64 v113))]) (os':=[(0,.arr 2 (y115.map Za))]) (O:=[Sim Tryz.prog GL0 176 [.val false [.arr 0 v112],one (.int .i64 v113),one (.int .i64 (w64 (v2-v1))),one (.int .i64 v1),.val false [.pv (.fn 104)]] [.arr 2 (v111.map Za)] (.tup []) [.arr 2 (y115.map Za)],([0]:List Nat).Nodup]) kr (sound _ _) ⟨(Zk6 k _ _ _ _ _ hy115 (n0:=v112) zt),(by decide),trivial⟩ ?_
 refine WA.reg [0,3,8,9,10,11] [0] [] (env':=[(0,.val false [.arr 0 v112]),(3,.val false [.pv (.fn 104)]),(8,one (.int .i64 v1)),(9,one (.int .i64 0)),(10,one (.int .i64 (w64 (v2-v1)))),(11,one (.int .i64 (w64 (v113-1))))]) (os':=[(0,.arr 2 (y115.map Za))]) (O:=[]) kr (sound _ _) trivial ?_
 exact ⟨m0,Nat.lt_succ_self _,y115,v112,(w64 (v113-1)),kr,kr,zt,by rw [hself0] at hF;exact hF⟩ }
  {
 have hF:=Zj hF hb114
 refine WA.exit ?_
 refine WA.seq ?_
 refine WA.reg [0,3,8,9,12] [0] [] (env':=[(0,.val false [.arr 0 v112]),(3,.val false [.pv (.fn 104)]),(8,one (.int .i64 v1)),(9,one (.int .i64 0)),(12,one (.int .i64 (w64 ((w64 (v2-v1))-1))))]) (os':=[(0,.arr 2 (v111.map Za))]) (O:=[]) kr (sound _ _) trivial ?_
 refine WA.block ?_
 refine WA.loop (fun m s_=>∃(v142:List Zb) (v143:Nat) (v144:Int),Zl s_.env [0,3,8,9,12]=[(0,.val false [.arr 0 v143]),(3,.val false [.pv (.fn 104)]),(8,one (.int .i64 v1)),(9,one (.int .i64 0)),(12,one (.int .i64 v144))]∧Zl s_.os [0]=[(0,.arr 2 (v142.map Za))]∧v143=(v142:List _).length∧ZaJ k v1 m v142 v144=some r) k ⟨v111,v112,(w64 ((w64 (v2-v1))-1)),kr,kr,zt,hF⟩ ?_
 clear hF
 rintro m1 s_ ⟨v142,v143,v144,he,ho,hn_v143,hF⟩
 refine WA.keep _ _ he ho ?_
 clear he ho
 cases m1 with
 | zero=>cases hF
 | succ m1=>
  obtain ⟨self1,hself1⟩:∃g,g=ZaJ k v1 m1:=⟨_,rfl⟩
  have hF:Zde k self1 v1 v142 v144=some r:=by first | (rw [hself1];exact hF) | exact hF
  refine WA.seq ?_
  refine WA.seq ?_
  refine WA.reg [0,3,8,9,12,33] [0] [] (env':=[(0,.val false [.arr 0 v143]),(3,.val false [.pv (.fn 104)]),(8,one (.int .i64 v1)),(9,one (.int .i64 0)),(12,one (.int .i64 v144)),(33,one (.bool (decide (v144≥0))))]) (os':=[(0,.arr 2 (v142.map Za))]) (O:=[]) kr (sound _ _) trivial ?_
  refine WA.cond (b:=(decide (v144≥0))) rfl (fun hb145=>?_) (fun hb145=>?_)
  {
 have hF:=Zk hF hb145
 refine WA.skip ?_
 refine WA.seq ?_
 refine WA.block ?_
 refine WA.seq ?_
 obtain ⟨hc146,hF⟩:=Zo hF
 obtain ⟨y147,hy147,hF⟩:=bind_some hF
 obtain ⟨hc148,hF⟩:=Zo hF
 obtain ⟨y149,hy149,hF⟩:=bind_some hF
 obtain ⟨hc150,hF⟩:=Zo hF
 obtain ⟨y151,hy151,hF⟩:=bind_some hF
 obtain ⟨hc152,hF⟩:=Zo hF
 obtain ⟨y153,hy153,hF⟩:=bind_some hF
 have z0:(w64 (v1+v144))<((v143:Nat):Int):=(by have h_:=hc146.2;(try simp only [zl,Zh] at h_ ⊢);omega)
 have z2:v1<((v143:Nat):Int):=(by have h_:=hc148.2;(try simp only [zl,Zh] at h_ ⊢);omega)
 refine WA.rdm (α:=(List (List PV))×(List (List PV))) (raw:=((((v142.map Za).set (Int.toNat v1) (Za y147)).set (Int.toNat (w64 (v1+v144))) (Za y149)),((v142.map Za).set (Int.toNat v1) (Za y147)))) (can:=((((v142.set (Int.toNat v1) y147).set (Int.toNat (w64 (v1+v144))) y149).map Za),((v142.set (Int.toNat v1) y147).map Za))) (fun m_=>([(0,.val false [.arr 0 v143]),(3,.val false [.pv (.fn 104)]),(8,one (.int .i64 v1)),(9,one (.int .i64 0)),(12,one (.int .i64 v144))],[(0,.arr 2 m_.1)],[v143=(v142.map Za).length,(0:Int)≤(w64 (v1+v144)),(w64 (v1+v144))<((v143:Nat):Int),v143=(v142.map Za).length,(v142.map Za)[Int.toNat (w64 (v1+v144))]?=some (Za y147),v143=(v142.map Za).length,(0:Int)≤v1,v1<((v143:Nat):Int),v143=(v142.map Za).length,(v142.map Za)[Int.toNat v1]?=some (Za y149),v143=(v142.map Za).length,(0:Int)≤v1,v1<((v143:Nat):Int),v143=(v142.map Za).length,(v142.map Za)[Int.toNat v1]?=some (Za y151),v143=m_.2.length,(0:Int)≤(w64 (v1+v144)),(w64 (v1+v144))<((v143:Nat):Int),v143=m_.2.length,m_.2[Int.toNat (w64 (v1+v144))]?=some (Za y153)])) (ZE zm zm) [0,3,8,9,12] [0] [(11,.cells (Za y147)),(15,.cells (Za y149)),(17,.cells (Za y151)),(19,.cells (Za y153))] kr kr kr (sound _ _) ⟨zt,hc146.1,z0,zt,(Zr (Zs _ hy147)),zt,hc148.1,z2,zt,(Zr (Zs _ hy149)),zt,hc150.1,z2,zt,(Zr (Zs _ hy151)),zt,hc152.1,z0,zt,(Zr (Zs _ hy153)),trivial⟩ ?_
 obtain ⟨y154,hy154,hF⟩:=bind_some hF
 obtain ⟨hl155,hF⟩:=Zo hF
 refine WA.reg [0,3,8,9,12] [0] [(5,.call [0] (.tup []) [.arr 2 (y154.map Za)] [])] (env':=[(0,.val false [.arr 0 v143]),(3,.val false [.pv (.fn 104)]),(8,one (.int .i64 v1)),(9,one (.int .i64 0)),(12,one (.int .i64 v144))]) (os':=[(0,.arr 2 (y154.map Za))]) (O:=[Sim Tryz.prog GL0 176 [.val false [.arr 0 v143],one (.int .i64 0),one (.int .i64 v144),one (.int .i64 v1),.val false [.pv (.fn 104)]] [.arr 2 (((v142.set (Int.toNat v1) y147).set (Int.toNat (w64 (v1+v144))) y149).map Za)] (.tup []) [.arr 2 (y154.map Za)],([0]:List Nat).Nodup]) kr (sound _ _) ⟨(Zk6 k _ _ _ _ _ hy154 (n0:=v143) zt),(by decide),trivial⟩ ?_
 refine WA.reg [0,3,8,9,12] [0] [] (env':=[(0,.val false [.arr 0 v143]),(3,.val false [.pv (.fn 104)]),(8,one (.int .i64 v1)),(9,one (.int .i64 0)),(12,one (.int .i64 (w64 (v144-1))))]) (os':=[(0,.arr 2 (y154.map Za))]) (O:=[]) kr (sound _ _) trivial ?_
 exact ⟨m1,Nat.lt_succ_self _,y154,v143,(w64 (v144-1)),kr,kr,zt,by rw [hself1] at hF;exact hF⟩ }
  {
 have hF:=Zj hF hb145
 refine WA.exit ?_
 obtain rfl:=Option.some.inj hF
 exact Zcy (.tup []) [.arr 2 (v142.map Za)] kr kr kr kr (by decide) rfl rfl } }
def Zcq (self8:(List Zb)→Int→Option (List Zb)) (self11:(List Zb)→Int→Option (List Zb)) (v216:Int) (v253:List Zb) (v255:Int) (v262:Bool):Option (List Zb):=
  cond v262 ((if (0:Int)≤(w64 (v255-1))∧(w64 (v255-1))<(v253.length:Int) then (idxL v253 (w64 (v255-1))).bind fun y265=>if (0:Int)≤v255∧v255<(v253.length:Int) then (idxL v253 v255).bind fun y267=>if (0:Int)≤v255∧v255<(v253.length:Int) then (idxL v253 v255).bind fun y269=>if (0:Int)≤(w64 (v255-1))∧(w64 (v255-1))<((v253.set (Int.toNat v255) y265).length:Int) then (idxL (v253.set (Int.toNat v255) y265) (w64 (v255-1))).bind fun y271=>(self11 ((v253.set (Int.toNat v255) y265).set (Int.toNat (w64 (v255-1))) y267) (w64 (v255-1))) else none else none else none else none)) ((self8 v253 (w64 (v216+1))))
def ZeX (k:Nat) (self8:(List Zb)→Int→Option (List Zb)) (self11:(List Zb)→Int→Option (List Zb)) (v1:Int) (v216:Int) (v253:List Zb) (v255:Int):Option (List Zb):=
  cond (decide (v255 > v1)) (if (0:Int)≤v255∧v255<(v253.length:Int) then (idxL v253 v255).bind fun y258=>if (0:Int)≤(w64 (v255-1))∧(w64 (v255-1))<(v253.length:Int) then (idxL v253 (w64 (v255-1))).bind fun y260=>(F104 k y258 y260).bind fun y261=>(Zcq self8 self11 v216 v253 v255 (decide (y261<0))) else none else none) ((Zcq self8 self11 v216 v253 v255 false))
def Zbn (k:Nat) (self8:(List Zb)→Int→Option (List Zb)) (v1:Int) (v216:Int):Nat→(List Zb)→Int→Option (List Zb)
  | 0,_,_=>none
  | m_+1,v253,v255=>ZeX k self8 (Zbn k self8 v1 v216 m_) v1 v216 v253 v255
def Zdc (k:Nat) (self8:(List Zb)→Int→Option (List Zb)) (v1:Int) (v2:Int) (v214:List Zb) (v216:Int):Option (List Zb):=
  (cond (decide (v216<v2)) (((Zbn k self8 v1 v216 k v214 v216))) (some v214))
def Zb4 (k:Nat) (v1:Int) (v2:Int):Nat→(List Zb)→Int→Option (List Zb)
  | 0,_,_=>none
  | m_+1,v214,v216=>Zdc k (Zb4 k v1 v2 m_) v1 v2 v214 v216
def F149 (k:Nat) (v0:List Zb) (v1:Int) (v2:Int):Option (List Zb):=
  (Zb4 k v1 v2 k v0 (w64 (v1+1)))
theorem ZnW (k:Nat) (v0:List Zb) (v1:Int) (v2:Int) (r:List Zb) (hF:F149 k v0 v1 v2=some r) {n0:Nat} (hn_n0:n0=v0.length):Sim Tryz.prog GL0 149 [.val false [.arr 0 n0],one (.int .i64 v1),one (.int .i64 v2),.val false [.pv (.fn 104)]] [.arr 2 (v0.map Za)] (.tup []) [.arr 2 (r.map Za)]:=by
 refine ZB [0] Tryz.func149 rfl kr kr ?_
 show WA _ _ 53 _ _ _
 refine WA.seq ?_
 refine WA.reg [0,1,2,3,8] [0] [] (env':=[(0,.val false [.arr 0 n0]),(1,one (.int .i64 v1)),(2,one (.int .i64 v2)),(3,.val false [.pv (.fn 104)]),(8,one (.int .i64 (w64 (v1+1))))]) (os':=[(0,.arr 2 (v0.map Za))]) (O:=[]) kr (sound _ _) trivial ?_
 refine WA.block ?_
 refine WA.loop (fun m s_=>∃(v214:List Zb) (v215:Nat) (v216:Int),Zl s_.env [0,1,2,3,8]=[(0,.val false [.arr 0 v215]),(1,one (.int .i64 v1)),(2,one (.int .i64 v2)),(3,.val false [.pv (.fn 104)]),(8,one (.int .i64 v216))]∧Zl s_.os [0]=[(0,.arr 2 (v214.map Za))]∧v215=(v214:List _).length∧Zb4 k v1 v2 m v214 v216=some r) k ⟨v0,n0,(w64 (v1+1)),kr,kr,zt,hF⟩ ?_
 clear hF
 rintro m8 s_ ⟨v214,v215,v216,he,ho,hn_v215,hF⟩
 refine WA.keep _ _ he ho ?_
 clear he ho
 cases m8 with
 | zero=>cases hF
 | succ m8=>
  obtain ⟨self8,hself8⟩:∃g,g=Zb4 k v1 v2 m8:=⟨_,rfl⟩
  have hF:Zdc k self8 v1 v2 v214 v216=some r:=by first | (rw [hself8];exact hF) | exact hF
  refine WA.seq ?_
  refine WA.seq ?_
  refine WA.reg [0,1,2,3,8,14] [0] [] (env':=[(0,.val false [.arr 0 v215]),(1,one (.int .i64 v1)),(2,one (.int .i64 v2)),(3,.val false [.pv (.fn 104)]),(8,one (.int .i64 v216)),(14,one (.bool (decide (v216<v2))))]) (os':=[(0,.arr 2 (v214.map Za))]) (O:=[]) kr (sound _ _) trivial ?_
  refine WA.cond (b:=(decide (v216<v2))) rfl (fun hb217=>?_) (fun hb217=>?_)
  {
 have hF:=Zk hF hb217
 refine WA.skip ?_
 refine WA.seq ?_
 refine WA.block ?_
 refine WA.seq ?_
 refine WA.reg [0,1,2,3,8,9] [0] [] (env':=[(0,.val false [.arr 0 v215]),(1,one (.int .i64 v1)),(2,one (.int .i64 v2)),(3,.val false [.pv (.fn 104)]),(8,one (.int .i64 v216)),(9,one (.int .i64 v216))]) (os':=[(0,.arr 2 (v214.map Za))]) (O:=[]) kr (sound _ _) trivial ?_
 refine WA.block ?_
 refine WA.loop (fun m s_=>∃(v253:List Zb) (v254:Nat) (v255:Int),Zl s_.env [0,1,2,3,8,9]=[(0,.val false [.arr 0 v254]),(1,one (.int .i64 v1)),(2,one (.int .i64 v2)),(3,.val false [.pv (.fn 104)]),(8,one (.int .i64 v216)),(9,one (.int .i64 v255))]∧Zl s_.os [0]=[(0,.arr 2 (v253.map Za))]∧v254=(v253:List _).length∧Zbn k self8 v1 v216 m v253 v255=some r) k ⟨v214,v215,v216,kr,kr,zt,hF⟩ ?_
 clear hF
 rintro m11 s_ ⟨v253,v254,v255,he,ho,hn_v254,hF⟩
 refine WA.keep _ _ he ho ?_
 clear he ho
 cases m11 with
 | zero=>cases hF
 | succ m11=>
  obtain ⟨self11,hself11⟩:∃g,g=Zbn k self8 v1 v216 m11:=⟨_,rfl⟩
  have hF:ZeX k self8 self11 v1 v216 v253 v255=some r:=by first | (rw [hself11];exact hF) | exact hF
  refine WA.seq ?_
  refine WA.join (fun s_=>∃(v262:Bool),Zl s_.env [0,1,2,3,8,9,34]=[(0,.val false [.arr 0 v254]),(1,one (.int .i64 v1)),(2,one (.int .i64 v2)),(3,.val false [.pv (.fn 104)]),(8,one (.int .i64 v216)),(9,one (.int .i64 v255)),(34,one (.bool v262))]∧Zl s_.os [0]=[(0,.arr 2 (v253.map Za))]∧Zcq self8 self11 v216 v253 v255 v262=some r) ?_ ?_
  {
 rintro s_ ⟨v262,he,ho,hF⟩
 refine WA.keep _ _ he ho ?_
 clear he ho
 refine WA.cond (b:=v262) rfl (fun hb263=>?_) (fun hb263=>?_)
 {
 have hF:=Zk hF hb263
 refine WA.skip ?_
 refine WA.seq ?_
 refine WA.block ?_
 obtain ⟨hc264,hF⟩:=Zo hF
 obtain ⟨y265,hy265,hF⟩:=bind_some hF
 obtain ⟨hc266,hF⟩:=Zo hF
 obtain ⟨y267,hy267,hF⟩:=bind_some hF
 obtain ⟨hc268,hF⟩:=Zo hF
 obtain ⟨y269,hy269,hF⟩:=bind_some hF
 obtain ⟨hc270,hF⟩:=Zo hF
 obtain ⟨y271,hy271,hF⟩:=bind_some hF
 have z0:(w64 (v255-1))<((v254:Nat):Int):=(by have h_:=hc264.2;(try simp only [zl,Zh] at h_ ⊢);omega)
 have z2:v255<((v254:Nat):Int):=(by have h_:=hc266.2;(try simp only [zl,Zh] at h_ ⊢);omega)
 refine WA.rdm (α:=(List (List PV))×(List (List PV))) (raw:=((((v253.map Za).set (Int.toNat v255) (Za y265)).set (Int.toNat (w64 (v255-1))) (Za y267)),((v253.map Za).set (Int.toNat v255) (Za y265)))) (can:=((((v253.set (Int.toNat v255) y265).set (Int.toNat (w64 (v255-1))) y267).map Za),((v253.set (Int.toNat v255) y265).map Za))) (fun m_=>([(0,.val false [.arr 0 v254]),(1,one (.int .i64 v1)),(2,one (.int .i64 v2)),(3,.val false [.pv (.fn 104)]),(8,one (.int .i64 v216)),(9,one (.int .i64 v255))],[(0,.arr 2 m_.1)],[v254=(v253.map Za).length,(0:Int)≤(w64 (v255-1)),(w64 (v255-1))<((v254:Nat):Int),v254=(v253.map Za).length,(v253.map Za)[Int.toNat (w64 (v255-1))]?=some (Za y265),v254=(v253.map Za).length,(0:Int)≤v255,v255<((v254:Nat):Int),v254=(v253.map Za).length,(v253.map Za)[Int.toNat v255]?=some (Za y267),v254=(v253.map Za).length,(0:Int)≤v255,v255<((v254:Nat):Int),v254=(v253.map Za).length,(v253.map Za)[Int.toNat v255]?=some (Za y269),v254=m_.2.length,(0:Int)≤(w64 (v255-1)),(w64 (v255-1))<((v254:Nat):Int),v254=m_.2.length,m_.2[Int.toNat (w64 (v255-1))]?=some (Za y271)])) (ZE zm zm) [0,1,2,3,8,9] [0] [(9,.cells (Za y265)),(13,.cells (Za y267)),(15,.cells (Za y269)),(17,.cells (Za y271))] kr kr kr (sound _ _) ⟨zt,hc264.1,z0,zt,(Zr (Zs _ hy265)),zt,hc266.1,z2,zt,(Zr (Zs _ hy267)),zt,hc268.1,z2,zt,(Zr (Zs _ hy269)),zt,hc270.1,z0,zt,(Zr (Zs _ hy271)),trivial⟩ ?_
 refine WA.reg [0,1,2,3,8,9] [0] [] (env':=[(0,.val false [.arr 0 v254]),(1,one (.int .i64 v1)),(2,one (.int .i64 v2)),(3,.val false [.pv (.fn 104)]),(8,one (.int .i64 v216)),(9,one (.int .i64 (w64 (v255-1))))]) (os':=[(0,.arr 2 (((v253.set (Int.toNat v255) y265).set (Int.toNat (w64 (v255-1))) y267).map Za))]) (O:=[]) kr (sound _ _) trivial ?_
 exact ⟨m11,Nat.lt_succ_self _,((v253.set (Int.toNat v255) y265).set (Int.toNat (w64 (v255-1))) y267),v254,(w64 (v255-1)),kr,kr,zt,by rw [hself11] at hF;exact hF⟩ }
 {
 have hF:=Zj hF hb263
 refine WA.exit ?_
 refine WA.reg [0,1,2,3,8] [0] [] (env':=[(0,.val false [.arr 0 v254]),(1,one (.int .i64 v1)),(2,one (.int .i64 v2)),(3,.val false [.pv (.fn 104)]),(8,one (.int .i64 (w64 (v216+1))))]) (os':=[(0,.arr 2 (v253.map Za))]) (O:=[]) kr (sound _ _) trivial ?_
 exact ⟨m8,Nat.lt_succ_self _,v253,v254,(w64 (v216+1)),kr,kr,zt,by rw [hself8] at hF;exact hF⟩ } }
  {
 rcases Bool.eq_false_or_eq_true (decide (v255 > v1)) with hb256 | hb256
 {
 have hF:=Zk hF hb256
 obtain ⟨hc257,hF⟩:=Zo hF
 obtain ⟨y258,hy258,hF⟩:=bind_some hF
 obtain ⟨hc259,hF⟩:=Zo hF
 obtain ⟨y260,hy260,hF⟩:=bind_some hF
 obtain ⟨y261,hy261,hF⟩:=bind_some hF
 refine WA.regD kr [0,1,2,3,8,9,34] [0] [(3,.bool true),(8,.cells (Za y258)),(13,.cells (Za y260)),(14,.callR [] (one (.int .i64 y261)))] (env':=[(0,.val false [.arr 0 v254]),(1,one (.int .i64 v1)),(2,one (.int .i64 v2)),(3,.val false [.pv (.fn 104)]),(8,one (.int .i64 v216)),(9,one (.int .i64 v255)),(34,one (.bool (decide (y261<0))))]) (os':=[(0,.arr 2 (v253.map Za))]) (O:=[(decide (v255 > v1))=true,v254=(v253.map Za).length,(0:Int)≤v255,v255<((v254:Nat):Int),v254=(v253.map Za).length,(v253.map Za)[Int.toNat v255]?=some (Za y258),v254=(v253.map Za).length,(0:Int)≤(w64 (v255-1)),(w64 (v255-1))<((v254:Nat):Int),v254=(v253.map Za).length,(v253.map Za)[Int.toNat (w64 (v255-1))]?=some (Za y260),Sim Tryz.prog GL0 104 [.val true (pvL (Za y258)),.val true (pvL (Za y260))] [] (one (.int .i64 y261)) [],([]:List Nat).Nodup]) kr kr (sound _ _) ⟨hb256,zt,hc257.1,(by have h_:=hc257.2;(try simp only [zl,Zh] at h_ ⊢);omega),zt,(Zr (Zs _ hy258)),zt,hc259.1,(by have h_:=hc259.2;(try simp only [zl,Zh] at h_ ⊢);omega),zt,(Zr (Zs _ hy260)),(Zap k _ _ _ hy261),(by decide),trivial⟩ ?_
 exact ⟨(decide (y261<0)),kr,kr,hF⟩ }
 {
 have hF:=Zj hF hb256
 refine WA.regD kr [0,1,2,3,8,9,34] [0] [(3,.bool false),(14,.callR [] (.tup []))] (env':=[(0,.val false [.arr 0 v254]),(1,one (.int .i64 v1)),(2,one (.int .i64 v2)),(3,.val false [.pv (.fn 104)]),(8,one (.int .i64 v216)),(9,one (.int .i64 v255)),(34,one (.bool false))]) (os':=[(0,.arr 2 (v253.map Za))]) (O:=[(decide (v255 > v1))=false]) kr kr (sound _ _) ⟨hb256,trivial⟩ ?_
 exact ⟨false,kr,kr,hF⟩ } } }
  {
 have hF:=Zj hF hb217
 refine WA.exit ?_
 obtain rfl:=Option.some.inj hF
 exact Zcy (.tup []) [.arr 2 (v214.map Za)] kr kr kr kr (by decide) rfl rfl }
def Zcn (R121:(List Zb)→Int→Int→Int→Option (List Zb)) (k:Nat) (self13:(List Zb)→Int→Int→Int→Bool→Bool→Option (List Zb)) (v252:Int) (v253:Int) (v255:Bool) (v256:Bool) (v268:Int) (v276:Int) (v285:List Zb) (v293:Bool):Option (List Zb):=
  cond v293 ((F155 k v285 v252 v253 v276).bind fun y295=>if y295.2.length=v285.length then ((self13 y295.2 y295.1 v253 v268 v255 v256)) else none) ((F156 k v285 v252 v253 v276).bind fun y297=>if y297.2.2.length=v285.length then (((if (8:Int)≠0 then ((cond (decide ((w64 (y297.1-v252))<(w64 (v253-y297.1)))) ((R121 y297.2.2 v252 y297.1 v268).bind fun y301=>if y301.length=y297.2.2.length then (self13 y301 (w64 (y297.1+1)) v253 v268 (decide ((w64 (y297.1-v252))≥(w64 (Int.tdiv (w64 (v253-v252)) 8)))) y297.2.1) else none) ((R121 y297.2.2 (w64 (y297.1+1)) v253 v268).bind fun y303=>if y303.length=y297.2.2.length then (self13 y303 v252 y297.1 v268 (decide ((w64 (v253-y297.1))≥(w64 (Int.tdiv (w64 (v253-v252)) 8)))) y297.2.1) else none))) else none))) else none)
def Zdw (R121:(List Zb)→Int→Int→Int→Option (List Zb)) (k:Nat) (self13:(List Zb)→Int→Int→Int→Bool→Bool→Option (List Zb)) (v252:Int) (v253:Int) (v255:Bool) (v256:Bool) (v268:Int) (v276:Int) (v285:List Zb):Option (List Zb):=
  cond (decide (v252 > 0)) (if (0:Int)≤(w64 (v252-1))∧(w64 (v252-1))<(v285.length:Int) then (idxL v285 (w64 (v252-1))).bind fun y289=>if (0:Int)≤v276∧v276<(v285.length:Int) then (idxL v285 v276).bind fun y291=>(F104 k y289 y291).bind fun y292=>(Zcn R121 k self13 v252 v253 v255 v256 v268 v276 v285 (!(decide (y292<0)))) else none else none) ((Zcn R121 k self13 v252 v253 v255 v256 v268 v276 v285 false))
def Zcm (R121:(List Zb)→Int→Int→Int→Option (List Zb)) (k:Nat) (self13:(List Zb)→Int→Int→Int→Bool→Bool→Option (List Zb)) (v252:Int) (v253:Int) (v255:Bool) (v256:Bool) (v268:Int) (v274:List Zb) (v276:Int) (v280:Bool):Option (List Zb):=
  cond v280 ((F154 k v274 v252 v253).bind fun y282=>if y282.2.length=v274.length then (cond y282.1 (some y282.2) ((Zdw R121 k self13 v252 v253 v255 v256 v268 v276 y282.2))) else none) ((Zdw R121 k self13 v252 v253 v255 v256 v268 v276 v274))
def Zdv (R121:(List Zb)→Int→Int→Int→Option (List Zb)) (k:Nat) (self13:(List Zb)→Int→Int→Int→Bool→Bool→Option (List Zb)) (v252:Int) (v253:Int) (v255:Bool) (v256:Bool) (v268:Int) (v274:List Zb) (v276:Int) (v277:Int):Option (List Zb):=
  cond v255 (cond v256 ((Zcm R121 k self13 v252 v253 v255 v256 v268 v274 v276 (v277 == 1))) ((Zcm R121 k self13 v252 v253 v255 v256 v268 v274 v276 false))) ((Zcm R121 k self13 v252 v253 v255 v256 v268 v274 v276 false))
def Zdu (R121:(List Zb)→Int→Int→Int→Option (List Zb)) (k:Nat) (self13:(List Zb)→Int→Int→Int→Bool→Bool→Option (List Zb)) (v252:Int) (v253:Int) (v255:Bool) (v256:Bool) (v266:List Zb) (v268:Int):Option (List Zb):=
  (F152 k v266 v252 v253).bind fun y269=>if y269.2.2.length=v266.length then ((cond (y269.2.1 == 2) ((F153 k y269.2.2 v252 v253).bind fun y272=>if y272.length=y269.2.2.length then (((Zdv R121 k self13 v252 v253 v255 v256 v268 y272 (w64 ((w64 (v253-1))-(w64 (y269.1-v252)))) 1))) else none) ((Zdv R121 k self13 v252 v253 v255 v256 v268 y269.2.2 y269.1 y269.2.1)))) else none
def ZeW (R121:(List Zb)→Int→Int→Int→Option (List Zb)) (k:Nat) (self13:(List Zb)→Int→Int→Int→Bool→Bool→Option (List Zb)) (v250:List Zb) (v252:Int) (v253:Int) (v254:Int) (v255:Bool) (v256:Bool):Option (List Zb):=
  ((cond (decide ((w64 (v253-v252))≤12)) ((F149 k v250 v252 v253).bind fun y258=>if y258.length=v250.length then (some y258) else none) (((cond (v254 == 0) ((F150 k v250 v252 v253).bind fun y261=>if y261.length=v250.length then (some y261) else none) (((cond (!v255) ((F151 k v250 v252 v253).bind fun y264=>if y264.length=v250.length then ((Zdu R121 k self13 v252 v253 v255 v256 y264 (w64 (v254-1)))) else none) ((Zdu R121 k self13 v252 v253 v255 v256 v250 v254))))))))))
def Zag (R121:(List Zb)→Int→Int→Int→Option (List Zb)) (k:Nat):Nat→(List Zb)→Int→Int→Int→Bool→Bool→Option (List Zb)
  | 0,_,_,_,_,_,_=>none
  | m_+1,v250,v252,v253,v254,v255,v256=>ZeW R121 k (Zag R121 k m_) v250 v252 v253 v254 v255 v256
def ZlV (R121:(List Zb)→Int→Int→Int→Option (List Zb)) (k:Nat) (v0:List Zb) (v1:Int) (v2:Int) (v3:Int):Option (List Zb):=
  ((Zag R121 k k v0 v1 v2 v3 true true))
theorem ZlW (R121:(List Zb)→Int→Int→Int→Option (List Zb)) (IH121:∀(v0:List Zb) (v1:Int) (v2:Int) (v3:Int) (r:List Zb),R121 v0 v1 v2 v3=some r→∀{n0:Nat},n0=v0.length→Sim Tryz.prog GL0 121 [.val false [.arr 0 n0],one (.int .i64 v1),one (.int .i64 v2),one (.int .i64 v3),.val false [.pv (.fn 104)]] [.arr 2 (v0.map Za)] (.tup []) [.arr 2 (r.map Za)]) (k:Nat) (v0:List Zb) (v1:Int) (v2:Int) (v3:Int) (r:List Zb) (hF:ZlV R121 k v0 v1 v2 v3=some r) {n0:Nat} (hn_n0:n0=v0.length):Sim Tryz.prog GL0 121 [.val false [.arr 0 n0],one (.int .i64 v1),one (.int .i64 v2),one (.int .i64 v3),.val false [.pv (.fn 104)]] [.arr 2 (v0.map Za)] (.tup []) [.arr 2 (r.map Za)]:=by
 refine ZB [0] Tryz.func121 rfl kr kr ?_
 show WA _ _ 148 _ _ _
 refine WA.seq ?_
 refine WA.reg [0,1,2,3,4,10] [0] [] (env':=[(0,.val false [.arr 0 n0]),(1,one (.int .i64 v1)),(2,one (.int .i64 v2)),(3,one (.int .i64 v3)),(4,.val false [.pv (.fn 104)]),(10,one (.bool true))]) (os':=[(0,.arr 2 (v0.map Za))]) (O:=[]) kr (sound _ _) trivial ?_
 refine WA.seq ?_
 refine WA.reg [0,1,2,3,4,10,11] [0] [] (env':=[(0,.val false [.arr 0 n0]),(1,one (.int .i64 v1)),(2,one (.int .i64 v2)),(3,one (.int .i64 v3)),(4,.val false [.pv (.fn 104)]),(10,one (.bool true)),(11,one (.bool true))]) (os':=[(0,.arr 2 (v0.map Za))]) (O:=[]) kr (sound _ _) trivial ?_
 refine WA.block ?_
 refine WA.loop (fun m s_=>∃(v250:List Zb) (v251:Nat) (v252:Int) (v253:Int) (v254:Int) (v255:Bool) (v256:Bool),Zl s_.env [0,1,2,3,4,10,11]=[(0,.val false [.arr 0 v251]),(1,one (.int .i64 v252)),(2,one (.int .i64 v253)),(3,one (.int .i64 v254)),(4,.val false [.pv (.fn 104)]),(10,one (.bool v255)),(11,one (.bool v256))]∧Zl s_.os [0]=[(0,.arr 2 (v250.map Za))]∧v251=(v250:List _).length∧Zag R121 k m v250 v252 v253 v254 v255 v256=some r) k ⟨v0,n0,v1,v2,v3,true,true,kr,kr,zt,hF⟩ ?_
 clear hF
 rintro m13 s_ ⟨v250,v251,v252,v253,v254,v255,v256,he,ho,hn_v251,hF⟩
 refine WA.keep _ _ he ho ?_
 clear he ho
 cases m13 with
 | zero=>cases hF
 | succ m13=>
  obtain ⟨self13,hself13⟩:∃g,g=Zag R121 k m13:=⟨_,rfl⟩
  have hF:ZeW R121 k self13 v250 v252 v253 v254 v255 v256=some r:=by first | (rw [hself13];exact hF) | exact hF
  refine WA.block ?_
  refine WA.seq ?_
  refine WA.reg [0,1,2,3,4,10,11,12] [0] [] (env':=[(0,.val false [.arr 0 v251]),(1,one (.int .i64 v252)),(2,one (.int .i64 v253)),(3,one (.int .i64 v254)),(4,.val false [.pv (.fn 104)]),(10,one (.bool v255)),(11,one (.bool v256)),(12,one (.int .i64 (w64 (v253-v252))))]) (os':=[(0,.arr 2 (v250.map Za))]) (O:=[]) kr (sound _ _) trivial ?_
  refine WA.seq ?_
  refine WA.seq ?_
  refine WA.reg [0,1,2,3,4,10,11,12,25] [0] [] (env':=[(0,.val false [.arr 0 v251]),(1,one (.int .i64 v252)),(2,one (.int .i64 v253)),(3,one (.int .i64 v254)),(4,.val false [.pv (.fn 104)]),(10,one (.bool v255)),(11,one (.bool v256)),(12,one (.int .i64 (w64 (v253-v252)))),(25,one (.bool (decide ((w64 (v253-v252))≤12))))]) (os':=[(0,.arr 2 (v250.map Za))]) (O:=[]) kr (sound _ _) trivial ?_
  refine WA.cond (b:=(decide ((w64 (v253-v252))≤12))) rfl (fun hb257=>?_) (fun hb257=>?_)
  {
 have hF:=Zk hF hb257
 refine WA.seq ?_
 obtain ⟨y258,hy258,hF⟩:=bind_some hF
 obtain ⟨hl259,hF⟩:=Zo hF
 refine WA.reg [] [0] [(4,.call [0] (.tup []) [.arr 2 (y258.map Za)] [])] (env':=[]) (os':=[(0,.arr 2 (y258.map Za))]) (O:=[Sim Tryz.prog GL0 149 [.val false [.arr 0 v251],one (.int .i64 v252),one (.int .i64 v253),.val false [.pv (.fn 104)]] [.arr 2 (v250.map Za)] (.tup []) [.arr 2 (y258.map Za)],([0]:List Nat).Nodup]) kr (sound _ _) ⟨(ZnW k _ _ _ _ hy258 (n0:=v251) zt),(by decide),trivial⟩ ?_
 refine WA.ret ?_
 obtain rfl:=Option.some.inj hF
 exact Zp (.tup []) [.arr 2 (y258.map Za)] kr kr kr kr (by decide) rfl rfl }
  {
 have hF:=Zj hF hb257
 refine WA.skip ?_
 refine WA.seq ?_
 refine WA.seq ?_
 refine WA.reg [0,1,2,3,4,10,11,12,32] [0] [] (env':=[(0,.val false [.arr 0 v251]),(1,one (.int .i64 v252)),(2,one (.int .i64 v253)),(3,one (.int .i64 v254)),(4,.val false [.pv (.fn 104)]),(10,one (.bool v255)),(11,one (.bool v256)),(12,one (.int .i64 (w64 (v253-v252)))),(32,one (.bool (v254 == 0)))]) (os':=[(0,.arr 2 (v250.map Za))]) (O:=[]) kr (sound _ _) trivial ?_
 refine WA.cond (b:=(v254 == 0)) rfl (fun hb260=>?_) (fun hb260=>?_)
 {
 have hF:=Zk hF hb260
 refine WA.seq ?_
 obtain ⟨y261,hy261,hF⟩:=bind_some hF
 obtain ⟨hl262,hF⟩:=Zo hF
 refine WA.reg [] [0] [(4,.call [0] (.tup []) [.arr 2 (y261.map Za)] [])] (env':=[]) (os':=[(0,.arr 2 (y261.map Za))]) (O:=[Sim Tryz.prog GL0 150 [.val false [.arr 0 v251],one (.int .i64 v252),one (.int .i64 v253),.val false [.pv (.fn 104)]] [.arr 2 (v250.map Za)] (.tup []) [.arr 2 (y261.map Za)],([0]:List Nat).Nodup]) kr (sound _ _) ⟨(ZnX k _ _ _ _ hy261 (n0:=v251) zt),(by decide),trivial⟩ ?_
 refine WA.ret ?_
 obtain rfl:=Option.some.inj hF
 exact Zp (.tup []) [.arr 2 (y261.map Za)] kr kr kr kr (by decide) rfl rfl }
 {
 have hF:=Zj hF hb260
 refine WA.skip ?_
 refine WA.join (fun s_=>∃(v266:List Zb) (v267:Nat) (v268:Int),Zl s_.env [0,1,2,3,4,10,11,12]=[(0,.val false [.arr 0 v267]),(1,one (.int .i64 v252)),(2,one (.int .i64 v253)),(3,one (.int .i64 v268)),(4,.val false [.pv (.fn 104)]),(10,one (.bool v255)),(11,one (.bool v256)),(12,one (.int .i64 (w64 (v253-v252))))]∧Zl s_.os [0]=[(0,.arr 2 (v266.map Za))]∧v267=(v266:List _).length∧Zdu R121 k self13 v252 v253 v255 v256 v266 v268=some r) ?_ ?_
 {
 rintro s_ ⟨v266,v267,v268,he,ho,hn_v267,hF⟩
 refine WA.keep _ _ he ho ?_
 clear he ho
 refine WA.seq ?_
 obtain ⟨y269,hy269,hF⟩:=bind_some hF
 obtain ⟨hl270,hF⟩:=Zo hF
 refine WA.reg [0,1,2,3,4,10,11,12,13,14] [0] [(4,.call [0] (.tup [(false,[.pv (.int .i64 y269.1)]),(false,[.pv (.int .i64 y269.2.1)])]) [.arr 2 (y269.2.2.map Za)] [])] (env':=[(0,.val false [.arr 0 v267]),(1,one (.int .i64 v252)),(2,one (.int .i64 v253)),(3,one (.int .i64 v268)),(4,.val false [.pv (.fn 104)]),(10,one (.bool v255)),(11,one (.bool v256)),(12,one (.int .i64 (w64 (v253-v252)))),(13,one (.int .i64 y269.1)),(14,one (.int .i64 y269.2.1))]) (os':=[(0,.arr 2 (y269.2.2.map Za))]) (O:=[Sim Tryz.prog GL0 152 [.val false [.arr 0 v267],one (.int .i64 v252),one (.int .i64 v253),.val false [.pv (.fn 104)]] [.arr 2 (v266.map Za)] (.tup [(false,[.pv (.int .i64 y269.1)]),(false,[.pv (.int .i64 y269.2.1)])]) [.arr 2 (y269.2.2.map Za)],([0]:List Nat).Nodup]) kr (sound _ _) ⟨(ZnZ k _ _ _ _ hy269 (n0:=v267) zt),(by decide),trivial⟩ ?_
 refine WA.join (fun s_=>∃(v274:List Zb) (v275:Nat) (v276:Int) (v277:Int),Zl s_.env [0,1,2,3,4,10,11,12,13,14]=[(0,.val false [.arr 0 v275]),(1,one (.int .i64 v252)),(2,one (.int .i64 v253)),(3,one (.int .i64 v268)),(4,.val false [.pv (.fn 104)]),(10,one (.bool v255)),(11,one (.bool v256)),(12,one (.int .i64 (w64 (v253-v252)))),(13,one (.int .i64 v276)),(14,one (.int .i64 v277))]∧Zl s_.os [0]=[(0,.arr 2 (v274.map Za))]∧v275=(v274:List _).length∧Zdv R121 k self13 v252 v253 v255 v256 v268 v274 v276 v277=some r) ?_ ?_
 {
 rintro s_ ⟨v274,v275,v276,v277,he,ho,hn_v275,hF⟩
 refine WA.keep _ _ he ho ?_
 clear he ho
 refine WA.join (fun s_=>∃(v285:List Zb) (v286:Nat),Zl s_.env [0,1,2,3,4,10,11,12,13]=[(0,.val false [.arr 0 v286]),(1,one (.int .i64 v252)),(2,one (.int .i64 v253)),(3,one (.int .i64 v268)),(4,.val false [.pv (.fn 104)]),(10,one (.bool v255)),(11,one (.bool v256)),(12,one (.int .i64 (w64 (v253-v252)))),(13,one (.int .i64 v276))]∧Zl s_.os [0]=[(0,.arr 2 (v285.map Za))]∧v286=(v285:List _).length∧Zdw R121 k self13 v252 v253 v255 v256 v268 v276 v285=some r) ?_ ?_
 {
 rintro s_ ⟨v285,v286,he,ho,hn_v286,hF⟩
 refine WA.keep _ _ he ho ?_
 clear he ho
 refine WA.seq ?_
 refine WA.join (fun s_=>∃(v293:Bool),Zl s_.env [0,1,2,3,4,10,11,12,13,97]=[(0,.val false [.arr 0 v286]),(1,one (.int .i64 v252)),(2,one (.int .i64 v253)),(3,one (.int .i64 v268)),(4,.val false [.pv (.fn 104)]),(10,one (.bool v255)),(11,one (.bool v256)),(12,one (.int .i64 (w64 (v253-v252)))),(13,one (.int .i64 v276)),(97,one (.bool v293))]∧Zl s_.os [0]=[(0,.arr 2 (v285.map Za))]∧Zcn R121 k self13 v252 v253 v255 v256 v268 v276 v285 v293=some r) ?_ ?_
 {
 rintro s_ ⟨v293,he,ho,hF⟩
 refine WA.keep _ _ he ho ?_
 clear he ho
 refine WA.cond (b:=v293) rfl (fun hb294=>?_) (fun hb294=>?_)
 {
 have hF:=Zk hF hb294
 refine WA.seq ?_
 obtain ⟨y295,hy295,hF⟩:=bind_some hF
 obtain ⟨hl296,hF⟩:=Zo hF
 refine WA.reg [0,2,3,4,10,11,15] [0] [(5,.call [0] (one (.int .i64 y295.1)) [.arr 2 (y295.2.map Za)] [])] (env':=[(0,.val false [.arr 0 v286]),(2,one (.int .i64 v253)),(3,one (.int .i64 v268)),(4,.val false [.pv (.fn 104)]),(10,one (.bool v255)),(11,one (.bool v256)),(15,one (.int .i64 y295.1))]) (os':=[(0,.arr 2 (y295.2.map Za))]) (O:=[Sim Tryz.prog GL0 155 [.val false [.arr 0 v286],one (.int .i64 v252),one (.int .i64 v253),one (.int .i64 v276),.val false [.pv (.fn 104)]] [.arr 2 (v285.map Za)] (one (.int .i64 y295.1)) [.arr 2 (y295.2.map Za)],([0]:List Nat).Nodup]) kr (sound _ _) ⟨(Zn2 k _ _ _ _ _ hy295 (n0:=v286) zt),(by decide),trivial⟩ ?_
 refine WA.seq ?_
 refine WA.reg [0,1,2,3,4,10,11] [0] [] (env':=[(0,.val false [.arr 0 v286]),(1,one (.int .i64 y295.1)),(2,one (.int .i64 v253)),(3,one (.int .i64 v268)),(4,.val false [.pv (.fn 104)]),(10,one (.bool v255)),(11,one (.bool v256))]) (os':=[(0,.arr 2 (y295.2.map Za))]) (O:=[]) kr (sound _ _) trivial ?_
 refine WA.exit ?_
 exact ⟨m13,Nat.lt_succ_self _,y295.2,v286,y295.1,v253,v268,v255,v256,kr,kr,zt,by rw [hself13] at hF;exact hF⟩ }
 {
 have hF:=Zj hF hb294
 refine WA.skip ?_
 refine WA.seq ?_
 obtain ⟨y297,hy297,hF⟩:=bind_some hF
 obtain ⟨hl298,hF⟩:=Zo hF
 refine WA.reg [0,1,2,3,4,12,16,17] [0] [(5,.call [0] (.tup [(false,[.pv (.int .i64 y297.1)]),(false,[.pv (.bool y297.2.1)])]) [.arr 2 (y297.2.2.map Za)] [])] (env':=[(0,.val false [.arr 0 v286]),(1,one (.int .i64 v252)),(2,one (.int .i64 v253)),(3,one (.int .i64 v268)),(4,.val false [.pv (.fn 104)]),(12,one (.int .i64 (w64 (v253-v252)))),(16,one (.int .i64 y297.1)),(17,one (.bool y297.2.1))]) (os':=[(0,.arr 2 (y297.2.2.map Za))]) (O:=[Sim Tryz.prog GL0 156 [.val false [.arr 0 v286],one (.int .i64 v252),one (.int .i64 v253),one (.int .i64 v276),.val false [.pv (.fn 104)]] [.arr 2 (v285.map Za)] (.tup [(false,[.pv (.int .i64 y297.1)]),(false,[.pv (.bool y297.2.1)])]) [.arr 2 (y297.2.2.map Za)],([0]:List Nat).Nodup]) kr (sound _ _) ⟨(Zn3 k _ _ _ _ _ hy297 (n0:=v286) zt),(by decide),trivial⟩ ?_
 refine WA.seq ?_
 refine WA.reg [0,1,2,3,4,11,12,16] [0] [] (env':=[(0,.val false [.arr 0 v286]),(1,one (.int .i64 v252)),(2,one (.int .i64 v253)),(3,one (.int .i64 v268)),(4,.val false [.pv (.fn 104)]),(11,one (.bool y297.2.1)),(12,one (.int .i64 (w64 (v253-v252)))),(16,one (.int .i64 y297.1))]) (os':=[(0,.arr 2 (y297.2.2.map Za))]) (O:=[]) kr (sound _ _) trivial ?_
 refine WA.seq ?_
 refine WA.reg [0,1,2,3,4,11,12,16,18,19] [0] [] (env':=[(0,.val false [.arr 0 v286]),(1,one (.int .i64 v252)),(2,one (.int .i64 v253)),(3,one (.int .i64 v268)),(4,.val false [.pv (.fn 104)]),(11,one (.bool y297.2.1)),(12,one (.int .i64 (w64 (v253-v252)))),(16,one (.int .i64 y297.1)),(18,one (.int .i64 (w64 (y297.1-v252)))),(19,one (.int .i64 (w64 (v253-y297.1))))]) (os':=[(0,.arr 2 (y297.2.2.map Za))]) (O:=[]) kr (sound _ _) trivial ?_
 refine WA.seq ?_
 obtain ⟨hc299,hF⟩:=Zo hF
 refine WA.reg [0,1,2,3,4,11,16,18,19,20] [0] [] (env':=[(0,.val false [.arr 0 v286]),(1,one (.int .i64 v252)),(2,one (.int .i64 v253)),(3,one (.int .i64 v268)),(4,.val false [.pv (.fn 104)]),(11,one (.bool y297.2.1)),(16,one (.int .i64 y297.1)),(18,one (.int .i64 (w64 (y297.1-v252)))),(19,one (.int .i64 (w64 (v253-y297.1)))),(20,one (.int .i64 (w64 (Int.tdiv (w64 (v253-v252)) 8))))]) (os':=[(0,.arr 2 (y297.2.2.map Za))]) (O:=[(8:Int)≠0]) kr (sound _ _) ⟨hc299,trivial⟩ ?_
 refine WA.seq ?_
 refine WA.reg [0,1,2,3,4,11,16,18,19,20,125] [0] [] (env':=[(0,.val false [.arr 0 v286]),(1,one (.int .i64 v252)),(2,one (.int .i64 v253)),(3,one (.int .i64 v268)),(4,.val false [.pv (.fn 104)]),(11,one (.bool y297.2.1)),(16,one (.int .i64 y297.1)),(18,one (.int .i64 (w64 (y297.1-v252)))),(19,one (.int .i64 (w64 (v253-y297.1)))),(20,one (.int .i64 (w64 (Int.tdiv (w64 (v253-v252)) 8)))),(125,one (.bool (decide ((w64 (y297.1-v252))<(w64 (v253-y297.1))))))]) (os':=[(0,.arr 2 (y297.2.2.map Za))]) (O:=[]) kr (sound _ _) trivial ?_
 refine WA.cond (b:=(decide ((w64 (y297.1-v252))<(w64 (v253-y297.1))))) rfl (fun hb300=>?_) (fun hb300=>?_)
 {
 have hF:=Zk hF hb300
 refine WA.seq ?_
 refine WA.reg [0,1,2,3,4,10,11,16] [0] [] (env':=[(0,.val false [.arr 0 v286]),(1,one (.int .i64 v252)),(2,one (.int .i64 v253)),(3,one (.int .i64 v268)),(4,.val false [.pv (.fn 104)]),(10,one (.bool (decide ((w64 (y297.1-v252))≥(w64 (Int.tdiv (w64 (v253-v252)) 8)))))),(11,one (.bool y297.2.1)),(16,one (.int .i64 y297.1))]) (os':=[(0,.arr 2 (y297.2.2.map Za))]) (O:=[]) kr (sound _ _) trivial ?_
 refine WA.seq ?_
 obtain ⟨y301,hy301,hF⟩:=bind_some hF
 obtain ⟨hl302,hF⟩:=Zo hF
 refine WA.reg [0,2,3,4,10,11,16] [0] [(5,.call [0] (.tup []) [.arr 2 (y301.map Za)] [])] (env':=[(0,.val false [.arr 0 v286]),(2,one (.int .i64 v253)),(3,one (.int .i64 v268)),(4,.val false [.pv (.fn 104)]),(10,one (.bool (decide ((w64 (y297.1-v252))≥(w64 (Int.tdiv (w64 (v253-v252)) 8)))))),(11,one (.bool y297.2.1)),(16,one (.int .i64 y297.1))]) (os':=[(0,.arr 2 (y301.map Za))]) (O:=[Sim Tryz.prog GL0 121 [.val false [.arr 0 v286],one (.int .i64 v252),one (.int .i64 y297.1),one (.int .i64 v268),.val false [.pv (.fn 104)]] [.arr 2 (y297.2.2.map Za)] (.tup []) [.arr 2 (y301.map Za)],([0]:List Nat).Nodup]) kr (sound _ _) ⟨(IH121 _ _ _ _ _ hy301 (n0:=v286) zt),(by decide),trivial⟩ ?_
 refine WA.reg [0,1,2,3,4,10,11] [0] [] (env':=[(0,.val false [.arr 0 v286]),(1,one (.int .i64 (w64 (y297.1+1)))),(2,one (.int .i64 v253)),(3,one (.int .i64 v268)),(4,.val false [.pv (.fn 104)]),(10,one (.bool (decide ((w64 (y297.1-v252))≥(w64 (Int.tdiv (w64 (v253-v252)) 8)))))),(11,one (.bool y297.2.1))]) (os':=[(0,.arr 2 (y301.map Za))]) (O:=[]) kr (sound _ _) trivial ?_
 exact ⟨m13,Nat.lt_succ_self _,y301,v286,(w64 (y297.1+1)),v253,v268,(decide ((w64 (y297.1-v252))≥(w64 (Int.tdiv (w64 (v253-v252)) 8)))),y297.2.1,kr,kr,zt,by rw [hself13] at hF;exact hF⟩ }
 {
 have hF:=Zj hF hb300
 refine WA.seq ?_
 refine WA.reg [0,1,2,3,4,10,11,16] [0] [] (env':=[(0,.val false [.arr 0 v286]),(1,one (.int .i64 v252)),(2,one (.int .i64 v253)),(3,one (.int .i64 v268)),(4,.val false [.pv (.fn 104)]),(10,one (.bool (decide ((w64 (v253-y297.1))≥(w64 (Int.tdiv (w64 (v253-v252)) 8)))))),(11,one (.bool y297.2.1)),(16,one (.int .i64 y297.1))]) (os':=[(0,.arr 2 (y297.2.2.map Za))]) (O:=[]) kr (sound _ _) trivial ?_
 refine WA.seq ?_
 obtain ⟨y303,hy303,hF⟩:=bind_some hF
 obtain ⟨hl304,hF⟩:=Zo hF
 refine WA.reg [0,1,3,4,10,11,16] [0] [(6,.call [0] (.tup []) [.arr 2 (y303.map Za)] [])] (env':=[(0,.val false [.arr 0 v286]),(1,one (.int .i64 v252)),(3,one (.int .i64 v268)),(4,.val false [.pv (.fn 104)]),(10,one (.bool (decide ((w64 (v253-y297.1))≥(w64 (Int.tdiv (w64 (v253-v252)) 8)))))),(11,one (.bool y297.2.1)),(16,one (.int .i64 y297.1))]) (os':=[(0,.arr 2 (y303.map Za))]) (O:=[Sim Tryz.prog GL0 121 [.val false [.arr 0 v286],one (.int .i64 (w64 (y297.1+1))),one (.int .i64 v253),one (.int .i64 v268),.val false [.pv (.fn 104)]] [.arr 2 (y297.2.2.map Za)] (.tup []) [.arr 2 (y303.map Za)],([0]:List Nat).Nodup]) kr (sound _ _) ⟨(IH121 _ _ _ _ _ hy303 (n0:=v286) zt),(by decide),trivial⟩ ?_
 refine WA.reg [0,1,2,3,4,10,11] [0] [] (env':=[(0,.val false [.arr 0 v286]),(1,one (.int .i64 v252)),(2,one (.int .i64 y297.1)),(3,one (.int .i64 v268)),(4,.val false [.pv (.fn 104)]),(10,one (.bool (decide ((w64 (v253-y297.1))≥(w64 (Int.tdiv (w64 (v253-v252)) 8)))))),(11,one (.bool y297.2.1))]) (os':=[(0,.arr 2 (y303.map Za))]) (O:=[]) kr (sound _ _) trivial ?_
 exact ⟨m13,Nat.lt_succ_self _,y303,v286,v252,y297.1,v268,(decide ((w64 (v253-y297.1))≥(w64 (Int.tdiv (w64 (v253-v252)) 8)))),y297.2.1,kr,kr,zt,by rw [hself13] at hF;exact hF⟩ } } }
 {
 rcases Bool.eq_false_or_eq_true (decide (v252 > 0)) with hb287 | hb287
 {
 have hF:=Zk hF hb287
 obtain ⟨hc288,hF⟩:=Zo hF
 obtain ⟨y289,hy289,hF⟩:=bind_some hF
 obtain ⟨hc290,hF⟩:=Zo hF
 obtain ⟨y291,hy291,hF⟩:=bind_some hF
 obtain ⟨y292,hy292,hF⟩:=bind_some hF
 refine WA.regD kr [0,1,2,3,4,10,11,12,13,97] [0] [(2,.bool true),(8,.cells (Za y289)),(12,.cells (Za y291)),(13,.callR [] (one (.int .i64 y292)))] (env':=[(0,.val false [.arr 0 v286]),(1,one (.int .i64 v252)),(2,one (.int .i64 v253)),(3,one (.int .i64 v268)),(4,.val false [.pv (.fn 104)]),(10,one (.bool v255)),(11,one (.bool v256)),(12,one (.int .i64 (w64 (v253-v252)))),(13,one (.int .i64 v276)),(97,one (.bool (!(decide (y292<0)))))]) (os':=[(0,.arr 2 (v285.map Za))]) (O:=[(decide (v252 > 0))=true,v286=(v285.map Za).length,(0:Int)≤(w64 (v252-1)),(w64 (v252-1))<((v286:Nat):Int),v286=(v285.map Za).length,(v285.map Za)[Int.toNat (w64 (v252-1))]?=some (Za y289),v286=(v285.map Za).length,(0:Int)≤v276,v276<((v286:Nat):Int),v286=(v285.map Za).length,(v285.map Za)[Int.toNat v276]?=some (Za y291),Sim Tryz.prog GL0 104 [.val true (pvL (Za y289)),.val true (pvL (Za y291))] [] (one (.int .i64 y292)) [],([]:List Nat).Nodup]) kr kr (sound _ _) ⟨hb287,zt,hc288.1,(by have h_:=hc288.2;(try simp only [zl,Zh] at h_ ⊢);omega),zt,(Zr (Zs _ hy289)),zt,hc290.1,(by have h_:=hc290.2;(try simp only [zl,Zh] at h_ ⊢);omega),zt,(Zr (Zs _ hy291)),(Zap k _ _ _ hy292),(by decide),trivial⟩ ?_
 exact ⟨(!(decide (y292<0))),kr,kr,hF⟩ }
 {
 have hF:=Zj hF hb287
 refine WA.regD kr [0,1,2,3,4,10,11,12,13,97] [0] [(2,.bool false),(13,.callR [] (.tup []))] (env':=[(0,.val false [.arr 0 v286]),(1,one (.int .i64 v252)),(2,one (.int .i64 v253)),(3,one (.int .i64 v268)),(4,.val false [.pv (.fn 104)]),(10,one (.bool v255)),(11,one (.bool v256)),(12,one (.int .i64 (w64 (v253-v252)))),(13,one (.int .i64 v276)),(97,one (.bool false))]) (os':=[(0,.arr 2 (v285.map Za))]) (O:=[(decide (v252 > 0))=false]) kr kr (sound _ _) ⟨hb287,trivial⟩ ?_
 exact ⟨false,kr,kr,hF⟩ } } }
 {
 refine WA.join (fun s_=>∃(v280:Bool),Zl s_.env [0,1,2,3,4,10,11,12,13,75]=[(0,.val false [.arr 0 v275]),(1,one (.int .i64 v252)),(2,one (.int .i64 v253)),(3,one (.int .i64 v268)),(4,.val false [.pv (.fn 104)]),(10,one (.bool v255)),(11,one (.bool v256)),(12,one (.int .i64 (w64 (v253-v252)))),(13,one (.int .i64 v276)),(75,one (.bool v280))]∧Zl s_.os [0]=[(0,.arr 2 (v274.map Za))]∧Zcm R121 k self13 v252 v253 v255 v256 v268 v274 v276 v280=some r) ?_ ?_
 {
 rintro s_ ⟨v280,he,ho,hF⟩
 refine WA.keep _ _ he ho ?_
 clear he ho
 refine WA.cond (b:=v280) rfl (fun hb281=>?_) (fun hb281=>?_)
 {
 have hF:=Zk hF hb281
 refine WA.seq ?_
 obtain ⟨y282,hy282,hF⟩:=bind_some hF
 obtain ⟨hl283,hF⟩:=Zo hF
 refine WA.reg [0,1,2,3,4,10,11,12,13,80] [0] [(4,.call [0] (one (.bool y282.1)) [.arr 2 (y282.2.map Za)] [])] (env':=[(0,.val false [.arr 0 v275]),(1,one (.int .i64 v252)),(2,one (.int .i64 v253)),(3,one (.int .i64 v268)),(4,.val false [.pv (.fn 104)]),(10,one (.bool v255)),(11,one (.bool v256)),(12,one (.int .i64 (w64 (v253-v252)))),(13,one (.int .i64 v276)),(80,one (.bool y282.1))]) (os':=[(0,.arr 2 (y282.2.map Za))]) (O:=[Sim Tryz.prog GL0 154 [.val false [.arr 0 v275],one (.int .i64 v252),one (.int .i64 v253),.val false [.pv (.fn 104)]] [.arr 2 (v274.map Za)] (one (.bool y282.1)) [.arr 2 (y282.2.map Za)],([0]:List Nat).Nodup]) kr (sound _ _) ⟨(Zn1 k _ _ _ _ hy282 (n0:=v275) zt),(by decide),trivial⟩ ?_
 refine WA.cond (b:=y282.1) rfl (fun hb284=>?_) (fun hb284=>?_)
 {
 have hF:=Zk hF hb284
 refine WA.ret ?_
 obtain rfl:=Option.some.inj hF
 exact Zp (.tup []) [.arr 2 (y282.2.map Za)] kr kr kr kr (by decide) rfl rfl }
 {
 have hF:=Zj hF hb284
 refine WA.skip ?_
 exact ⟨y282.2,v275,kr,kr,zt,hF⟩ } }
 {
 have hF:=Zj hF hb281
 refine WA.skip ?_
 exact ⟨v274,v275,kr,kr,zt,hF⟩ } }
 {
 rcases Bool.eq_false_or_eq_true v255 with hb278 | hb278
 {
 have hF:=Zk hF hb278
 rcases Bool.eq_false_or_eq_true v256 with hb279 | hb279
 {
 have hF:=Zk hF hb279
 refine WA.reg [0,1,2,3,4,10,11,12,13,75] [0] [(1,.bool true),(4,.bool true)] (env':=[(0,.val false [.arr 0 v275]),(1,one (.int .i64 v252)),(2,one (.int .i64 v253)),(3,one (.int .i64 v268)),(4,.val false [.pv (.fn 104)]),(10,one (.bool v255)),(11,one (.bool v256)),(12,one (.int .i64 (w64 (v253-v252)))),(13,one (.int .i64 v276)),(75,one (.bool (v277 == 1)))]) (os':=[(0,.arr 2 (v274.map Za))]) (O:=[v255=true,v256=true]) kr (sound _ _) ⟨hb278,hb279,trivial⟩ ?_
 exact ⟨(v277 == 1),kr,kr,hF⟩ }
 {
 have hF:=Zj hF hb279
 refine WA.reg [0,1,2,3,4,10,11,12,13,75] [0] [(1,.bool true),(4,.bool false)] (env':=[(0,.val false [.arr 0 v275]),(1,one (.int .i64 v252)),(2,one (.int .i64 v253)),(3,one (.int .i64 v268)),(4,.val false [.pv (.fn 104)]),(10,one (.bool v255)),(11,one (.bool v256)),(12,one (.int .i64 (w64 (v253-v252)))),(13,one (.int .i64 v276)),(75,one (.bool false))]) (os':=[(0,.arr 2 (v274.map Za))]) (O:=[v255=true,v256=false]) kr (sound _ _) ⟨hb278,hb279,trivial⟩ ?_
 exact ⟨false,kr,kr,hF⟩ } }
 {
 have hF:=Zj hF hb278
 refine WA.reg [0,1,2,3,4,10,11,12,13,75] [0] [(1,.bool false)] (env':=[(0,.val false [.arr 0 v275]),(1,one (.int .i64 v252)),(2,one (.int .i64 v253)),(3,one (.int .i64 v268)),(4,.val false [.pv (.fn 104)]),(10,one (.bool v255)),(11,one (.bool v256)),(12,one (.int .i64 (w64 (v253-v252)))),(13,one (.int .i64 v276)),(75,one (.bool false))]) (os':=[(0,.arr 2 (v274.map Za))]) (O:=[v255=false]) kr (sound _ _) ⟨hb278,trivial⟩ ?_
 exact ⟨false,kr,kr,hF⟩ } } } }
 {
 refine WA.seq ?_
 refine WA.reg [0,1,2,3,4,10,11,12,13,14,56] [0] [] (env':=[(0,.val false [.arr 0 v267]),(1,one (.int .i64 v252)),(2,one (.int .i64 v253)),(3,one (.int .i64 v268)),(4,.val false [.pv (.fn 104)]),(10,one (.bool v255)),(11,one (.bool v256)),(12,one (.int .i64 (w64 (v253-v252)))),(13,one (.int .i64 y269.1)),(14,one (.int .i64 y269.2.1)),(56,one (.bool (y269.2.1 == 2)))]) (os':=[(0,.arr 2 (y269.2.2.map Za))]) (O:=[]) kr (sound _ _) trivial ?_
 refine WA.cond (b:=(y269.2.1 == 2)) rfl (fun hb271=>?_) (fun hb271=>?_)
 {
 have hF:=Zk hF hb271
 refine WA.seq ?_
 obtain ⟨y272,hy272,hF⟩:=bind_some hF
 obtain ⟨hl273,hF⟩:=Zo hF
 refine WA.reg [0,1,2,3,4,10,11,12,13] [0] [(4,.call [0] (.tup []) [.arr 2 (y272.map Za)] [])] (env':=[(0,.val false [.arr 0 v267]),(1,one (.int .i64 v252)),(2,one (.int .i64 v253)),(3,one (.int .i64 v268)),(4,.val false [.pv (.fn 104)]),(10,one (.bool v255)),(11,one (.bool v256)),(12,one (.int .i64 (w64 (v253-v252)))),(13,one (.int .i64 y269.1))]) (os':=[(0,.arr 2 (y272.map Za))]) (O:=[Sim Tryz.prog GL0 153 [.val false [.arr 0 v267],one (.int .i64 v252),one (.int .i64 v253),.val false [.pv (.fn 104)]] [.arr 2 (y269.2.2.map Za)] (.tup []) [.arr 2 (y272.map Za)],([0]:List Nat).Nodup]) kr (sound _ _) ⟨(Zn0 k _ _ _ _ hy272 (n0:=v267) zt),(by decide),trivial⟩ ?_
 refine WA.seq ?_
 refine WA.reg [0,1,2,3,4,10,11,12,13] [0] [] (env':=[(0,.val false [.arr 0 v267]),(1,one (.int .i64 v252)),(2,one (.int .i64 v253)),(3,one (.int .i64 v268)),(4,.val false [.pv (.fn 104)]),(10,one (.bool v255)),(11,one (.bool v256)),(12,one (.int .i64 (w64 (v253-v252)))),(13,one (.int .i64 (w64 ((w64 (v253-1))-(w64 (y269.1-v252))))))]) (os':=[(0,.arr 2 (y272.map Za))]) (O:=[]) kr (sound _ _) trivial ?_
 refine WA.reg [0,1,2,3,4,10,11,12,13,14] [0] [] (env':=[(0,.val false [.arr 0 v267]),(1,one (.int .i64 v252)),(2,one (.int .i64 v253)),(3,one (.int .i64 v268)),(4,.val false [.pv (.fn 104)]),(10,one (.bool v255)),(11,one (.bool v256)),(12,one (.int .i64 (w64 (v253-v252)))),(13,one (.int .i64 (w64 ((w64 (v253-1))-(w64 (y269.1-v252)))))),(14,one (.int .i64 1))]) (os':=[(0,.arr 2 (y272.map Za))]) (O:=[]) kr (sound _ _) trivial ?_
 exact ⟨y272,v267,(w64 ((w64 (v253-1))-(w64 (y269.1-v252)))),1,kr,kr,zt,hF⟩ }
 {
 have hF:=Zj hF hb271
 refine WA.skip ?_
 exact ⟨y269.2.2,v267,y269.1,y269.2.1,kr,kr,zt,hF⟩ } } }
 {
 refine WA.seq ?_
 refine WA.reg [0,1,2,3,4,10,11,12,39] [0] [] (env':=[(0,.val false [.arr 0 v251]),(1,one (.int .i64 v252)),(2,one (.int .i64 v253)),(3,one (.int .i64 v254)),(4,.val false [.pv (.fn 104)]),(10,one (.bool v255)),(11,one (.bool v256)),(12,one (.int .i64 (w64 (v253-v252)))),(39,one (.bool (!v255)))]) (os':=[(0,.arr 2 (v250.map Za))]) (O:=[]) kr (sound _ _) trivial ?_
 refine WA.cond (b:=(!v255)) rfl (fun hb263=>?_) (fun hb263=>?_)
 {
 have hF:=Zk hF hb263
 refine WA.seq ?_
 obtain ⟨y264,hy264,hF⟩:=bind_some hF
 obtain ⟨hl265,hF⟩:=Zo hF
 refine WA.reg [0,1,2,3,4,10,11,12] [0] [(4,.call [0] (.tup []) [.arr 2 (y264.map Za)] [])] (env':=[(0,.val false [.arr 0 v251]),(1,one (.int .i64 v252)),(2,one (.int .i64 v253)),(3,one (.int .i64 v254)),(4,.val false [.pv (.fn 104)]),(10,one (.bool v255)),(11,one (.bool v256)),(12,one (.int .i64 (w64 (v253-v252))))]) (os':=[(0,.arr 2 (y264.map Za))]) (O:=[Sim Tryz.prog GL0 151 [.val false [.arr 0 v251],one (.int .i64 v252),one (.int .i64 v253),.val false [.pv (.fn 104)]] [.arr 2 (v250.map Za)] (.tup []) [.arr 2 (y264.map Za)],([0]:List Nat).Nodup]) kr (sound _ _) ⟨(ZnY k _ _ _ _ hy264 (n0:=v251) zt),(by decide),trivial⟩ ?_
 refine WA.reg [0,1,2,3,4,10,11,12] [0] [] (env':=[(0,.val false [.arr 0 v251]),(1,one (.int .i64 v252)),(2,one (.int .i64 v253)),(3,one (.int .i64 (w64 (v254-1)))),(4,.val false [.pv (.fn 104)]),(10,one (.bool v255)),(11,one (.bool v256)),(12,one (.int .i64 (w64 (v253-v252))))]) (os':=[(0,.arr 2 (y264.map Za))]) (O:=[]) kr (sound _ _) trivial ?_
 exact ⟨y264,v251,(w64 (v254-1)),kr,kr,zt,hF⟩ }
 {
 have hF:=Zj hF hb263
 refine WA.skip ?_
 exact ⟨v250,v251,v254,kr,kr,zt,hF⟩ } } } }
def F121:Nat→(List Zb)→Int→Int→Int→Option (List Zb)
  | 0,_,_,_,_=>none
  | k+1,v0,v1,v2,v3=>ZlV (F121 k) k v0 v1 v2 v3
theorem ZkZ:∀(k:Nat),∀(v0:List Zb) (v1:Int) (v2:Int) (v3:Int) (r:List Zb),F121 k v0 v1 v2 v3=some r→∀{n0:Nat},n0=v0.length→Sim Tryz.prog GL0 121 [.val false [.arr 0 n0],one (.int .i64 v1),one (.int .i64 v2),one (.int .i64 v3),.val false [.pv (.fn 104)]] [.arr 2 (v0.map Za)] (.tup []) [.arr 2 (r.map Za)]
  | 0=>fun _ _ _ _ _ hF=>by cases hF
  | k+1=>fun v0 v1 v2 v3 r hF=>ZlW (F121 k) (ZkZ k) k v0 v1 v2 v3 r hF
def F103 (k:Nat) (v0:List Zb):Option (List Zb):=
  (F112 k (IntKind.wrap .u64 (v0.length:Int))).bind fun y101=>(F121 k v0 0 (v0.length:Int) y101).bind fun y102=>if y102.length=v0.length then some y102 else none
theorem ZnP (k:Nat) (v0:List Zb) (r:List Zb) (hF:F103 k v0=some r) {n0:Nat} (hn_n0:n0=v0.length):Sim Tryz.prog GL0 103 [.val false [.arr 0 n0],.val false [.pv (.fn 104)]] [.arr 2 (v0.map Za)] (.tup []) [.arr 2 (r.map Za)]:=by
 refine ZB [0] Tryz.func103 rfl kr kr ?_
 show WA _ _ 14 _ _ _
 refine WA.seq ?_
 refine WA.rm (α:=Int) (raw:=((n0:Nat):Int)) (can:=(v0.length:Int)) (fun m_=>([(0,.val false [.arr 0 n0]),(1,.val false [.pv (.fn 104)]),(4,one (.int .i64 m_))],[(0,.arr 2 (v0.map Za))],[])) ((by first | (simp only [zl,Zh];done) | (simp only [zl,Zh];omega) | omega)) [0,1,4] [0] [] kr (sound _ _) trivial ?_
 obtain ⟨y101,hy101,hF⟩:=bind_some hF
 obtain ⟨y102,hy102,hF⟩:=bind_some hF
 obtain ⟨hl103,hF⟩:=Zo hF
 refine WA.reg [] [0] [(4,.callR [] (one (.int .i64 y101))),(6,.call [0] (.tup []) [.arr 2 (y102.map Za)] [])] (env':=[]) (os':=[(0,.arr 2 (y102.map Za))]) (O:=[Sim Tryz.prog GL0 112 [one (.int .u64 (IntKind.wrap .u64 (v0.length:Int)))] [] (one (.int .i64 y101)) [],([]:List Nat).Nodup,Sim Tryz.prog GL0 121 [.val false [.arr 0 n0],one (.int .i64 0),one (.int .i64 (v0.length:Int)),one (.int .i64 y101),.val false [.pv (.fn 104)]] [.arr 2 (v0.map Za)] (.tup []) [.arr 2 (y102.map Za)],([0]:List Nat).Nodup]) kr (sound _ _) ⟨(ZkW k _ _ hy101),(by decide),(ZkZ k _ _ _ _ _ hy102 (n0:=n0) zt),(by decide),trivial⟩ ?_
 obtain rfl:=Option.some.inj hF
 exact Zcy (.tup []) [.arr 2 (y102.map Za)] kr kr kr kr (by decide) rfl rfl
end Go.Proofs.YthilboheomikjaaGreatDoor
end
section
namespace Go.Proofs.YthilboheomikjaaGreatDoor
open Go.AL Go.Lib
set_option maxRecDepth 100000
def Small (l:List Zb):Prop:=∀r∈l,-4611686018427387904≤r.f_Lo∧r.f_Lo≤4611686018427387903
def ZL (l:List Zb) (a b:Nat):Prop:=∀p q x y,a≤p→p<q→q<b→l[p]?=some x→l[q]?=some y→x.f_Lo≤y.f_Lo
def ZaK (l l':List Zb) (a b:Nat):Prop:=∀p,(p<a∨b≤p)→l'[p]?=l[p]?
theorem Small.perm {l l':List Zb} (h:Small l) (p:List.Perm l' l):Small l':=fun r hr=>h r (p.mem_iff.1 hr)
theorem Small.at {l:List Zb} (h:Small l) {p:Nat} {x:Zb} (e:l[p]?=some x):-4611686018427387904≤x.f_Lo∧x.f_Lo≤4611686018427387903:=h x (List.mem_of_getElem? e)
def swp (l:List Zb) (i j:Nat) (x y:Zb):List Zb:=(l.set i y).set j x
theorem ZdP {l:List Zb} {i j:Nat} {x y:Zb} (hi:l[i]?=some x) (hj:l[j]?=some y):List.Perm (swp l i j x y) l:=by
  obtain ⟨h1,rfl⟩:=List.getElem?_eq_some_iff.1 hi
  obtain ⟨h2,rfl⟩:=List.getElem?_eq_some_iff.1 hj
  exact List.set_set_perm h1 h2
theorem ZZ {l:List Zb} {i j:Nat} {x y:Zb} (hi:l[i]?=some x) (hj:l[j]?=some y) (p:Nat):(swp l i j x y)[p]?=if p=j then some x else if p=i then some y else l[p]?:=by
  have h1:=(List.getElem?_eq_some_iff.1 hi).1
  have h2:=(List.getElem?_eq_some_iff.1 hj).1
  unfold swp
  rw [List.getElem?_set,List.length_set,List.getElem?_set]
  by_cases e1:p=j
  · rw [if_pos e1,if_pos e1.symm,if_pos (by omega)]
  · rw [if_neg e1,if_neg (fun h=>e1 h.symm)]
    by_cases e2:p=i
    · rw [if_pos e2,if_pos e2.symm,if_pos (by omega)]
    · rw [if_neg e2,if_neg (fun h=>e2 h.symm)]
theorem ZQ (l:List Zb) (i j:Nat) (x y:Zb):(swp l i j x y).length=l.length:=by simp [swp]
theorem ZeI {x y:Zb} (hx:-4611686018427387904≤x.f_Lo∧x.f_Lo≤4611686018427387903) (hy:-4611686018427387904≤y.f_Lo∧y.f_Lo≤4611686018427387903):w64 (x.f_Lo-y.f_Lo)=x.f_Lo-y.f_Lo:=Zu (by omega) (by omega)
theorem Zmr {k:Nat} {self8:List Zb→Int→Option (List Zb)} {a i:Nat}:∀(m j:Nat) (v:List Zb),a≤j→j≤i→i<v.length→v.length≤1073741824→j<m+a→
    ∃v',Zbn k self8 (a:Int) (i:Int) m v (j:Int)=self8 v' ((i+1:Nat):Int)∧List.Perm v' v∧ZaK v v' a (i+1)∧
      (Small v→(∀p q x y,a≤p→p<q→q≤i→q≠j→v[p]?=some x→v[q]?=some y→x.f_Lo≤y.f_Lo)→ZL v' a (i+1))
  | 0,j,v,ha,hj,hi,hv,hm=>by omega
  | m+1,j,v,ha,hj,hi,hv,hm=>by
    have stop:∀b:Bool,b=false→(Small v→(∀p q x y,a≤p→p<q→q≤i→q≠j→v[p]?=some x→v[q]?=some y→x.f_Lo≤y.f_Lo)→ZL v a (i+1))→
        ∃v',Zcq self8 (Zbn k self8 (a:Int) (i:Int) m) (i:Int) v (j:Int) b=self8 v' ((i+1:Nat):Int)∧List.Perm v' v∧ZaK v v' a (i+1)∧
          (Small v→(∀p q x y,a≤p→p<q→q≤i→q≠j→v[p]?=some x→v[q]?=some y→x.f_Lo≤y.f_Lo)→ZL v' a (i+1)):=fun b hb hs=>by
      subst hb
      refine ⟨v,?_,List.Perm.refl _,fun p _=>rfl,hs⟩
      unfold Zcq
      simp only [cond]
      rw [Zu (by omega) (by omega)];rfl
    have e:Zbn k self8 (a:Int) (i:Int) (m+1) v (j:Int)=ZeX k self8 (Zbn k self8 (a:Int) (i:Int) m) (a:Int) (i:Int) v (j:Int):=rfl
    rw [e]
    unfold ZeX
    by_cases hja:a<j
    · obtain ⟨x,hx⟩:∃x,v[j]?=some x:=⟨_,List.getElem?_eq_getElem (by omega)⟩
      obtain ⟨y,hy⟩:∃y,v[j-1]?=some y:=⟨_,List.getElem?_eq_getElem (by omega)⟩
      have ew:w64 ((j:Int)-1)=((j-1:Nat):Int):=by rw [Zu (by omega) (by omega)];omega
      rw [dt (by omega),ew]
      simp only [cond]
      rw [if_pos ⟨by omega,by omega⟩,Zy,hx]
      simp only [Option.bind_some]
      rw [if_pos ⟨by omega,by omega⟩,Zy,hy]
      simp only [Option.bind_some,F104]
      by_cases hc:w64 (x.f_Lo-y.f_Lo)<0
      · rw [dt hc]
        unfold Zcq
        simp only [cond]
        rw [ew,if_pos ⟨by omega,by omega⟩,Zy,hy]
        simp only [Option.bind_some]
        rw [if_pos ⟨by omega,by omega⟩,Zy,hx]
        simp only [Option.bind_some]
        rw [if_pos ⟨by omega,by omega⟩]
        rw [if_pos ⟨by omega,by rw [List.length_set];omega⟩]
        have hset:idxL (v.set (Int.toNat (j:Int)) y) ((j-1:Nat):Int)=some y:=by
          rw [Zy,List.getElem?_set,if_neg (by omega)];exact hy
        rw [hset]
        simp only [Option.bind_some,Int.toNat_natCast]
        have hget:=ZZ hx hy
        obtain ⟨v',e1,e2,e3,e4⟩:=Zmr (k:=k) (self8:=self8) (a:=a) (i:=i) m (j-1) (swp v j (j-1) x y) (by omega) (by omega) (by rw [ZQ];exact hi) (by rw [ZQ];exact hv) (by omega)
        refine ⟨v',e1,e2.trans (ZdP hx hy),fun p hp=>by rw [e3 p hp,hget,if_neg (by omega),if_neg (by omega)],fun hsm hs=>e4 (hsm.perm (ZdP hx hy)) ?_⟩
        have hxy:x.f_Lo≤y.f_Lo:=by
          have:=ZeI (hsm.at hx) (hsm.at hy)
          omega
        intro p q x1 y1 hap hpq hqi hqj h1 h2
        rw [hget] at h1 h2
        rw [if_neg hqj] at h2
        by_cases e5:p=j-1
        · rw [if_pos e5] at h1
          obtain rfl:=Option.some.inj h1
          by_cases e6:q=j
          · rw [if_pos e6] at h2
            obtain rfl:=Option.some.inj h2
            exact hxy
          · rw [if_neg e6] at h2
            have:=hs (j-1) q y y1 (by omega) (by omega) hqi (by omega) hy h2
            omega
        · rw [if_neg e5] at h1
          by_cases e6:p=j
          · rw [if_pos e6] at h1
            obtain rfl:=Option.some.inj h1
            rw [if_neg (by omega)] at h2
            exact hs (j-1) q _ _ (by omega) (by omega) hqi (by omega) hy h2
          · rw [if_neg e6] at h1
            by_cases e7:q=j
            · rw [if_pos e7] at h2
              obtain rfl:=Option.some.inj h2
              exact hs p (j-1) _ _ hap (by omega) (by omega) (by omega) h1 hy
            · rw [if_neg e7] at h2
              exact hs p q _ _ hap hpq hqi e7 h1 h2
      · rw [df hc]
        refine stop _ rfl fun hsm hs=>?_
        have hyx:y.f_Lo≤x.f_Lo:=by
          have:=ZeI (hsm.at hx) (hsm.at hy)
          omega
        intro p q x1 y1 hap hpq hqi h1 h2
        by_cases e5:q=j
        · subst e5
          rw [hx] at h2
          obtain rfl:=Option.some.inj h2
          by_cases e6:p=q-1
          · subst e6
            rw [hy] at h1
            obtain rfl:=Option.some.inj h1
            exact hyx
          · have:=hs p (q-1) _ _ hap (by omega) (by omega) (by omega) h1 hy
            omega
        · exact hs p q _ _ hap hpq (by omega) e5 h1 h2
    · rw [df (by omega)]
      simp only [cond]
      refine stop _ rfl fun hsm hs=>?_
      intro p q x1 y1 hap hpq hqi h1 h2
      exact hs p q _ _ hap hpq (by omega) (by omega) h1 h2
theorem Zli {k a b:Nat} (hk:b-a<k):∀(m i:Nat) (v:List Zb),a≤i→i≤b→b≤v.length→v.length≤1073741824→b-i<m→
    ∃v',Zb4 k (a:Int) (b:Int) m v (i:Int)=some v'∧List.Perm v' v∧ZaK v v' a b∧(Small v→ZL v a i→ZL v' a b)
  | 0,i,v,_,_,_,_,hm=>by omega
  | m+1,i,v,ha,hi,hb,hv,hm=>by
    have e:Zb4 k (a:Int) (b:Int) (m+1) v (i:Int)=Zdc k (Zb4 k (a:Int) (b:Int) m) (a:Int) (b:Int) v (i:Int):=rfl
    rw [e]
    unfold Zdc
    by_cases hib:i<b
    · rw [dt (by omega)]
      simp only [cond]
      obtain ⟨v1,e1,p1,o1,s1⟩:=Zmr (k:=k) (self8:=Zb4 k (a:Int) (b:Int) m) (a:=a) (i:=i) k i v ha (Nat.le_refl _) (by omega) hv (by omega)
      rw [e1]
      have hl:=p1.length_eq
      obtain ⟨v2,e2,p2,o2,s2⟩:=Zli (k:=k) (a:=a) (b:=b) hk m (i+1) v1 (by omega) (by omega) (by omega) (by omega) (by omega)
      refine ⟨v2,e2,p2.trans p1,fun p hp=>by rw [o2 p hp,o1 p (by omega)],fun hsm hs=>s2 (hsm.perm p1) (s1 hsm fun p q x y hap hpq hqi hq=>hs p q x y hap hpq (by omega))⟩
    · rw [df (by omega)]
      simp only [cond]
      obtain rfl:i=b:=by omega
      exact ⟨v,rfl,List.Perm.refl _,fun _ _=>rfl,fun _ h=>h⟩
theorem ZoZ {k a b:Nat} {v:List Zb} (hk:b-a<k) (hab:a≤b) (hb:b≤v.length) (hv:v.length≤1073741824) :
    ∃v',F149 k v (a:Int) (b:Int)=some v'∧List.Perm v' v∧ZaK v v' a b∧(Small v→ZL v' a b):=by
  unfold F149
  rw [Zu (by omega) (by omega)]
  by_cases h:a<b
  · obtain ⟨v',e,p,o,s⟩:=Zli (a:=a) hk k (a+1) v (by omega) (by omega) hb hv (by omega)
    exact ⟨v',e,p,o,fun hs=>s hs fun p q x y hp hq hq2=>by omega⟩
  · obtain rfl:a=b:=by omega
    obtain ⟨k,rfl⟩:∃q,k=q+1:=⟨k-1,by omega⟩
    refine ⟨v,?_,List.Perm.refl _,fun _ _=>rfl,fun _ p q x y hp hq hq2=>by omega⟩
    show Zdc _ _ _ _ _ _=_
    unfold Zdc
    rw [df (by omega)]
    rfl
end Go.Proofs.YthilboheomikjaaGreatDoor
end
section
namespace Go.Proofs.YthilboheomikjaaGreatDoor
open Go.AL Go.Lib
set_option maxRecDepth 100000
def sw {β:Type} (v:List Zb) (i j:Int) (K:List Zb→Option β):Option β:=
  if (0:Int)≤j∧j<(v.length:Int) then (idxL v j).bind fun y1=>if (0:Int)≤i∧i<(v.length:Int) then (idxL v i).bind fun y2=>if (0:Int)≤i∧i<(v.length:Int) then (idxL v i).bind fun y3=>
    if (0:Int)≤j∧j<((v.set (Int.toNat i) y1).length:Int) then (idxL (v.set (Int.toNat i) y1) j).bind fun y4=>K ((v.set (Int.toNat i) y1).set (Int.toNat j) y2) else none else none else none else none
theorem ZbM {β:Type} {v:List Zb} {i j:Nat} {x y:Zb} (hi:v[i]?=some x) (hj:v[j]?=some y) (K:List Zb→Option β):sw v (i:Int) (j:Int) K=K (swp v i j x y):=by
  have h1:=(List.getElem?_eq_some_iff.1 hi).1
  have h2:=(List.getElem?_eq_some_iff.1 hj).1
  unfold sw
  rw [if_pos ⟨by omega,by omega⟩,Zy,hj]
  simp only [Option.bind_some]
  rw [if_pos ⟨by omega,by omega⟩,Zy,hi]
  simp only [Option.bind_some]
  rw [if_pos ⟨by omega,by omega⟩,if_pos ⟨by omega,by rw [List.length_set];omega⟩,Zy,Int.toNat_natCast,Int.toNat_natCast]
  have:(v.set i y)[j]?=some ((v.set i y)[j]'(by rw [List.length_set];exact h2)):=List.getElem?_eq_getElem _
  rw [this]
  rfl
theorem ZP {v:List Zb} {i:Nat} (h:i<v.length):∃x,v[i]?=some x:=⟨_,List.getElem?_eq_getElem h⟩
structure Kept (v v':List Zb) (a b:Nat):Prop where
  perm:List.Perm v' v
  out:ZaK v v' a b
theorem Kept.refl (v:List Zb) (a b:Nat):Kept v v a b:=⟨List.Perm.refl _,fun _ _=>rfl⟩
theorem Kept.trans {u v w:List Zb} {a b:Nat} (h:Kept u v a b) (h2:Kept v w a b):Kept u w a b:=⟨h2.perm.trans h.perm,fun p hp=>(h2.out p hp).trans (h.out p hp)⟩
theorem Kept.mono {u v:List Zb} {a b c d:Nat} (h:Kept u v a b) (h1:c≤a) (h2:b≤d):Kept u v c d:=⟨h.perm,fun p hp=>h.out p (by omega)⟩
theorem Kept.len {u v:List Zb} {a b:Nat} (h:Kept u v a b):v.length=u.length:=h.perm.length_eq
theorem Kept.swp {v:List Zb} {i j a b:Nat} {x y:Zb} (hi:v[i]?=some x) (hj:v[j]?=some y) (h1:a≤i) (h2:i<b) (h3:a≤j) (h4:j<b):Kept v (swp v i j x y) a b:=
  ⟨ZdP hi hj,fun p hp=>by rw [ZZ hi hj,if_neg (by omega),if_neg (by omega)]⟩
theorem ZkA:∀(m i j:Nat) (v:List Zb),i≤j+1→j<v.length→v.length≤1073741824→j-i<m→(j=0→i=0)→
    ∃v',ZbF m v (i:Int) (j:Int)=some v'∧Kept v v' i (j+1)
  | 0,i,j,v,_,_,_,hm,_=>by omega
  | m+1,i,j,v,hij,hj,hv,hm,h0=>by
    have e:ZbF (m+1) v (i:Int) (j:Int)=Zdf (ZbF m) v (i:Int) (j:Int):=rfl
    rw [e]
    unfold Zdf
    by_cases h:i<j
    · obtain ⟨x,hx⟩:=ZP (v:=v) (i:=i) (by omega)
      obtain ⟨y,hy⟩:=ZP (v:=v) (i:=j) (by omega)
      rw [dt (by omega)]
      simp only [cond]
      have e2:=ZbM hx hy (fun l=>ZbF m l (w64 ((i:Int)+1)) (w64 ((j:Int)-1)))
      unfold sw at e2
      rw [e2,Zu (by omega) (by omega),Zu (by omega) (by omega),show (j:Int)-1=((j-1:Nat):Int) by omega]
      by_cases h1:i+1≤j-1+1∧(j-1=0→i+1=0)
      · obtain ⟨v',e3,k3⟩:=ZkA m (i+1) (j-1) (swp v i j x y) h1.1 (by rw [ZQ];omega) (by rw [ZQ];exact hv) (by omega) h1.2
        exact ⟨v',e3,(Kept.swp hx hy (by omega) (by omega) (by omega) (by omega)).trans (k3.mono (by omega) (by omega))⟩
      · obtain ⟨m,rfl⟩:∃q,m=q+1:=⟨m-1,by omega⟩
        refine ⟨swp v i j x y,?_,Kept.swp hx hy (by omega) (by omega) (by omega) (by omega)⟩
        show Zdf (ZbF m) _ _ _=_
        unfold Zdf
        rw [df (by omega)]
        rfl
    · rw [df (by omega)]
      exact ⟨v,rfl,Kept.refl _ _ _⟩
theorem Zo9 {k a b:Nat} {v:List Zb} (hk:b-a<k) (hab:a<b) (hb:b≤v.length) (hv:v.length≤1073741824):∃v',F153 k v (a:Int) (b:Int)=some v'∧Kept v v' a b:=by
  unfold F153
  rw [Zu (by omega) (by omega),show (b:Int)-1=((b-1:Nat):Int) by omega]
  obtain ⟨v',e,h⟩:=ZkA k a (b-1) v (by omega) (by omega) hv (by omega) (by omega)
  exact ⟨v',e,by rw [show b-1+1=b by omega] at h;exact h⟩
theorem ZfW {k i j:Nat} {v:List Zb} {s:Int} (hi:i<v.length) (hj:j<v.length):∃p q s',F191 k v (i:Int) (j:Int) s=some (((p:Nat):Int),((q:Nat):Int),v,s')∧((p=i∧q=j)∨(p=j∧q=i)):=by
  obtain ⟨x,hx⟩:=ZP hi
  obtain ⟨y,hy⟩:=ZP hj
  unfold F191
  rw [if_pos ⟨by omega,by omega⟩,Zy,hy]
  simp only [Option.bind_some]
  rw [if_pos ⟨by omega,by omega⟩,Zy,hx]
  simp only [Option.bind_some,F104]
  by_cases h:w64 (y.f_Lo-x.f_Lo)<0
  · rw [dt h];exact ⟨j,i,_,rfl,.inr ⟨rfl,rfl⟩⟩
  · rw [df h];exact ⟨i,j,_,rfl,.inl ⟨rfl,rfl⟩⟩
theorem Zi8 {k i j l:Nat} {v:List Zb} {s:Int} (hi:i<v.length) (hj:j<v.length) (hl:l<v.length):∃p s',F178 k v (i:Int) (j:Int) (l:Int) s=some (((p:Nat):Int),v,s')∧(p=i∨p=j∨p=l):=by
  unfold F178
  obtain ⟨p1,q1,s1,e1,h1⟩:=ZfW (k:=k) (s:=s) hi hj
  rw [e1]
  simp only [Option.bind_some]
  rw [if_pos trivial]
  have hp1:p1<v.length:=by rcases h1 with ⟨a,b⟩ | ⟨a,b⟩ <;> omega
  have hq1:q1<v.length:=by rcases h1 with ⟨a,b⟩ | ⟨a,b⟩ <;> omega
  obtain ⟨p2,q2,s2,e2,h2⟩:=ZfW (k:=k) (s:=s1) hq1 hl
  rw [e2]
  simp only [Option.bind_some]
  rw [if_pos trivial]
  have hp2:p2<v.length:=by rcases h2 with ⟨a,b⟩ | ⟨a,b⟩ <;> omega
  obtain ⟨p3,q3,s3,e3,h3⟩:=ZfW (k:=k) (s:=s2) hp1 hp2
  rw [e3]
  simp only [Option.bind_some]
  rw [if_pos trivial]
  exact ⟨q3,s3,rfl,by omega⟩
theorem Zd6 {k i:Nat} {v:List Zb} {s:Int} (h0:0<i) (hi:i+1<v.length) (hv:v.length≤1073741824):∃p s',F177 k v (i:Int) s=some (((p:Nat):Int),v,s')∧i≤p+1∧p≤i+1:=by
  unfold F177
  rw [Zu (by omega) (by omega),Zu (by omega) (by omega),show (i:Int)-1=((i-1:Nat):Int) by omega,show (i:Int)+1=((i+1:Nat):Int) by omega]
  obtain ⟨p,s',e,h⟩:=Zi8 (k:=k) (v:=v) (i:=i-1) (j:=i) (l:=i+1) (s:=s) (by omega) (by omega) hi
  rw [e]
  simp only [Option.bind_some]
  rw [if_pos trivial]
  exact ⟨p,s',rfl,by omega,by omega⟩
theorem Zom (v:List Zb) (s:Int) (p:Int):∃h,Zek v s p=some (p,h,v):=by
  unfold Zek
  cases s == 0
  · cases s == 12
    · exact ⟨_,rfl⟩
    · exact ⟨_,rfl⟩
  · exact ⟨_,rfl⟩
theorem ZlR (n:Nat):Int.tdiv (n:Int) 4=((n / 4:Nat):Int):=by
  rw [Int.tdiv_eq_ediv_of_nonneg (by omega)];rfl
theorem Znq {k a b:Nat} {v:List Zb} (hab:a+12<b) (hb:b≤v.length) (hv:v.length≤1073741824):∃p h,F152 k v (a:Int) (b:Int)=some (((p:Nat):Int),h,v)∧a≤p∧p<b:=by
  unfold F152
  rw [if_pos (by decide),if_pos (by decide),if_pos (by decide)]
  have e0:w64 ((b:Int)-(a:Int))=((b-a:Nat):Int):=by rw [Zu (by omega) (by omega)];omega
  rw [e0,ZlR]
  have eq:w64 ((((b-a) / 4:Nat)):Int)=(((b-a) / 4:Nat):Int):=Zu (by omega) (by omega)
  rw [eq]
  have e1:w64 ((a:Int)+w64 ((((b-a) / 4:Nat):Int)*1))=((a+(b-a) / 4:Nat):Int):=by rw [Zu (x:=_*1) (by omega) (by omega),Zu (by omega) (by omega)];omega
  have e2:w64 ((a:Int)+w64 ((((b-a) / 4:Nat):Int)*2))=((a+(b-a) / 4*2:Nat):Int):=by rw [Zu (x:=_*2) (by omega) (by omega),Zu (by omega) (by omega)];omega
  have e3:w64 ((a:Int)+w64 ((((b-a) / 4:Nat):Int)*3))=((a+(b-a) / 4*3:Nat):Int):=by rw [Zu (x:=_*3) (by omega) (by omega),Zu (by omega) (by omega)];omega
  rw [e1,e2,e3,dt (by omega)]
  simp only [cond]
  have fin:∀(s:Int) (i j l:Nat),a≤i→i<b→a≤j→j<b→a≤l→l<b→∃p h,Zej k v s (i:Int) (j:Int) (l:Int)=some (((p:Nat):Int),h,v)∧a≤p∧p<b:=fun s i j l h1 h2 h3 h4 h5 h6=>by
    unfold Zej
    obtain ⟨p,s',e,hp⟩:=Zi8 (k:=k) (v:=v) (i:=i) (j:=j) (l:=l) (s:=s) (by omega) (by omega) (by omega)
    rw [e]
    simp only [Option.bind_some]
    rw [if_pos trivial]
    obtain ⟨h,e4⟩:=Zom v s' (p:Int)
    exact ⟨p,h,e4,by omega,by omega⟩
  by_cases h50:50≤b-a
  · rw [dt (by omega)]
    simp only
    obtain ⟨p1,s1,f1,g1⟩:=Zd6 (k:=k) (v:=v) (i:=a+(b-a) / 4) (s:=0) (by omega) (by omega) hv
    rw [f1]
    simp only [Option.bind_some]
    rw [if_pos trivial]
    obtain ⟨p2,s2,f2,g2⟩:=Zd6 (k:=k) (v:=v) (i:=a+(b-a) / 4*2) (s:=s1) (by omega) (by omega) hv
    rw [f2]
    simp only [Option.bind_some]
    rw [if_pos trivial]
    obtain ⟨p3,s3,f3,g3⟩:=Zd6 (k:=k) (v:=v) (i:=a+(b-a) / 4*3) (s:=s2) (by omega) (by omega) hv
    rw [f3]
    simp only [Option.bind_some]
    rw [if_pos trivial]
    exact fin s3 p1 p2 p3 (by omega) (by omega) (by omega) (by omega) (by omega) (by omega)
  · rw [df (by omega)]
    exact fin 0 _ _ _ (by omega) (by omega) (by omega) (by omega) (by omega) (by omega)
end Go.Proofs.YthilboheomikjaaGreatDoor
end
section
namespace Go.Proofs.YthilboheomikjaaGreatDoor
open Go.AL Go.Lib
set_option maxRecDepth 100000
theorem Zmv:∀(f x:Nat),x<2 ^ f→x≠0→x<2 ^ Lib.bitLenAux f x∧2 ^ Lib.bitLenAux f x≤2*x
  | 0,x,h,h0=>by simp at h;omega
  | f+1,x,h,h0=>by
    unfold Lib.bitLenAux
    rw [if_neg h0]
    by_cases h2:x / 2=0
    · have:x=1:=by omega
      subst this
      have:Lib.bitLenAux f (1 / 2)=0:=by cases f <;> simp [Lib.bitLenAux]
      rw [this];decide
    · have ih:=Zmv f (x / 2) (by rw [Nat.pow_succ] at h;omega) h2
      rw [show 1+Lib.bitLenAux f (x / 2)=Lib.bitLenAux f (x / 2)+1 by omega,Nat.pow_succ]
      omega
theorem Znr {k n:Nat} (h0:0<n) (hn:n≤1073741824):∃M:Nat,F160 k (n:Int)=some (M:Int)∧n<M∧M≤2*n:=by
  have hb:=Zmv 64 n (by omega) (by omega)
  have hw:IntKind.wrap .u64 (n:Int)=n:=by simp [IntKind.wrap,IntKind.bits,IntKind.signed];omega
  unfold F160 F112
  rw [hw,if_pos (by omega)]
  simp only [Option.bind_some,Int.toNat_natCast]
  rw [if_pos (by omega)]
  have hl:Lib.bitLen n≤64:=by
    have h2:Lib.bitLen n<32:=by
      apply Nat.lt_of_not_le
      intro h
      have:=Nat.pow_le_pow_right (n:=2) (by omega) h
      unfold Lib.bitLen at this
      omega
    omega
  refine ⟨2 ^ Lib.bitLen n,?_,hb.1,hb.2⟩
  rw [Nat.min_eq_left hl]
  congr 1
  have e:(1*2 ^ Lib.bitLen n:Int)=((2 ^ Lib.bitLen n:Nat):Int):=by simp
  rw [e]
  have:2 ^ Lib.bitLen n≤2*n:=hb.2
  generalize 2 ^ Lib.bitLen n=M at this
  simp [IntKind.wrap,IntKind.bits,IntKind.signed];omega
theorem ZoQ (x:Int) {m:Nat} (hm:m≤4294967296):∃q:Nat,Zx .and .u64 x (m:Int)=(q:Int)∧q≤m:=by
  refine ⟨(BitVec.ofInt 64 x &&& BitVec.ofInt 64 (m:Int)).toNat,?_,?_⟩
  · unfold Zx
    have h:(BitVec.ofInt 64 x &&& BitVec.ofInt 64 (m:Int)).toNat<2 ^ 64:=BitVec.isLt _
    show IntKind.wrap .u64 (((BitVec.ofInt 64 x &&& BitVec.ofInt 64 (m:Int)).toNat:Nat):Int)=_
    generalize (BitVec.ofInt 64 x &&& BitVec.ofInt 64 (m:Int)).toNat=z at h
    simp [IntKind.wrap,IntKind.bits,IntKind.signed];omega
  · rw [BitVec.toNat_and]
    have:(BitVec.ofInt 64 (m:Int)).toNat=m:=by
      rw [BitVec.toNat_ofInt];omega
    rw [this]
    exact Nat.and_le_right
theorem ZmL (k:Nat) (x:Int):∃y z,F161 k x=some (y,z):=by
  unfold F161
  rw [if_pos (by decide),if_pos (by decide),if_pos (by decide)]
  exact ⟨_,_,rfl⟩
theorem ZhR {k a b M:Nat} (h1:b-a<M) (h2:M≤2*(b-a)) (hab:a+12<b):∀(m i:Nat) (v:List Zb) (x:Int),b≤v.length→v.length≤1073741824→a≤i→i≤a+(b-a) / 4*2+2→a+(b-a) / 4*2+2-i<m→
    ∃v',ZbE k (a:Int) (b:Int) (M:Int) m v x (i:Int)=some v'∧Kept v v' a b
  | 0,i,v,x,_,_,_,_,hm=>by omega
  | m+1,i,v,x,hb,hv,ha,hi,hm=>by
    have e:ZbE k (a:Int) (b:Int) (M:Int) (m+1) v x (i:Int)=Zgm k (ZbE k (a:Int) (b:Int) (M:Int) m) (a:Int) (b:Int) (M:Int) v x (i:Int):=rfl
    rw [e]
    unfold Zgm
    have e0:w64 ((b:Int)-(a:Int))=((b-a:Nat):Int):=by rw [Zu (by omega) (by omega)];omega
    have eq:w64 ((((b-a) / 4:Nat)):Int)=(((b-a) / 4:Nat):Int):=Zu (by omega) (by omega)
    have e2:w64 ((a:Int)+w64 ((((b-a) / 4:Nat):Int)*2))=((a+(b-a) / 4*2:Nat):Int):=by rw [Zu (x:=_*2) (by omega) (by omega),Zu (by omega) (by omega)];omega
    have e3:w64 (((a+(b-a) / 4*2:Nat):Int)+1)=((a+(b-a) / 4*2+1:Nat):Int):=by rw [Zu (by omega) (by omega)];omega
    rw [if_pos (by decide),e0,ZlR,eq,e2,e3]
    by_cases h:i≤a+(b-a) / 4*2+1
    · rw [dt (by omega)]
      simp only [cond]
      obtain ⟨y,z,er⟩:=ZmL k x
      rw [er]
      simp only [Option.bind_some]
      have eM:IntKind.wrap .u64 ((M:Int)-1)=((M-1:Nat):Int):=by simp [IntKind.wrap,IntKind.bits,IntKind.signed];omega
      obtain ⟨q,eq2,hq⟩:=ZoQ y (m:=M-1) (by omega)
      rw [eM,eq2,Zu (x:=(q:Int)) (by omega) (by omega)]
      have step:∀o:Nat,o<b-a→∃v',Zei (ZbE k (a:Int) (b:Int) (M:Int) m) (a:Int) v (i:Int) (y,z) (o:Int)=some v'∧Kept v v' a b:=fun o ho=>by
        unfold Zei
        rw [Zu (x:=(a:Int)+(o:Int)) (by omega) (by omega),show (a:Int)+(o:Int)=((a+o:Nat):Int) by omega]
        obtain ⟨p,hp⟩:=ZP (v:=v) (i:=i) (by omega)
        obtain ⟨r,hr⟩:=ZP (v:=v) (i:=a+o) (by omega)
        have e4:=ZbM hp hr (fun l=>ZbE k (a:Int) (b:Int) (M:Int) m l z (w64 ((i:Int)+1)))
        unfold sw at e4
        simp only
        rw [e4,Zu (by omega) (by omega)]
        obtain ⟨v',e5,k5⟩:=ZhR h1 h2 hab m (i+1) (swp v i (a+o) p r) z (by rw [ZQ];exact hb) (by rw [ZQ];exact hv) (by omega) (by omega) (by omega)
        exact ⟨v',e5,(Kept.swp hp hr (by omega) (by omega) (by omega) (by omega)).trans k5⟩
      by_cases hqn:b-a≤q
      · rw [dt (by omega)]
        simp only
        rw [Zu (by omega) (by omega),show (q:Int)-((b-a:Nat):Int)=((q-(b-a):Nat):Int) by omega]
        exact step _ (by omega)
      · rw [df (by omega)]
        exact step q (by omega)
    · rw [df (by omega)]
      exact ⟨v,rfl,Kept.refl _ _ _⟩
theorem Zg8 {c:Nat} (h:1≤c) (h2:c≤4611686018427387904):w64 ((c:Int)-1)=((c-1:Nat):Int):=by rw [Zu (by omega) (by omega)];omega
theorem Zok {a n:Nat} (h:a≤1073741824) (hn:n≤1073741824):w64 ((a:Int)+w64 (w64 (Int.tdiv (n:Int) 4)*2))=((a+n / 4*2:Nat):Int):=by
  rw [ZlR,Zu (x:=((n / 4:Nat):Int)) (by omega) (by omega),Zu (x:=_*2) (by omega) (by omega),Zu (by omega) (by omega)];omega
theorem ZiS {a b:Nat} (h:a≤b) (hb:b≤1073741824):w64 ((b:Int)-(a:Int))=((b-a:Nat):Int):=by rw [Zu (by omega) (by omega)];omega
theorem ge8 {n:Nat} (h:8≤n):decide ((n:Int)≥8)=true:=dt (by omega)
theorem Zm9 {k a b:Nat} {v:List Zb} (hk:5≤k) (hab:a+12<b) (hb:b≤v.length) (hv:v.length≤1073741824):∃v',F151 k v (a:Int) (b:Int)=some v'∧Kept v v' a b:=by
  obtain ⟨M,eM,h1,h2⟩:=Znr (k:=k) (n:=b-a) (by omega) (by omega)
  have hi:a≤a+(b-a) / 4*2-1:=by omega
  have hi2:a+(b-a) / 4*2-1≤a+(b-a) / 4*2+2:=by omega
  have hi3:a+(b-a) / 4*2+2-(a+(b-a) / 4*2-1)<k:=by omega
  obtain ⟨v',e,h⟩:=ZhR h1 h2 hab k _ v (IntKind.wrap .u64 (((b-a:Nat)):Int)) hb hv hi hi2 hi3
  refine ⟨v',?_,h⟩
  rw [F151,ZiS (by omega) (by omega),ge8 (by omega),cond_true,eM,Option.bind_some,if_pos (show (4:Int)≠0 by omega),Zok (by omega) (by omega),Zg8 (by omega) (by omega)]
  exact e
end Go.Proofs.YthilboheomikjaaGreatDoor
end
section
namespace Go.Proofs.YthilboheomikjaaGreatDoor
open Go.AL Go.Lib
set_option maxRecDepth 100000
def Le (x y:Zb):Prop:=w64 (x.f_Lo-y.f_Lo)<0
instance (x y:Zb):Decidable (Le x y):=by unfold Le;infer_instance
theorem ZnL {k:Nat} {self24:List Zb→Int→Int→Option (Int×Bool×List Zb)} {a j:Nat} {v:List Zb} {z:Zb} (ha:v[a]?=some z) (hj:j<v.length) (hv:v.length≤1073741824) :
    ∀(m i:Nat),i≤j+1→j+1-i<m→∃i',i≤i'∧i'≤j+1∧(∀p x,i≤p→p<i'→v[p]?=some x→Le x z)∧(i'≤j→∀x,v[i']?=some x→¬Le x z)∧
      Zbp k self24 (a:Int) v (j:Int) m (i:Int)=Zbq k self24 (a:Int) v (i':Int) k (j:Int)
  | 0,i,_,hm=>by omega
  | m+1,i,hi,hm=>by
    have e:Zbp k self24 (a:Int) v (j:Int) (m+1) (i:Int)=Ze5 k self24 (Zbp k self24 (a:Int) v (j:Int) m) (a:Int) v (j:Int) (i:Int):=rfl
    rw [e]
    unfold Ze5
    have hal:=(List.getElem?_eq_some_iff.1 ha).1
    by_cases h:i≤j
    · obtain ⟨x,hx⟩:=ZP (v:=v) (i:=i) (by omega)
      rw [dt (by omega)]
      simp only [cond]
      rw [if_pos ⟨by omega,by omega⟩,Zy,hx]
      simp only [Option.bind_some]
      rw [if_pos ⟨by omega,by omega⟩,Zy,ha]
      simp only [Option.bind_some,F104]
      by_cases hl:Le x z
      · obtain ⟨i',h1,h2,h3,h4,h5⟩:=ZnL (k:=k) (self24:=self24) ha hj hv m (i+1) (by omega) (by omega)
        refine ⟨i',by omega,h2,fun p y hp hp2 hy=>?_,h4,?_⟩
        · by_cases e2:p=i
          · subst e2;rw [hx] at hy;obtain rfl:=Option.some.inj hy;exact hl
          · exact h3 p y (by omega) hp2 hy
        · rw [dt (show w64 (x.f_Lo-z.f_Lo)<0 from hl)]
          unfold Ze7
          simp only [cond]
          rw [Zu (by omega) (by omega)]
          exact h5
      · refine ⟨i,Nat.le_refl _,hi,fun p y hp hp2 _=>by omega,fun _ y hy=>by rw [hx] at hy;obtain rfl:=Option.some.inj hy;exact hl,?_⟩
        rw [df (show ¬w64 (x.f_Lo-z.f_Lo)<0 from hl)]
        rfl
    · refine ⟨i,Nat.le_refl _,hi,fun p y hp hp2 _=>by omega,fun h2=>absurd h2 h,?_⟩
      rw [df (by omega)]
      rfl
theorem Zlf {k:Nat} {self24:List Zb→Int→Int→Option (Int×Bool×List Zb)} {a i:Nat} {v:List Zb} {z:Zb} (ha:v[a]?=some z) (hai:a<i) (hv:v.length≤1073741824) :
    ∀(m j:Nat),i≤j+1→j<v.length→j+1-i<m→∃j',i≤j'+1∧j'≤j∧(∀p x,j'<p→p≤j→v[p]?=some x→¬Le x z)∧(i≤j'→∀x,v[j']?=some x→Le x z)∧
      Zbq k self24 (a:Int) v (i:Int) m (j:Int)=ZbX self24 (fun _=>none) (a:Int) v (i:Int) (j':Int) false
  | 0,j,_,_,hm=>by omega
  | m+1,j,hi,hj,hm=>by
    have e:Zbq k self24 (a:Int) v (i:Int) (m+1) (j:Int)=Ze6 k self24 (Zbq k self24 (a:Int) v (i:Int) m) (a:Int) v (i:Int) (j:Int):=rfl
    rw [e]
    unfold Ze6
    have hal:=(List.getElem?_eq_some_iff.1 ha).1
    by_cases h:i≤j
    · obtain ⟨x,hx⟩:=ZP (v:=v) (i:=j) (by omega)
      rw [dt (by omega)]
      simp only [cond]
      rw [if_pos ⟨by omega,by omega⟩,Zy,hx]
      simp only [Option.bind_some]
      rw [if_pos ⟨by omega,by omega⟩,Zy,ha]
      simp only [Option.bind_some,F104]
      by_cases hl:Le x z
      · refine ⟨j,by omega,Nat.le_refl _,fun p y hp hp2 _=>by omega,fun _ y hy=>by rw [hx] at hy;obtain rfl:=Option.some.inj hy;exact hl,?_⟩
        rw [dt (show w64 (x.f_Lo-z.f_Lo)<0 from hl)]
        rfl
      · obtain ⟨j',h1,h2,h3,h4,h5⟩:=Zlf (k:=k) (self24:=self24) ha hai hv m (j-1) (by omega) (by omega) (by omega)
        refine ⟨j',h1,by omega,fun p y hp hp2 hy=>?_,h4,?_⟩
        · by_cases e2:p=j
          · subst e2;rw [hx] at hy;obtain rfl:=Option.some.inj hy;exact hl
          · exact h3 p y hp (by omega) hy
        · rw [df (show ¬w64 (x.f_Lo-z.f_Lo)<0 from hl)]
          unfold ZbX
          simp only [Bool.not_false,cond]
          rw [Zu (by omega) (by omega),show (j:Int)-1=((j-1:Nat):Int) by omega]
          rw [h5]
          unfold ZbX
          rfl
    · refine ⟨j,hi,Nat.le_refl _,fun p y hp hp2 _=>by omega,fun h2=>absurd h2 h,?_⟩
      rw [df (by omega)]
      rfl
structure ZfB (v:List Zb) (a b q:Nat) (z:Zb):Prop where
  here:v[q]?=some z
  lo:∀p x,a≤p→p<q→v[p]?=some x→Le x z
  hi:∀p x,q<p→p<b→v[p]?=some x→¬Le x z
theorem Zjf {k a b:Nat} {z:Zb} (hab:a<b) (hk:b-a<k):∀(m i j:Nat) (v:List Zb),a<i→i≤j+1→j<b→b≤v.length→v.length≤1073741824→j+1-i<m→v[a]?=some z→
    (∀p x,a<p→p<i→v[p]?=some x→Le x z)→(∀p x,j<p→p<b→v[p]?=some x→¬Le x z)→
    ∃(q:Nat) (v':List Zb),ZaB k (a:Int) m v (i:Int) (j:Int)=some ((q:Int),false,v')∧a≤q∧q<b∧Kept v v' a b∧ZfB v' a b q z
  | 0,i,j,v,_,_,_,_,_,hm,_,_,_=>by omega
  | m+1,i,j,v,hai,hij,hjb,hb,hv,hm,hz,hlo,hhi=>by
    have e:ZaB k (a:Int) (m+1) v (i:Int) (j:Int)=Zbp k (ZaB k (a:Int) m) (a:Int) v (j:Int) k (i:Int):=rfl
    rw [e]
    obtain ⟨i',g1,g2,g3,g4,e1⟩:=ZnL (k:=k) (self24:=ZaB k (a:Int) m) hz (j:=j) (by omega) hv k i hij (by omega)
    rw [e1]
    obtain ⟨j',d1,d2,d3,d4,e2⟩:=Zlf (k:=k) (self24:=ZaB k (a:Int) m) hz (i:=i') (by omega) hv k j g2 (by omega) (by omega)
    rw [e2]
    have lo':∀p x,a<p→p<i'→v[p]?=some x→Le x z:=fun p x h1 h2 hx=>by
      by_cases h:p<i
      · exact hlo p x h1 h hx
      · exact g3 p x (by omega) h2 hx
    have hi':∀p x,j'<p→p<b→v[p]?=some x→¬Le x z:=fun p x h1 h2 hx=>by
      by_cases h:p≤j
      · exact d3 p x h1 h hx
      · exact hhi p x (by omega) h2 hx
    unfold ZbX
    simp only [cond]
    by_cases h:j'<i'
    · rw [dt (by omega)]
      simp only
      obtain ⟨y,hy⟩:=ZP (v:=v) (i:=j') (by omega)
      have e3:=ZbM hy hz (fun l=>some ((j':Int),false,l))
      unfold sw at e3
      rw [e3]
      refine ⟨j',_,rfl,by omega,by omega,Kept.swp hy hz (by omega) (by omega) (by omega) (by omega),⟨?_,fun p x h1 h2 hx=>?_,fun p x h1 h2 hx=>?_⟩⟩
      · rw [ZZ hy hz]
        by_cases e4:j'=a
        · rw [if_pos e4];subst e4;rw [hy] at hz;exact hz ▸ rfl
        · rw [if_neg e4,if_pos rfl]
      · rw [ZZ hy hz] at hx
        by_cases e4:p=a
        · rw [if_pos e4] at hx
          obtain rfl:=Option.some.inj hx
          exact lo' j' _ (by omega) (by omega) hy
        · rw [if_neg e4,if_neg (by omega)] at hx
          exact lo' p x (by omega) (by omega) hx
      · rw [ZZ hy hz,if_neg (by omega),if_neg (by omega)] at hx
        exact hi' p x h1 h2 hx
    · rw [df (by omega)]
      simp only
      obtain ⟨x,hx⟩:=ZP (v:=v) (i:=i') (by omega)
      obtain ⟨y,hy⟩:=ZP (v:=v) (i:=j') (by omega)
      have hne:i'≠j':=fun e4=>by
        subst e4
        exact g4 (by omega) x hx (d4 (by omega) x hx)
      have e3:=ZbM hx hy (fun l=>ZaB k (a:Int) m l (w64 ((i':Int)+1)) (w64 ((j':Int)-1)))
      unfold sw at e3
      rw [e3,Zu (by omega) (by omega),Zu (by omega) (by omega),show (j':Int)-1=((j'-1:Nat):Int) by omega]
      obtain ⟨q,v',f1,f2,f3,f4,f5⟩:=Zjf (z:=z) hab hk m (i'+1) (j'-1) (swp v i' j' x y) (by omega) (by omega) (by omega) (by rw [ZQ];exact hb) (by rw [ZQ];exact hv) (by omega)
        (by rw [ZZ hx hy,if_neg (by omega),if_neg (by omega)];exact hz)
        (fun p w h1 h2 hw=>by
          rw [ZZ hx hy,if_neg (by omega)] at hw
          by_cases e4:p=i'
          · rw [if_pos e4] at hw;obtain rfl:=Option.some.inj hw;exact d4 (by omega) _ hy
          · rw [if_neg e4] at hw;exact lo' p w h1 (by omega) hw)
        (fun p w h1 h2 hw=>by
          rw [ZZ hx hy] at hw
          by_cases e4:p=j'
          · rw [if_pos e4] at hw;obtain rfl:=Option.some.inj hw;exact g4 (by omega) _ hx
          · rw [if_neg e4,if_neg (by omega)] at hw;exact hi' p w (by omega) h2 hw)
      exact ⟨q,v',f1,f2,f3,(Kept.swp hx hy (by omega) (by omega) (by omega) (by omega)).trans f4,f5⟩
end Go.Proofs.YthilboheomikjaaGreatDoor
end
section
namespace Go.Proofs.YthilboheomikjaaGreatDoor
open Go.AL Go.Lib
set_option maxRecDepth 100000
theorem ZmR {k a b pp:Nat} {v W:List Zb} {x0 y0 z:Zb} (hW:(v.set (Int.toNat (a:Int)) y0).set (Int.toNat (pp:Int)) x0=W) (ha:W[a]?=some z) (hab:a<b) (hb:b≤W.length) (hv:W.length≤1073741824) :
    ∀(m i:Nat),i≤b→b-i<m→∃i',i≤i'∧i'≤b∧(∀p x,i≤p→p<i'→W[p]?=some x→Le x z)∧(i'<b→∀x,W[i']?=some x→¬Le x z)∧
      Zb5 k v (a:Int) (b:Int) (pp:Int) y0 x0 m (i:Int)=Zbf k v (a:Int) (pp:Int) y0 x0 (i':Int) k ((b-1:Nat):Int)
  | 0,i,_,hm=>by omega
  | m+1,i,hi,hm=>by
    have e:Zb5 k v (a:Int) (b:Int) (pp:Int) y0 x0 (m+1) (i:Int)=Zgn k (Zb5 k v (a:Int) (b:Int) (pp:Int) y0 x0 m) v (a:Int) (b:Int) (pp:Int) y0 x0 (i:Int):=rfl
    rw [e]
    unfold Zgn
    rw [hW]
    have eb:w64 ((b:Int)-1)=((b-1:Nat):Int):=by rw [Zu (by omega) (by omega)];omega
    rw [eb]
    by_cases h:i<b
    · obtain ⟨x,hx⟩:=ZP (v:=W) (i:=i) (by omega)
      rw [dt (by omega)]
      simp only [cond]
      rw [if_pos ⟨by omega,by omega⟩,Zy,hx]
      simp only [Option.bind_some]
      rw [if_pos ⟨by omega,by omega⟩,Zy,ha]
      simp only [Option.bind_some,F104]
      by_cases hl:Le x z
      · obtain ⟨i',h1,h2,h3,h4,h5⟩:=ZmR (k:=k) hW ha hab hb hv m (i+1) (by omega) (by omega)
        refine ⟨i',by omega,h2,fun p y hp hp2 hy=>?_,h4,?_⟩
        · by_cases e2:p=i
          · subst e2;rw [hx] at hy;obtain rfl:=Option.some.inj hy;exact hl
          · exact h3 p y (by omega) hp2 hy
        · rw [dt (show w64 (x.f_Lo-z.f_Lo)<0 from hl)]
          unfold Zdg
          simp only [cond]
          rw [Zu (by omega) (by omega)]
          exact h5
      · refine ⟨i,Nat.le_refl _,hi,fun p y hp hp2 _=>by omega,fun _ y hy=>by rw [hx] at hy;obtain rfl:=Option.some.inj hy;exact hl,?_⟩
        rw [df (show ¬w64 (x.f_Lo-z.f_Lo)<0 from hl)]
        unfold Zdg
        simp only [cond]
        rw [eb]
    · refine ⟨i,Nat.le_refl _,hi,fun p y hp hp2 _=>by omega,fun h2=>absurd h2 h,?_⟩
      rw [df (by omega)]
      unfold Zdg
      simp only [cond]
      rw [eb]
theorem Zka {k a i pp:Nat} {v W:List Zb} {x0 y0 z:Zb} (hW:(v.set (Int.toNat (a:Int)) y0).set (Int.toNat (pp:Int)) x0=W) (ha:W[a]?=some z) (hai:a<i) (hv:W.length≤1073741824) :
    ∀(m j:Nat),i≤j+1→j<W.length→j+1-i<m→∃j',i≤j'+1∧j'≤j∧(∀p x,j'<p→p≤j→W[p]?=some x→¬Le x z)∧(i≤j'→∀x,W[j']?=some x→Le x z)∧
      Zbf k v (a:Int) (pp:Int) y0 x0 (i:Int) m (j:Int)=Zdh k (fun _=>none) v (a:Int) (pp:Int) y0 x0 (i:Int) (j':Int) false
  | 0,j,_,_,hm=>by omega
  | m+1,j,hi,hj,hm=>by
    have e:Zbf k v (a:Int) (pp:Int) y0 x0 (i:Int) (m+1) (j:Int)=Zgo k (Zbf k v (a:Int) (pp:Int) y0 x0 (i:Int) m) v (a:Int) (pp:Int) y0 x0 (i:Int) (j:Int):=rfl
    rw [e]
    unfold Zgo
    rw [hW]
    have hal:=(List.getElem?_eq_some_iff.1 ha).1
    by_cases h:i≤j
    · obtain ⟨x,hx⟩:=ZP (v:=W) (i:=j) (by omega)
      rw [dt (by omega)]
      simp only [cond]
      rw [if_pos ⟨by omega,by omega⟩,Zy,hx]
      simp only [Option.bind_some]
      rw [if_pos ⟨by omega,by omega⟩,Zy,ha]
      simp only [Option.bind_some,F104]
      by_cases hl:Le x z
      · refine ⟨j,by omega,Nat.le_refl _,fun p y hp hp2 _=>by omega,fun _ y hy=>by rw [hx] at hy;obtain rfl:=Option.some.inj hy;exact hl,?_⟩
        rw [dt (show w64 (x.f_Lo-z.f_Lo)<0 from hl)]
        rfl
      · obtain ⟨j',h1,h2,h3,h4,h5⟩:=Zka (k:=k) hW ha hai hv m (j-1) (by omega) (by omega) (by omega)
        refine ⟨j',h1,by omega,fun p y hp hp2 hy=>?_,h4,?_⟩
        · by_cases e2:p=j
          · subst e2;rw [hx] at hy;obtain rfl:=Option.some.inj hy;exact hl
          · exact h3 p y hp (by omega) hy
        · rw [df (show ¬w64 (x.f_Lo-z.f_Lo)<0 from hl)]
          have e3:Zdh k (Zbf k v (a:Int) (pp:Int) y0 x0 (i:Int) m) v (a:Int) (pp:Int) y0 x0 (i:Int) (j:Int) (!false)=Zbf k v (a:Int) (pp:Int) y0 x0 (i:Int) m (w64 ((j:Int)-1)):=rfl
          rw [e3,Zu (by omega) (by omega),show (j:Int)-1=((j-1:Nat):Int) by omega]
          exact h5
    · refine ⟨j,hi,Nat.le_refl _,fun p y hp hp2 _=>by omega,fun h2=>absurd h2 h,?_⟩
      rw [df (by omega)]
      rfl
theorem Zos {k a b pp:Nat} {v:List Zb} (hk:b-a+1<k) (hap:a≤pp) (hpb:pp<b) (hb:b≤v.length) (hv:v.length≤1073741824) :
    ∃(q:Nat) (fl:Bool) (v':List Zb) (z:Zb),F156 k v (a:Int) (b:Int) (pp:Int)=some ((q:Int),fl,v')∧a≤q∧q<b∧Kept v v' a b∧ZfB v' a b q z:=by
  obtain ⟨x,hx⟩:=ZP (v:=v) (i:=a) (by omega)
  obtain ⟨y,hy⟩:=ZP (v:=v) (i:=pp) (by omega)
  obtain ⟨W,hWd⟩:∃W,W=swp v a pp x y:=⟨_,rfl⟩
  have hW:(v.set (Int.toNat (a:Int)) y).set (Int.toNat (pp:Int)) x=W:=hWd.symm
  have hz:W[a]?=some y:=by
    rw [hWd,ZZ hx hy]
    by_cases e:a=pp
    · rw [if_pos e];subst e;rw [hx] at hy;exact hy
    · rw [if_neg e,if_pos rfl]
  have hlen:W.length=v.length:=by rw [hWd];exact ZQ v a pp x y
  have k0:Kept v W a b:=by rw [hWd];exact Kept.swp hx hy (by omega) (by omega) hap hpb
  unfold F156
  rw [if_pos ⟨by omega,by omega⟩,Zy,hy]
  simp only [Option.bind_some]
  rw [if_pos ⟨by omega,by omega⟩,Zy,hx]
  simp only [Option.bind_some]
  rw [if_pos ⟨by omega,by omega⟩,if_pos ⟨by omega,by rw [List.length_set];omega⟩,Zy,Int.toNat_natCast]
  have h4:(v.set a y)[pp]?=some ((v.set a y)[pp]'(by rw [List.length_set];omega)):=List.getElem?_eq_getElem _
  rw [h4]
  simp only [Option.bind_some]
  rw [Zu (by omega) (by omega)]
  obtain ⟨i',g1,g2,g3,g4,e1⟩:=ZmR (k:=k) hW hz (b:=b) (by omega) (by omega) (by omega) k (a+1) (by omega) (by omega)
  have e1':Zb5 k v (a:Int) (b:Int) (pp:Int) y x k ((a:Int)+1)=_:=e1
  rw [e1']
  obtain ⟨j',d1,d2,d3,d4,e2⟩:=Zka (k:=k) hW hz (i:=i') (by omega) (by omega) k (b-1) (by omega) (by omega) (by omega)
  rw [e2]
  unfold Zdh
  rw [hW]
  have lo':∀p w,a<p→p<i'→W[p]?=some w→Le w y:=fun p w h1 h2 hw=>g3 p w (by omega) h2 hw
  have hi':∀p w,j'<p→p<b→W[p]?=some w→¬Le w y:=fun p w h1 h2 hw=>d3 p w h1 (by omega) hw
  simp only [cond]
  by_cases h:j'<i'
  · rw [dt (by omega)]
    simp only
    obtain ⟨u,hu⟩:=ZP (v:=W) (i:=j') (by omega)
    have e3:=ZbM hu hz (fun l=>some ((j':Int),true,l))
    unfold sw at e3
    rw [e3]
    refine ⟨j',true,_,y,rfl,by omega,by omega,k0.trans (Kept.swp hu hz (by omega) (by omega) (by omega) (by omega)),⟨?_,fun p w h1 h2 hw=>?_,fun p w h1 h2 hw=>?_⟩⟩
    · rw [ZZ hu hz]
      by_cases e4:j'=a
      · rw [if_pos e4];subst e4;rw [hu] at hz;exact hz
      · rw [if_neg e4,if_pos rfl]
    · rw [ZZ hu hz] at hw
      by_cases e4:p=a
      · rw [if_pos e4] at hw
        obtain rfl:=Option.some.inj hw
        exact lo' j' _ (by omega) (by omega) hu
      · rw [if_neg e4,if_neg (by omega)] at hw
        exact lo' p w (by omega) (by omega) hw
    · rw [ZZ hu hz,if_neg (by omega),if_neg (by omega)] at hw
      exact hi' p w h1 h2 hw
  · rw [df (by omega)]
    simp only
    obtain ⟨u,hu⟩:=ZP (v:=W) (i:=i') (by omega)
    obtain ⟨w,hw⟩:=ZP (v:=W) (i:=j') (by omega)
    have hne:i'≠j':=fun e4=>by
      subst e4
      exact g4 (by omega) u hu (d4 (by omega) u hu)
    have e3:=ZbM hu hw (fun l=>ZaB k (a:Int) k l (w64 ((i':Int)+1)) (w64 ((j':Int)-1)))
    unfold sw at e3
    rw [e3,Zu (by omega) (by omega),Zu (by omega) (by omega),show (j':Int)-1=((j'-1:Nat):Int) by omega]
    obtain ⟨q,v',f1,f2,f3,f4,f5⟩:=Zjf (k:=k) (z:=y) (a:=a) (b:=b) (by omega) (by omega) k (i'+1) (j'-1) (swp W i' j' u w) (by omega) (by omega) (by omega) (by rw [ZQ];omega) (by rw [ZQ];omega) (by omega)
      (by rw [ZZ hu hw,if_neg (by omega),if_neg (by omega)];exact hz)
      (fun p t h1 h2 ht=>by
        rw [ZZ hu hw,if_neg (by omega)] at ht
        by_cases e4:p=i'
        · rw [if_pos e4] at ht;obtain rfl:=Option.some.inj ht;exact d4 (by omega) _ hw
        · rw [if_neg e4] at ht;exact lo' p t h1 (by omega) ht)
      (fun p t h1 h2 ht=>by
        rw [ZZ hu hw] at ht
        by_cases e4:p=j'
        · rw [if_pos e4] at ht;obtain rfl:=Option.some.inj ht;exact g4 (by omega) _ hu
        · rw [if_neg e4,if_neg (by omega)] at ht;exact hi' p t (by omega) h2 ht)
    exact ⟨q,false,v',y,f1,f2,f3,(k0.trans (Kept.swp hu hw (by omega) (by omega) (by omega) (by omega))).trans f4,f5⟩
end Go.Proofs.YthilboheomikjaaGreatDoor
end
section
namespace Go.Proofs.YthilboheomikjaaGreatDoor
open Go.AL Go.Lib
set_option maxRecDepth 100000
theorem ZmS {k:Nat} {self16:List Zb→Int→Int→Option (Int×List Zb)} {a j:Nat} {v:List Zb} {z:Zb} (ha:v[a]?=some z) (hj:j<v.length) (hv:v.length≤1073741824) :
    ∀(m i:Nat),i≤j+1→j+1-i<m→∃i',i≤i'∧i'≤j+1∧(∀p x,i≤p→p<i'→v[p]?=some x→¬Le z x)∧(i'≤j→∀x,v[i']?=some x→Le z x)∧
      Zbo k self16 (a:Int) v (j:Int) m (i:Int)=ZaR k self16 (a:Int) v (i':Int) k (j:Int)
  | 0,i,_,hm=>by omega
  | m+1,i,hi,hm=>by
    have e:Zbo k self16 (a:Int) v (j:Int) (m+1) (i:Int)=Ze2 k self16 (Zbo k self16 (a:Int) v (j:Int) m) (a:Int) v (j:Int) (i:Int):=rfl
    rw [e]
    unfold Ze2
    have hal:=(List.getElem?_eq_some_iff.1 ha).1
    by_cases h:i≤j
    · obtain ⟨x,hx⟩:=ZP (v:=v) (i:=i) (by omega)
      rw [dt (by omega)]
      simp only [cond]
      rw [if_pos ⟨by omega,by omega⟩,Zy,ha]
      simp only [Option.bind_some]
      rw [if_pos ⟨by omega,by omega⟩,Zy,hx]
      simp only [Option.bind_some,F104]
      by_cases hl:Le z x
      · refine ⟨i,Nat.le_refl _,hi,fun p y hp hp2 _=>by omega,fun _ y hy=>by rw [hx] at hy;obtain rfl:=Option.some.inj hy;exact hl,?_⟩
        rw [dt (show w64 (z.f_Lo-x.f_Lo)<0 from hl)]
        rfl
      · obtain ⟨i',h1,h2,h3,h4,h5⟩:=ZmS (k:=k) (self16:=self16) ha hj hv m (i+1) (by omega) (by omega)
        refine ⟨i',by omega,h2,fun p y hp hp2 hy=>?_,h4,?_⟩
        · by_cases e2:p=i
          · subst e2;rw [hx] at hy;obtain rfl:=Option.some.inj hy;exact hl
          · exact h3 p y (by omega) hp2 hy
        · rw [df (show ¬w64 (z.f_Lo-x.f_Lo)<0 from hl)]
          unfold Ze4
          simp only [Bool.not_false,cond]
          rw [Zu (by omega) (by omega)]
          exact h5
    · refine ⟨i,Nat.le_refl _,hi,fun p y hp hp2 _=>by omega,fun h2=>absurd h2 h,?_⟩
      rw [df (by omega)]
      rfl
theorem Zkb {k:Nat} {self16:List Zb→Int→Int→Option (Int×List Zb)} {a i:Nat} {v:List Zb} {z:Zb} (ha:v[a]?=some z) (hai:a<i) (hv:v.length≤1073741824) :
    ∀(m j:Nat),i≤j+1→j<v.length→j+1-i<m→∃j',i≤j'+1∧j'≤j∧(∀p x,j'<p→p≤j→v[p]?=some x→Le z x)∧(i≤j'→∀x,v[j']?=some x→¬Le z x)∧
      ZaR k self16 (a:Int) v (i:Int) m (j:Int)=Zcs self16 (fun _=>none) v (i:Int) (j':Int) false
  | 0,j,_,_,hm=>by omega
  | m+1,j,hi,hj,hm=>by
    have e:ZaR k self16 (a:Int) v (i:Int) (m+1) (j:Int)=Ze3 k self16 (ZaR k self16 (a:Int) v (i:Int) m) (a:Int) v (i:Int) (j:Int):=rfl
    rw [e]
    unfold Ze3
    have hal:=(List.getElem?_eq_some_iff.1 ha).1
    by_cases h:i≤j
    · obtain ⟨x,hx⟩:=ZP (v:=v) (i:=j) (by omega)
      rw [dt (by omega)]
      simp only [cond]
      rw [if_pos ⟨by omega,by omega⟩,Zy,ha]
      simp only [Option.bind_some]
      rw [if_pos ⟨by omega,by omega⟩,Zy,hx]
      simp only [Option.bind_some,F104]
      by_cases hl:Le z x
      · obtain ⟨j',h1,h2,h3,h4,h5⟩:=Zkb (k:=k) (self16:=self16) ha hai hv m (j-1) (by omega) (by omega) (by omega)
        refine ⟨j',h1,by omega,fun p y hp hp2 hy=>?_,h4,?_⟩
        · by_cases e2:p=j
          · subst e2;rw [hx] at hy;obtain rfl:=Option.some.inj hy;exact hl
          · exact h3 p y hp (by omega) hy
        · rw [dt (show w64 (z.f_Lo-x.f_Lo)<0 from hl)]
          have e3:Zcs self16 (ZaR k self16 (a:Int) v (i:Int) m) v (i:Int) (j:Int) true=ZaR k self16 (a:Int) v (i:Int) m (w64 ((j:Int)-1)):=rfl
          rw [e3,Zu (by omega) (by omega),show (j:Int)-1=((j-1:Nat):Int) by omega]
          exact h5
      · refine ⟨j,by omega,Nat.le_refl _,fun p y hp hp2 _=>by omega,fun _ y hy=>by rw [hx] at hy;obtain rfl:=Option.some.inj hy;exact hl,?_⟩
        rw [df (show ¬w64 (z.f_Lo-x.f_Lo)<0 from hl)]
        rfl
    · refine ⟨j,hi,Nat.le_refl _,fun p y hp hp2 _=>by omega,fun h2=>absurd h2 h,?_⟩
      rw [df (by omega)]
      rfl
structure ZiB (v:List Zb) (a b q:Nat) (z:Zb):Prop where
  lo:∀p x,a≤p→p<q→v[p]?=some x→¬Le z x
  hi:∀p x,q≤p→p<b→v[p]?=some x→Le z x
theorem Le.irr (z:Zb):¬Le z z:=by unfold Le;rw [Int.sub_self,Zu (by omega) (by omega)];omega
theorem Zh9 {k a b:Nat} {z:Zb} (hab:a<b) (hk:b-a<k):∀(m i j:Nat) (v:List Zb),a<i→i≤j+1→j<b→b≤v.length→v.length≤1073741824→j+1-i<m→v[a]?=some z→
    (∀p x,a<p→p<i→v[p]?=some x→¬Le z x)→(∀p x,j<p→p<b→v[p]?=some x→Le z x)→
    ∃(q:Nat) (v':List Zb),ZaA k (a:Int) m v (i:Int) (j:Int)=some ((q:Int),v')∧a<q∧q≤b∧Kept v v' a b∧ZiB v' a b q z
  | 0,i,j,v,_,_,_,_,_,hm,_,_,_=>by omega
  | m+1,i,j,v,hai,hij,hjb,hb,hv,hm,hz,hlo,hhi=>by
    have e:ZaA k (a:Int) (m+1) v (i:Int) (j:Int)=Zbo k (ZaA k (a:Int) m) (a:Int) v (j:Int) k (i:Int):=rfl
    rw [e]
    obtain ⟨i',g1,g2,g3,g4,e1⟩:=ZmS (k:=k) (self16:=ZaA k (a:Int) m) hz (j:=j) (by omega) hv k i hij (by omega)
    rw [e1]
    obtain ⟨j',d1,d2,d3,d4,e2⟩:=Zkb (k:=k) (self16:=ZaA k (a:Int) m) hz (i:=i') (by omega) hv k j g2 (by omega) (by omega)
    rw [e2]
    have lo':∀p x,a≤p→p<i'→v[p]?=some x→¬Le z x:=fun p x h1 h2 hx=>by
      by_cases e0:p=a
      · subst e0;rw [hz] at hx;obtain rfl:=Option.some.inj hx;exact Le.irr _
      · by_cases h:p<i
        · exact hlo p x (by omega) h hx
        · exact g3 p x (by omega) h2 hx
    have hi':∀p x,j'<p→p<b→v[p]?=some x→Le z x:=fun p x h1 h2 hx=>by
      by_cases h:p≤j
      · exact d3 p x h1 h hx
      · exact hhi p x (by omega) h2 hx
    unfold Zcs
    simp only [cond]
    by_cases h:j'<i'
    · rw [dt (by omega)]
      exact ⟨i',v,rfl,by omega,by omega,Kept.refl _ _ _,⟨lo',fun p x h1 h2 hx=>hi' p x (by omega) h2 hx⟩⟩
    · rw [df (by omega)]
      simp only
      obtain ⟨x,hx⟩:=ZP (v:=v) (i:=i') (by omega)
      obtain ⟨y,hy⟩:=ZP (v:=v) (i:=j') (by omega)
      have hne:i'≠j':=fun e4=>by
        subst e4
        exact d4 (by omega) x hx (g4 (by omega) x hx)
      have e3:=ZbM hx hy (fun l=>ZaA k (a:Int) m l (w64 ((i':Int)+1)) (w64 ((j':Int)-1)))
      unfold sw at e3
      rw [e3,Zu (by omega) (by omega),Zu (by omega) (by omega),show (j':Int)-1=((j'-1:Nat):Int) by omega]
      obtain ⟨q,v',f1,f2,f3,f4,f5⟩:=Zh9 (z:=z) hab hk m (i'+1) (j'-1) (swp v i' j' x y) (by omega) (by omega) (by omega) (by rw [ZQ];exact hb) (by rw [ZQ];exact hv) (by omega)
        (by rw [ZZ hx hy,if_neg (by omega),if_neg (by omega)];exact hz)
        (fun p w h1 h2 hw=>by
          rw [ZZ hx hy,if_neg (by omega)] at hw
          by_cases e4:p=i'
          · rw [if_pos e4] at hw;obtain rfl:=Option.some.inj hw;exact d4 (by omega) _ hy
          · rw [if_neg e4] at hw;exact lo' p w (by omega) (by omega) hw)
        (fun p w h1 h2 hw=>by
          rw [ZZ hx hy] at hw
          by_cases e4:p=j'
          · rw [if_pos e4] at hw;obtain rfl:=Option.some.inj hw;exact g4 (by omega) _ hx
          · rw [if_neg e4,if_neg (by omega)] at hw;exact hi' p w (by omega) h2 hw)
      exact ⟨q,v',f1,f2,f3,(Kept.swp hx hy (by omega) (by omega) (by omega) (by omega)).trans f4,f5⟩
theorem Zno {k a b pp:Nat} {v:List Zb} {z:Zb} (hk:b-a+1<k) (hap:a≤pp) (hpb:pp<b) (hb:b≤v.length) (hv:v.length≤1073741824) (hy:v[pp]?=some z) :
    ∃(q:Nat) (v':List Zb),F155 k v (a:Int) (b:Int) (pp:Int)=some ((q:Int),v')∧a<q∧q≤b∧Kept v v' a b∧ZiB v' a b q z:=by
  obtain ⟨x,hx⟩:=ZP (v:=v) (i:=a) (by omega)
  have hz:(swp v a pp x z)[a]?=some z:=by
    rw [ZZ hx hy]
    by_cases e:a=pp
    · rw [if_pos e];subst e;rw [hx] at hy;exact hy
    · rw [if_neg e,if_pos rfl]
  have e3:=ZbM hx hy (fun l=>ZaA k (a:Int) k l (w64 ((a:Int)+1)) (w64 ((b:Int)-1)))
  unfold sw at e3
  unfold F155
  rw [e3,Zu (by omega) (by omega),Zu (by omega) (by omega),show (b:Int)-1=((b-1:Nat):Int) by omega]
  obtain ⟨q,v',f1,f2,f3,f4,f5⟩:=Zh9 (k:=k) (z:=z) (a:=a) (b:=b) (by omega) (by omega) k (a+1) (b-1) (swp v a pp x z) (by omega) (by omega) (by omega) (by rw [ZQ];exact hb) (by rw [ZQ];exact hv) (by omega) hz
    (fun p w h1 h2 _=>by omega) (fun p w h1 h2 _=>by omega)
  exact ⟨q,v',f1,f2,f3,(Kept.swp hx hy (by omega) (by omega) hap hpb).trans f4,f5⟩
end Go.Proofs.YthilboheomikjaaGreatDoor
end
section
namespace Go.Proofs.YthilboheomikjaaGreatDoor
open Go.AL Go.Lib
set_option maxRecDepth 100000
def Bnd (v:List Zb) (a b:Nat):Prop:=∀p x y,0<a→v[a-1]?=some x→a≤p→p<b→v[p]?=some y→x.f_Lo≤y.f_Lo
theorem ZcW {v:List Zb} {p q:Nat} {x y:Zb} (h:Small v) (hx:v[p]?=some x) (hy:v[q]?=some y):Le x y↔x.f_Lo<y.f_Lo:=by
  have:=ZeI (h.at hx) (h.at hy)
  unfold Le;rw [this];omega
theorem Kept.mem {v v':List Zb} {a b:Nat} (h:Kept v v' a b) (hb:b≤v.length) {p:Nat} {y:Zb} (hp:a≤p) (hp2:p<b) (hy:v'[p]?=some y):∃q,a≤q∧q<b∧v[q]?=some y:=by
  by_cases hab:a≤b
  · have e1:v=v.take a ++ ((v.drop a).take (b-a) ++ v.drop b):=by
      have:v.drop b=(v.drop a).drop (b-a):=by rw [List.drop_drop];congr 1;omega
      rw [this,List.take_append_drop,List.take_append_drop]
    have e2:v'=v'.take a ++ ((v'.drop a).take (b-a) ++ v'.drop b):=by
      have:v'.drop b=(v'.drop a).drop (b-a):=by rw [List.drop_drop];congr 1;omega
      rw [this,List.take_append_drop,List.take_append_drop]
    have h1:v'.take a=v.take a:=by
      apply List.ext_getElem?;intro i
      rw [List.getElem?_take,List.getElem?_take]
      split
      · exact h.out i (by omega)
      · rfl
    have h2:v'.drop b=v.drop b:=by
      apply List.ext_getElem?;intro i
      rw [List.getElem?_drop,List.getElem?_drop]
      exact h.out (b+i) (by omega)
    have hp':=h.perm
    rw [e1,e2,h1,h2] at hp'
    have hp3:=(List.perm_append_right_iff _).1 ((List.perm_append_left_iff _).1 hp')
    have hy2:y∈(v'.drop a).take (b-a):=by
      apply List.mem_of_getElem? (i:=p-a)
      rw [List.getElem?_take,if_pos (by omega),List.getElem?_drop,show a+(p-a)=p by omega];exact hy
    obtain ⟨i,hi⟩:=List.getElem?_of_mem (hp3.mem_iff.1 hy2)
    rw [List.getElem?_take] at hi
    split at hi
    · rw [List.getElem?_drop] at hi
      exact ⟨a+i,by omega,by omega,hi⟩
    · cases hi
  · omega
theorem Bnd.kept {v v':List Zb} {a b c d:Nat} (h:Bnd v a b) (k:Kept v v' c d) (hc:a≤c) (hd:d≤b) (hb:b≤v.length):Bnd v' a b:=fun p x y h0 hx hp hp2 hy=>by
  rw [k.out (a-1) (by omega)] at hx
  obtain ⟨q,q1,q2,hq⟩:=(k.mono hc hd).mem hb hp hp2 hy
  exact h q x y h0 hx q1 q2 hq
theorem ZkH {k:Nat} {self16:List Zb→Int→Int→Option (Bool×List Zb)} {b n i:Nat}:∀(m j:Nat) (v:List Zb),i<j→j≤b→b≤v.length→v.length≤1073741824→b-j<m→
    ∃v',Za4 k self16 (b:Int) (n:Int) (i:Int) m v (j:Int)=ZbW self16 (n:Int) v' (i:Int)∧Kept v v' i b
  | 0,j,v,_,_,_,_,hm=>by omega
  | m+1,j,v,hi,hj,hb,hv,hm=>by
    have e:Za4 k self16 (b:Int) (n:Int) (i:Int) (m+1) v (j:Int)=Ze1 k self16 (Za4 k self16 (b:Int) (n:Int) (i:Int) m) (b:Int) (n:Int) (i:Int) v (j:Int):=rfl
    rw [e]
    unfold Ze1
    by_cases h:j<b
    · obtain ⟨x,hx⟩:=ZP (v:=v) (i:=j) (by omega)
      obtain ⟨y,hy⟩:=ZP (v:=v) (i:=j-1) (by omega)
      have ew:w64 ((j:Int)-1)=((j-1:Nat):Int):=by rw [Zu (by omega) (by omega)];omega
      have e3:=ZbM hx hy (fun l=>Za4 k self16 (b:Int) (n:Int) (i:Int) m l (w64 ((j:Int)+1)))
      unfold sw at e3
      rw [dt (by omega),ew]
      simp only [cond]
      rw [e3,if_pos ⟨by omega,by omega⟩,Zy,hx]
      simp only [Option.bind_some]
      rw [if_pos ⟨by omega,by omega⟩,Zy,hy]
      simp only [Option.bind_some,F104]
      by_cases hl:w64 (x.f_Lo-y.f_Lo)<0
      · rw [dt hl]
        simp only [Bool.not_true]
        rw [Zu (by omega) (by omega)]
        obtain ⟨v',e4,k4⟩:=ZkH (k:=k) (self16:=self16) (b:=b) (n:=n) (i:=i) m (j+1) (swp v j (j-1) x y) (by omega) (by omega) (by rw [ZQ];exact hb) (by rw [ZQ];exact hv) (by omega)
        exact ⟨v',e4,(Kept.swp hx hy (by omega) (by omega) (by omega) (by omega)).trans k4⟩
      · rw [df hl]
        exact ⟨v,rfl,Kept.refl _ _ _⟩
    · rw [df (by omega)]
      exact ⟨v,rfl,Kept.refl _ _ _⟩
theorem Zin {k:Nat} {self16:List Zb→Int→Int→Option (Bool×List Zb)} {a b n i:Nat} (hai:a<i) (hib:i≤b):∀(m j:Nat) (v:List Zb),j<i→b≤v.length→v.length≤1073741824→j<m→
    ∃v',Za3 k self16 (b:Int) (n:Int) (i:Int) m v (j:Int)=Za1 k self16 (b:Int) (n:Int) (i:Int) v'∧List.Perm v' v∧
      (Small v→Bnd v a b→a≤j→(∀p q x y,a≤p→p<q→q<i→q≠j→v[p]?=some x→v[q]?=some y→x.f_Lo≤y.f_Lo)→ZaK v v' a i∧ZL v' a i)
  | 0,j,v,_,_,_,hm=>by omega
  | m+1,j,v,hj,hb,hv,hm=>by
    have e:Za3 k self16 (b:Int) (n:Int) (i:Int) (m+1) v (j:Int)=Ze0 k self16 (Za3 k self16 (b:Int) (n:Int) (i:Int) m) (b:Int) (n:Int) (i:Int) v (j:Int):=rfl
    rw [e]
    unfold Ze0
    by_cases h:1≤j
    · obtain ⟨x,hx⟩:=ZP (v:=v) (i:=j) (by omega)
      obtain ⟨y,hy⟩:=ZP (v:=v) (i:=j-1) (by omega)
      have ew:w64 ((j:Int)-1)=((j-1:Nat):Int):=by rw [Zu (by omega) (by omega)];omega
      have e3:=ZbM hx hy (fun l=>Za3 k self16 (b:Int) (n:Int) (i:Int) m l ((j-1:Nat):Int))
      unfold sw at e3
      rw [dt (by omega),ew]
      simp only [cond]
      rw [e3,if_pos ⟨by omega,by omega⟩,Zy,hx]
      simp only [Option.bind_some]
      rw [if_pos ⟨by omega,by omega⟩,Zy,hy]
      simp only [Option.bind_some,F104]
      by_cases hl:w64 (x.f_Lo-y.f_Lo)<0
      · rw [dt hl]
        simp only [Bool.not_true]
        obtain ⟨v',e4,p4,c4⟩:=Zin (k:=k) (self16:=self16) (a:=a) (b:=b) (n:=n) hai hib m (j-1) (swp v j (j-1) x y) (by omega) (by rw [ZQ];exact hb) (by rw [ZQ];exact hv) (by omega)
        refine ⟨v',e4,p4.trans (ZdP hx hy),fun hs hbd haj hso=>?_⟩
        have hxy:=(ZcW hs hx hy).1 hl
        have hja:a<j:=by
          apply Nat.lt_of_not_le
          intro hle
          have:j=a:=by omega
          subst this
          have:=hbd j y x (by omega) hy (Nat.le_refl _) (by omega) hx
          omega
        have hget:=ZZ hx hy
        have kk:Kept v (swp v j (j-1) x y) a i:=Kept.swp hx hy (by omega) (by omega) (by omega) (by omega)
        obtain ⟨o4,s4⟩:=c4 (hs.perm (ZdP hx hy)) (hbd.kept kk (Nat.le_refl _) hib hb) (by omega) (fun p q x1 y1 hap hpq hqi hqj h1 h2=>by
          rw [hget] at h1 h2
          rw [if_neg hqj] at h2
          by_cases e5:p=j-1
          · rw [if_pos e5] at h1
            obtain rfl:=Option.some.inj h1
            by_cases e6:q=j
            · rw [if_pos e6] at h2
              obtain rfl:=Option.some.inj h2
              omega
            · rw [if_neg e6] at h2
              have:=hso (j-1) q y y1 (by omega) (by omega) hqi (by omega) hy h2
              omega
          · rw [if_neg e5] at h1
            by_cases e6:p=j
            · rw [if_pos e6] at h1
              obtain rfl:=Option.some.inj h1
              rw [if_neg (by omega)] at h2
              exact hso (j-1) q _ _ (by omega) (by omega) hqi (by omega) hy h2
            · rw [if_neg e6] at h1
              by_cases e7:q=j
              · rw [if_pos e7] at h2
                obtain rfl:=Option.some.inj h2
                exact hso p (j-1) _ _ hap (by omega) (by omega) (by omega) h1 hy
              · rw [if_neg e7] at h2
                exact hso p q _ _ hap hpq hqi e7 h1 h2)
        exact ⟨fun p hp=>(o4 p hp).trans (kk.out p hp),s4⟩
      · rw [df hl]
        refine ⟨v,rfl,List.Perm.refl _,fun hs hbd haj hso=>⟨fun _ _=>rfl,fun p q x1 y1 hap hpq hqi h1 h2=>?_⟩⟩
        have hyx:y.f_Lo≤x.f_Lo:=by
          have:=ZcW hs hx hy
          unfold Le at this
          omega
        by_cases e5:q=j
        · subst e5
          rw [hx] at h2
          obtain rfl:=Option.some.inj h2
          by_cases e6:p=q-1
          · subst e6
            rw [hy] at h1
            obtain rfl:=Option.some.inj h1
            exact hyx
          · have:=hso p (q-1) _ _ hap (by omega) (by omega) (by omega) h1 hy
            omega
        · exact hso p q _ _ hap hpq hqi e5 h1 h2
    · rw [df (by omega)]
      refine ⟨v,rfl,List.Perm.refl _,fun hs hbd haj hso=>⟨fun _ _=>rfl,fun p q x1 y1 hap hpq hqi h1 h2=>hso p q _ _ hap hpq hqi (by omega) h1 h2⟩⟩
end Go.Proofs.YthilboheomikjaaGreatDoor
end
section
namespace Go.Proofs.YthilboheomikjaaGreatDoor
open Go.AL Go.Lib
set_option maxRecDepth 100000
theorem ZaE {a b:Int} (h:a=b):(a == b)=true:=by simpa using h
theorem ZG {a b:Int} (h:a≠b):(a == b)=false:=by simpa using h
theorem Zlt {k:Nat} {self16:List Zb→Int→Int→Option (Bool×List Zb)} {a b n:Nat} {v:List Zb} (hb:b≤v.length) (hv:v.length≤1073741824) :
    ∀(m i:Nat),a<i→i≤b→b-i<m→∃i',i≤i'∧i'≤b∧(Small v→ZL v a i→ZL v a i')∧
      Za2 k self16 (a:Int) (b:Int) v (n:Int) m (i:Int)=Zcr k self16 (fun _=>none) (a:Int) (b:Int) v (n:Int) (i':Int) false
  | 0,i,_,_,hm=>by omega
  | m+1,i,ha,hi,hm=>by
    have e:Za2 k self16 (a:Int) (b:Int) v (n:Int) (m+1) (i:Int)=ZeZ k self16 (Za2 k self16 (a:Int) (b:Int) v (n:Int) m) (a:Int) (b:Int) v (n:Int) (i:Int):=rfl
    rw [e]
    unfold ZeZ
    by_cases h:i<b
    · obtain ⟨x,hx⟩:=ZP (v:=v) (i:=i) (by omega)
      obtain ⟨y,hy⟩:=ZP (v:=v) (i:=i-1) (by omega)
      have ew:w64 ((i:Int)-1)=((i-1:Nat):Int):=by rw [Zu (by omega) (by omega)];omega
      rw [dt (by omega),ew]
      simp only [cond]
      rw [if_pos ⟨by omega,by omega⟩,Zy,hx]
      simp only [Option.bind_some]
      rw [if_pos ⟨by omega,by omega⟩,Zy,hy]
      simp only [Option.bind_some,F104]
      by_cases hl:w64 (x.f_Lo-y.f_Lo)<0
      · rw [dt hl]
        exact ⟨i,Nat.le_refl _,hi,fun _ h=>h,rfl⟩
      · rw [df hl]
        obtain ⟨i',h1,h2,h3,h4⟩:=Zlt (k:=k) (self16:=self16) (a:=a) (b:=b) (n:=n) hb hv m (i+1) (by omega) (by omega) (by omega)
        refine ⟨i',by omega,h2,fun hs hso=>h3 hs fun p q x1 y1 hap hpq hqi hp hq=>?_,?_⟩
        · have hyx:y.f_Lo≤x.f_Lo:=by
            have:=ZcW hs hx hy
            unfold Le at this
            omega
          by_cases e5:q=i
          · subst e5
            rw [hx] at hq
            obtain rfl:=Option.some.inj hq
            by_cases e6:p=q-1
            · subst e6
              rw [hy] at hp
              obtain rfl:=Option.some.inj hp
              exact hyx
            · have:=hso p (q-1) _ _ hap (by omega) (by omega) hp hy
              omega
          · exact hso p q _ _ hap hpq (by omega) hp hq
        · have e3:Zcr k self16 (Za2 k self16 (a:Int) (b:Int) v (n:Int) m) (a:Int) (b:Int) v (n:Int) (i:Int) (!false)=Za2 k self16 (a:Int) (b:Int) v (n:Int) m (w64 ((i:Int)+1)):=rfl
          rw [e3,Zu (by omega) (by omega)]
          exact h4
    · rw [df (by omega)]
      exact ⟨i,Nat.le_refl _,hi,fun _ h=>h,rfl⟩
theorem Zm5 {k:Nat} {self16:List Zb→Int→Int→Option (Bool×List Zb)} {b n i:Nat} {v:List Zb} (hib:i<b) (hb:b≤v.length) (hv:v.length≤1073741824) (hk:v.length<k) (hn:n≤5) :
    ∃v',Za1 k self16 (b:Int) (n:Int) (i:Int) v=self16 v' (i:Int) ((n+1:Nat):Int)∧Kept v v' i b:=by
  unfold Za1
  have e0:w64 ((b:Int)-(i:Int))=((b-i:Nat):Int):=by rw [Zu (by omega) (by omega)];omega
  have en:∀l,ZbW self16 (n:Int) l (i:Int)=self16 l (i:Int) ((n+1:Nat):Int):=fun l=>by
    unfold ZbW
    rw [Zu (by omega) (by omega)];rfl
  rw [e0]
  by_cases h:2≤b-i
  · rw [dt (by omega)]
    simp only [cond]
    obtain ⟨v',e1,k1⟩:=ZkH (k:=k) (self16:=self16) (b:=b) (n:=n) (i:=i) k (i+1) v (by omega) (by omega) hb hv (by omega)
    rw [Zu (by omega) (by omega)]
    exact ⟨v',(show Za4 k self16 (b:Int) (n:Int) (i:Int) k v ((i:Int)+1)=_ from e1).trans (en v'),k1⟩
  · rw [df (by omega)]
    exact ⟨v,en v,Kept.refl _ _ _⟩
theorem Zjo {k a b:Nat} (hab:a<b):∀(m n i:Nat) (v:List Zb),n≤5→5-n<m→a<i→i≤b→b≤v.length→v.length≤1073741824→v.length<k→
    ∃fl v',Zah k (a:Int) (b:Int) m v (i:Int) (n:Int)=some (fl,v')∧List.Perm v' v∧(Small v→Bnd v a b→ZL v a i→ZaK v v' a b∧(fl=true→ZL v' a b))
  | 0,n,i,v,_,hm,_,_,_,_,_=>by omega
  | m+1,n,i,v,hn,hm,ha,hi,hb,hv,hk=>by
    have e:Zah k (a:Int) (b:Int) (m+1) v (i:Int) (n:Int)=ZeY k (Zah k (a:Int) (b:Int) m) (a:Int) (b:Int) v (i:Int) (n:Int):=rfl
    rw [e]
    unfold ZeY
    by_cases h5:n<5
    · rw [dt (by omega)]
      simp only [cond]
      obtain ⟨i',h1,h2,h3,h4⟩:=Zlt (k:=k) (self16:=Zah k (a:Int) (b:Int) m) (a:=a) (b:=b) (n:=n) hb hv k i ha hi (by omega)
      rw [h4]
      unfold Zcr
      simp only [cond]
      by_cases hib:i'=b
      · rw [ZaE (show (i':Int)=(b:Int) by omega)]
        subst hib
        exact ⟨true,v,rfl,List.Perm.refl _,fun hs _ hso=>⟨fun _ _=>rfl,fun _=>h3 hs hso⟩⟩
      · rw [ZG (show ¬(i':Int)=(b:Int) by omega)]
        simp only
        have e0:w64 ((b:Int)-(a:Int))=((b-a:Nat):Int):=by rw [Zu (by omega) (by omega)];omega
        rw [e0]
        by_cases h50:b-a<50
        · rw [dt (by omega)]
          exact ⟨false,v,rfl,List.Perm.refl _,fun hs _ hso=>⟨fun _ _=>rfl,fun h=>by cases h⟩⟩
        · rw [df (by omega)]
          simp only
          obtain ⟨x,hx⟩:=ZP (v:=v) (i:=i') (by omega)
          obtain ⟨y,hy⟩:=ZP (v:=v) (i:=i'-1) (by omega)
          have ew:w64 ((i':Int)-1)=((i'-1:Nat):Int):=by rw [Zu (by omega) (by omega)];omega
          have ea:w64 ((i':Int)-(a:Int))=((i'-a:Nat):Int):=by rw [Zu (by omega) (by omega)];omega
          have e3:=ZbM hx hy (fun l=>cond (decide ((w64 ((i':Int)-(a:Int)))≥2)) (Za3 k (Zah k (a:Int) (b:Int) m) (b:Int) (n:Int) (i':Int) k l (w64 ((i':Int)-1))) (Za1 k (Zah k (a:Int) (b:Int) m) (b:Int) (n:Int) (i':Int) l))
          unfold sw at e3
          rw [ew] at e3 ⊢
          simp only [cond] at e3
          rw [e3]
          have kk:Kept v (swp v i' (i'-1) x y) a b:=Kept.swp hx hy (by omega) (by omega) (by omega) (by omega)
          have fin:∀w:List Zb,List.Perm w v→(Small v→Bnd v a b→ZL v a i→ZaK v w a b∧ZL w a i')→
              ∃fl v',Za1 k (Zah k (a:Int) (b:Int) m) (b:Int) (n:Int) (i':Int) w=some (fl,v')∧List.Perm v' v∧(Small v→Bnd v a b→ZL v a i→ZaK v v' a b∧(fl=true→ZL v' a b)):=fun w pw hw=>by
            have hwl:=pw.length_eq
            obtain ⟨u,e5,k5⟩:=Zm5 (k:=k) (self16:=Zah k (a:Int) (b:Int) m) (b:=b) (n:=n) (i:=i') (v:=w) (by omega) (by omega) (by omega) (by omega) (by omega)
            have hul:=k5.len
            obtain ⟨fl,v',e6,p6,c6⟩:=Zjo (k:=k) hab m (n+1) i' u (by omega) (by omega) (by omega) h2 (by omega) (by omega) (by omega)
            refine ⟨fl,v',e5.trans e6,p6.trans (k5.perm.trans pw),fun hs hbd hso=>?_⟩
            obtain ⟨o7,s7⟩:=hw hs hbd hso
            have k7:Kept v w a b:=⟨pw,o7⟩
            have k8:Kept v u a b:=k7.trans (k5.mono (by omega) (Nat.le_refl _))
            obtain ⟨o9,s9⟩:=c6 (hs.perm k8.perm) (hbd.kept k8 (Nat.le_refl _) (Nat.le_refl _) hb) (fun p q x1 y1 hap hpq hqi hp hq=>s7 p q x1 y1 hap hpq hqi (by rw [←k5.out p (by omega)];exact hp) (by rw [←k5.out q (by omega)];exact hq))
            exact ⟨fun p hp=>(o9 p hp).trans (k8.out p hp),s9⟩
          have srt:Small v→ZL v a i→∀p q x1 y1,a≤p→p<q→q<i'→q≠i'-1→(swp v i' (i'-1) x y)[p]?=some x1→(swp v i' (i'-1) x y)[q]?=some y1→x1.f_Lo≤y1.f_Lo:=fun hs hso p q x1 y1 hap hpq hqi hqj hp hq=>by
            rw [ZZ hx hy,if_neg (by omega),if_neg (by omega)] at hp hq
            exact h3 hs hso p q _ _ hap hpq hqi hp hq
          rw [ea]
          by_cases h2':2≤i'-a
          · rw [dt (by omega)]
            simp only
            obtain ⟨w,e5,p5,c5⟩:=Zin (k:=k) (self16:=Zah k (a:Int) (b:Int) m) (a:=a) (b:=b) (n:=n) (i:=i') (by omega) h2 k (i'-1) (swp v i' (i'-1) x y) (by omega) (by rw [ZQ];exact hb) (by rw [ZQ];exact hv) (by omega)
            rw [e5]
            refine fin w (p5.trans kk.perm) fun hs hbd hso=>?_
            obtain ⟨o6,s6⟩:=c5 (hs.perm kk.perm) (hbd.kept kk (Nat.le_refl _) (Nat.le_refl _) hb) (by omega) (srt hs hso)
            exact ⟨fun p hp=>(o6 p (by omega)).trans (kk.out p hp),s6⟩
          · rw [df (by omega)]
            refine fin _ kk.perm fun hs hbd hso=>⟨kk.out,fun p q x1 y1 hap hpq hqi hp hq=>by omega⟩
    · rw [df (by omega)]
      exact ⟨false,v,rfl,List.Perm.refl _,fun hs _ hso=>⟨fun _ _=>rfl,fun h=>by cases h⟩⟩
end Go.Proofs.YthilboheomikjaaGreatDoor
end
section
namespace Go.Proofs.YthilboheomikjaaGreatDoor
open Go.AL Go.Lib
set_option maxRecDepth 100000
def Heap (v:List Zb) (f n lo r:Nat):Prop:=∀i c x y,lo≤i→i≠r→(c=2*i+1∨c=2*i+2)→c<n→v[f+i]?=some x→v[f+c]?=some y→y.f_Lo≤x.f_Lo
def Over (v:List Zb) (f n lo r:Nat):Prop:=∀i c x y,lo≤i→(r=2*i+1∨r=2*i+2)→(c=2*r+1∨c=2*r+2)→c<n→v[f+i]?=some x→v[f+c]?=some y→y.f_Lo≤x.f_Lo
theorem ZiQ {k f n lo:Nat}:∀(m r:Nat) (v:List Zb),lo≤r→r≤n→n-r<m→f+n≤v.length→v.length≤1073741824→
    ∃v',ZbH k (n:Int) (f:Int) m v (r:Int)=some v'∧Kept v v' f (f+n)∧(Small v→Heap v f n lo r→Over v f n lo r→Heap v' f n lo n)
  | 0,r,v,_,_,hm,_,_=>by omega
  | m+1,r,v,hlo,hrn,hm,hl,hv=>by
    have e:ZbH k (n:Int) (f:Int) (m+1) v (r:Int)=Zgt k (ZbH k (n:Int) (f:Int) m) (n:Int) (f:Int) v (r:Int):=rfl
    rw [e]
    unfold Zgt
    have e1:w64 (w64 (2*(r:Int))+1)=((2*r+1:Nat):Int):=by rw [Zu (x:=2*(r:Int)) (by omega) (by omega),Zu (by omega) (by omega)];omega
    have e2:w64 (((2*r+1:Nat):Int)+1)=((2*r+2:Nat):Int):=by rw [Zu (by omega) (by omega)];omega
    rw [e1,e2]
    by_cases hc:n≤2*r+1
    · rw [dt (by omega)]
      refine ⟨v,rfl,Kept.refl _ _ _,fun _ hh _ i c x y h1 h2 h3 h4 hx hy=>?_⟩
      by_cases hir:i=r
      · omega
      · exact hh i c x y h1 hir h3 h4 hx hy
    · rw [df (by omega)]
      simp only [cond]
      obtain ⟨x,hx⟩:=ZP (v:=v) (i:=f+r) (by omega)
      have go:∀c:Nat,(c=2*r+1∨c=2*r+2)→c<n→(Small v→∀d y z,(d=2*r+1∨d=2*r+2)→d<n→v[f+d]?=some y→v[f+c]?=some z→y.f_Lo≤z.f_Lo)→
          ∃v',Zep k (ZbH k (n:Int) (f:Int) m) (f:Int) v (r:Int) (c:Int)=some v'∧Kept v v' f (f+n)∧(Small v→Heap v f n lo r→Over v f n lo r→Heap v' f n lo n):=fun c hcr hcn hmax=>by
        obtain ⟨y,hy⟩:=ZP (v:=v) (i:=f+c) (by omega)
        unfold Zep
        have f1:w64 ((f:Int)+(r:Int))=((f+r:Nat):Int):=by rw [Zu (by omega) (by omega)];omega
        have f2:w64 ((f:Int)+(c:Int))=((f+c:Nat):Int):=by rw [Zu (by omega) (by omega)];omega
        have e3:=ZbM hx hy (fun l=>ZbH k (n:Int) (f:Int) m l (c:Int))
        unfold sw at e3
        rw [f1,f2,e3,if_pos ⟨by omega,by omega⟩,Zy,hx]
        simp only [Option.bind_some]
        rw [if_pos ⟨by omega,by omega⟩,Zy,hy]
        simp only [Option.bind_some,F104]
        by_cases hl2:w64 (x.f_Lo-y.f_Lo)<0
        · rw [dt hl2]
          simp only [Bool.not_true]
          have hget:=ZZ hx hy
          have kk:Kept v (swp v (f+r) (f+c) x y) f (f+n):=Kept.swp hx hy (by omega) (by omega) (by omega) (by omega)
          obtain ⟨v',e4,k4,c4⟩:=ZiQ (k:=k) (f:=f) (n:=n) (lo:=lo) m c (swp v (f+r) (f+c) x y) (by omega) (by omega) (by omega) (by rw [ZQ];exact hl) (by rw [ZQ];exact hv)
          refine ⟨v',e4,kk.trans k4,fun hs hh ho=>c4 (hs.perm kk.perm) ?_ ?_⟩
          · have hxy:=(ZcW hs hx hy).1 hl2
            intro i d x1 y1 h1 h2 h3 h4 hp hq
            rw [hget] at hp hq
            rw [if_neg (by omega)] at hp
            by_cases ir:i=r
            · subst ir
              rw [if_pos rfl] at hp
              obtain rfl:=Option.some.inj hp
              by_cases dc:d=c
              · subst dc
                rw [if_pos rfl] at hq
                obtain rfl:=Option.some.inj hq
                omega
              · rw [if_neg (by omega),if_neg (by omega)] at hq
                exact hmax hs d _ _ h3 h4 hq hy
            · rw [if_neg (by omega)] at hp
              by_cases dr:d=r
              · subst dr
                rw [if_neg (by omega),if_pos rfl] at hq
                obtain rfl:=Option.some.inj hq
                exact ho i c _ _ h1 h3 hcr hcn hp hy
              · by_cases dc:d=c
                · omega
                · rw [if_neg (by omega),if_neg (by omega)] at hq
                  exact hh i d _ _ h1 ir h3 h4 hp hq
          · intro i d x1 y1 h1 h2 h3 h4 hp hq
            have ir:i=r:=by omega
            subst ir
            rw [hget] at hp hq
            rw [if_neg (by omega),if_pos rfl] at hp
            obtain rfl:=Option.some.inj hp
            rw [if_neg (by omega),if_neg (by omega)] at hq
            exact hh c d _ _ (by omega) (by omega) h3 h4 hy hq
        · rw [df hl2]
          refine ⟨v,rfl,Kept.refl _ _ _,fun hs hh _ i d x1 y1 h1 h2 h3 h4 hp hq=>?_⟩
          by_cases ir:i=r
          · subst ir
            rw [hx] at hp
            obtain rfl:=Option.some.inj hp
            have h5:=hmax hs d y1 y h3 h4 hq hy
            have h6:=ZcW hs hx hy
            unfold Le at h6
            omega
          · exact hh i d _ _ h1 ir h3 h4 hp hq
      by_cases hc2:2*r+2<n
      · rw [dt (by omega)]
        simp only
        obtain ⟨y,hy⟩:=ZP (v:=v) (i:=f+(2*r+1)) (by omega)
        obtain ⟨z,hz⟩:=ZP (v:=v) (i:=f+(2*r+2)) (by omega)
        have g1:w64 ((f:Int)+((2*r+1:Nat):Int))=((f+(2*r+1):Nat):Int):=by rw [Zu (by omega) (by omega)];omega
        have g2:w64 (((f+(2*r+1):Nat):Int)+1)=((f+(2*r+2):Nat):Int):=by rw [Zu (by omega) (by omega)];omega
        rw [g1,g2,if_pos ⟨by omega,by omega⟩,Zy,hy]
        simp only [Option.bind_some]
        rw [if_pos ⟨by omega,by omega⟩,Zy,hz]
        simp only [Option.bind_some,F104]
        unfold Zeo
        rw [e1,e2]
        by_cases hl2:w64 (y.f_Lo-z.f_Lo)<0
        · rw [dt hl2]
          refine go (2*r+2) (.inr rfl) hc2 fun hs d y1 z1 hd hdn h1 h2=>?_
          have h6:=(ZcW hs hy hz).1 hl2
          rw [hz] at h2
          obtain rfl:=Option.some.inj h2
          rcases hd with rfl | rfl
          · rw [hy] at h1;obtain rfl:=Option.some.inj h1;omega
          · rw [hz] at h1;obtain rfl:=Option.some.inj h1;omega
        · rw [df hl2]
          refine go (2*r+1) (.inl rfl) (by omega) fun hs d y1 z1 hd hdn h1 h2=>?_
          have h6:=ZcW hs hy hz
          unfold Le at h6
          rw [hy] at h2
          obtain rfl:=Option.some.inj h2
          rcases hd with rfl | rfl
          · rw [hy] at h1;obtain rfl:=Option.some.inj h1;omega
          · rw [hz] at h1;obtain rfl:=Option.some.inj h1;omega
      · rw [df (by omega)]
        unfold Zeo
        simp only [cond]
        rw [e1]
        refine go (2*r+1) (.inl rfl) (by omega) fun hs d y1 z1 hd hdn h1 h2=>?_
        rcases hd with rfl | rfl
        · rw [h1] at h2;obtain rfl:=Option.some.inj h2;omega
        · omega
end Go.Proofs.YthilboheomikjaaGreatDoor
end
section
namespace Go.Proofs.YthilboheomikjaaGreatDoor
open Go.AL Go.Lib
set_option maxRecDepth 100000
theorem Heap.top {v:List Zb} {f n r:Nat} (h:Heap v f n 0 r) (hr:n≤r) (hl:f+n≤v.length):∀(i:Nat) (x y:Zb),i<n→v[f]?=some x→v[f+i]?=some y→y.f_Lo≤x.f_Lo:=by
  intro i
  induction i using Nat.strongRecOn with
  | ind i ih=>
    intro x y hi hx hy
    by_cases h0:i=0
    · subst h0;rw [Nat.add_zero] at hy;rw [hx] at hy;obtain rfl:=Option.some.inj hy;omega
    · obtain ⟨z,hz⟩:=ZP (v:=v) (i:=f+(i-1) / 2) (by omega)
      have h1:=ih ((i-1) / 2) (by omega) x z (by omega) hx hz
      have h2:=h ((i-1) / 2) i z y (by omega) (by omega) (by omega) hi hz hy
      omega
theorem Zj2 {k a b:Nat} (hab:a<b) (hk:b-a+2<k) {R:List Zb→Prop} {F:List Zb→Option (List Zb)}:∀(i m:Nat) (v:List Zb),i≤b-a→i<m→b≤v.length→v.length≤1073741824→
    (∀l,F l=ZaJ k (a:Int) k l (((b-a:Nat):Int)-1))→
    ∃v',ZbD k (a:Int) (b:Int) m v ((i:Int)-1)=F v'∧Kept v v' a b∧(Small v→Heap v a (b-a) i (b-a)→Heap v' a (b-a) 0 (b-a))
  | 0,0,v,_,hm,_,_,_=>by omega
  | 0,m+1,v,hi,hm,hb,hv,hF=>by
    have e:ZbD k (a:Int) (b:Int) (m+1) v (((0:Nat):Int)-1)=Zdd k (ZbD k (a:Int) (b:Int) m) (a:Int) (b:Int) v (((0:Nat):Int)-1):=rfl
    rw [e]
    unfold Zdd
    have e0:w64 ((b:Int)-(a:Int))=((b-a:Nat):Int):=by rw [Zu (by omega) (by omega)];omega
    rw [df (by omega),cond_false,e0,Zu (x:=((b-a:Nat):Int)-1) (by omega) (by omega)]
    exact ⟨v,(hF v).symm,Kept.refl _ _ _,fun _ h=>h⟩
  | i+1,0,v,_,hm,_,_,_=>by omega
  | i+1,m+1,v,hi,hm,hb,hv,hF=>by
    have ei:(((i+1:Nat):Int)-1)=(i:Int):=by omega
    rw [ei]
    have e:ZbD k (a:Int) (b:Int) (m+1) v (i:Int)=Zdd k (ZbD k (a:Int) (b:Int) m) (a:Int) (b:Int) v (i:Int):=rfl
    rw [e]
    unfold Zdd
    have e0:w64 ((b:Int)-(a:Int))=((b-a:Nat):Int):=by rw [Zu (by omega) (by omega)];omega
    rw [dt (by omega),e0]
    simp only [cond]
    obtain ⟨w,e1,k1,c1⟩:=ZiQ (k:=k) (f:=a) (n:=b-a) (lo:=i) k i v (Nat.le_refl _) (by omega) (by omega) (by omega) hv
    have e1':F176 k v (i:Int) ((b-a:Nat):Int) (a:Int)=some w:=e1
    rw [e1']
    simp only [Option.bind_some]
    have hwl:=k1.len
    rw [if_pos hwl,Zu (by omega) (by omega)]
    rw [show a+(b-a)=b by omega] at k1
    obtain ⟨v',e2,k2,c2⟩:=Zj2 hab hk (R:=R) (F:=F) i m w (by omega) (by omega) (by omega) (by omega) hF
    refine ⟨v',e2,k1.trans k2,fun hs hh=>c2 (hs.perm k1.perm) (c1 hs (fun j c x y h1 h2 h3 h4 hx hy=>hh j c x y (by omega) (by omega) h3 h4 hx hy) (fun j c x y h1 h2 h3 h4 hx hy=>by omega))⟩
theorem ZmJ {k a b:Nat} (hab:a<b) (hk:b-a+2<k):∀(i m:Nat) (v:List Zb),i≤b-a→i<m→b≤v.length→v.length≤1073741824→
    ∃v',ZaJ k (a:Int) m v ((i:Int)-1)=some v'∧Kept v v' a b∧(Small v→Heap v a i 0 i→(∀p q x y,p<i→i≤q→q<b-a→v[a+p]?=some x→v[a+q]?=some y→x.f_Lo≤y.f_Lo)→ZL v (a+i) b→ZL v' a b)
  | 0,0,v,_,hm,_,_=>by omega
  | 0,m+1,v,hi,hm,hb,hv=>by
    have e:ZaJ k (a:Int) (m+1) v (((0:Nat):Int)-1)=Zde k (ZaJ k (a:Int) m) (a:Int) v (((0:Nat):Int)-1):=rfl
    rw [e]
    unfold Zde
    rw [df (by omega)]
    exact ⟨v,rfl,Kept.refl _ _ _,fun _ _ _ h=>h⟩
  | i+1,0,v,_,hm,_,_=>by omega
  | i+1,m+1,v,hi,hm,hb,hv=>by
    have ei:(((i+1:Nat):Int)-1)=(i:Int):=by omega
    rw [ei]
    have e:ZaJ k (a:Int) (m+1) v (i:Int)=Zde k (ZaJ k (a:Int) m) (a:Int) v (i:Int):=rfl
    rw [e]
    unfold Zde
    obtain ⟨x,hx⟩:=ZP (v:=v) (i:=a) (by omega)
    obtain ⟨y,hy⟩:=ZP (v:=v) (i:=a+i) (by omega)
    have f1:w64 ((a:Int)+(i:Int))=((a+i:Nat):Int):=by rw [Zu (by omega) (by omega)];omega
    have e3:=ZbM hx hy (fun l=>(F176 k l 0 (i:Int) (a:Int)).bind fun y154=>if y154.length=l.length then (ZaJ k (a:Int) m y154 (w64 ((i:Int)-1))) else none)
    unfold sw at e3
    rw [dt (by omega),f1]
    simp only [cond]
    rw [e3]
    have kk:Kept v (swp v a (a+i) x y) a b:=Kept.swp hx hy (by omega) (by omega) (by omega) (by omega)
    obtain ⟨w,e1,k1,c1⟩:=ZiQ (k:=k) (f:=a) (n:=i) (lo:=0) k 0 (swp v a (a+i) x y) (Nat.le_refl _) (by omega) (by omega) (by rw [ZQ];omega) (by rw [ZQ];exact hv)
    have e1':F176 k (swp v a (a+i) x y) 0 (i:Int) (a:Int)=some w:=e1
    rw [e1']
    simp only [Option.bind_some]
    have hwl:=k1.len
    rw [if_pos hwl,Zu (by omega) (by omega)]
    rw [ZQ] at hwl
    obtain ⟨v',e2,k2,c2⟩:=ZmJ hab hk i m w (by omega) (by omega) (by omega) (by omega)
    refine ⟨v',e2,(kk.trans (k1.mono (Nat.le_refl _) (by omega))).trans k2,fun hs hh hle hso=>?_⟩
    have hget:=ZZ hx hy
    have top:∀p z,p≤i→v[a+p]?=some z→z.f_Lo≤x.f_Lo:=fun p z hp hz=>hh.top (Nat.le_refl _) (by omega) p x z (by omega) hx hz
    have wend:w[a+i]?=some x:=by
      rw [k1.out (a+i) (by omega),hget,if_pos rfl]
    have wout:∀q,i<q→w[a+q]?=v[a+q]?:=fun q hq=>by
      rw [k1.out (a+q) (by omega),hget,if_neg (by omega),if_neg (by omega)]
    have win:∀p z,p<i→w[a+p]?=some z→∃q,q≤i∧v[a+q]?=some z:=fun p z hp hz=>by
      obtain ⟨q,q1,q2,hq⟩:=k1.mem (by rw [ZQ];omega) (p:=a+p) (by omega) (by omega) hz
      rw [hget,if_neg (by omega)] at hq
      by_cases e5:q=a
      · rw [if_pos e5] at hq;obtain rfl:=Option.some.inj hq;exact ⟨i,Nat.le_refl _,hy⟩
      · rw [if_neg e5] at hq;exact ⟨q-a,by omega,by rw [show a+(q-a)=q by omega];exact hq⟩
    refine c2 (hs.perm (k1.perm.trans kk.perm)) (c1 (hs.perm kk.perm) (fun j c x1 y1 h1 h2 h3 h4 hp hq=>?_) (fun j c x1 y1 h1 h2 h3 h4 hp hq=>by omega)) (fun p q x1 y1 hp hq hqb h1 h2=>?_) (fun p q x1 y1 hap hpq hqb h1 h2=>?_)
    · rw [hget,if_neg (by omega),if_neg (by omega)] at hp hq
      exact hh j c x1 y1 h1 (by omega) h3 (by omega) hp hq
    · obtain ⟨p',hp',hz⟩:=win p x1 hp h1
      by_cases e5:q=i
      · subst e5
        rw [wend] at h2
        obtain rfl:=Option.some.inj h2
        exact top p' x1 hp' hz
      · rw [wout q (by omega)] at h2
        exact hle p' q x1 y1 (by omega) (by omega) hqb hz h2
    · by_cases e5:p=a+i
      · subst e5
        rw [wend] at h1
        obtain rfl:=Option.some.inj h1
        have h2':v[a+(q-a)]?=some y1:=by rw [←wout (q-a) (by omega),show a+(q-a)=q by omega];exact h2
        exact hle 0 (q-a) x y1 (by omega) (by omega) (by omega) (by rw [Nat.add_zero];exact hx) h2'
      · have h1':v[p]?=some x1:=by have:=wout (p-a) (by omega);rw [show a+(p-a)=p by omega] at this;rw [←this];exact h1
        have h2':v[q]?=some y1:=by have:=wout (q-a) (by omega);rw [show a+(q-a)=q by omega] at this;rw [←this];exact h2
        exact hso p q x1 y1 (by omega) hpq hqb h1' h2'
theorem Zol {k a b:Nat} {v:List Zb} (hab:a<b) (hk:b-a+2<k) (hb:b≤v.length) (hv:v.length≤1073741824) :
    ∃v',F150 k v (a:Int) (b:Int)=some v'∧Kept v v' a b∧(Small v→ZL v' a b):=by
  unfold F150
  rw [if_pos (by decide)]
  have e0:w64 ((b:Int)-(a:Int))=((b-a:Nat):Int):=by rw [Zu (by omega) (by omega)];omega
  have e1:w64 (Int.tdiv (w64 (((b-a:Nat):Int)-1)) 2)=(((b-a-1) / 2+1:Nat):Int)-1:=by
    rw [Zu (x:=_-1) (by omega) (by omega),show ((b-a:Nat):Int)-1=((b-a-1:Nat):Int) by omega,Int.tdiv_eq_ediv_of_nonneg (by omega),Zu (by omega) (by omega)]
    omega
  rw [e0,e1]
  obtain ⟨w,e2,k2,c2⟩:=Zj2 hab hk (R:=fun _=>True) (F:=fun l=>ZaJ k (a:Int) k l (((b-a:Nat):Int)-1)) ((b-a-1) / 2+1) k v (by omega) (by omega) hb hv (fun _=>rfl)
  rw [e2]
  have hwl:=k2.len
  obtain ⟨v',e3,k3,c3⟩:=ZmJ hab hk (b-a) k w (Nat.le_refl _) (by omega) (by omega) (by omega)
  refine ⟨v',e3,k2.trans k3,fun hs=>c3 (hs.perm k2.perm) (c2 hs fun i c x y h1 h2 h3 h4 hx hy=>by omega) (fun p q x y h1 h2 h3=>by omega) (fun p q x y h1 h2 h3=>by omega)⟩
end Go.Proofs.YthilboheomikjaaGreatDoor
end
