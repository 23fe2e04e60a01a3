/- G2, N3, N4, G4, P2, G7, G9, P5 -/
import Derived.Test.YthilboheomikjaaGreatDoorMRRexMatches4
import Derived.Shelf.Strings.Runes
import Derived.WalkKit
import Derived.Defers
import Derived.Recover
set_option linter.unusedVariables false
set_option linter.unusedSimpArgs false
section
namespace Go.Proofs.YthilboheomikjaaGreatDoor
open Go.AL
set_option maxRecDepth 100000
def F21 (k:Nat) (v0:Ze):Option Bool:=
  (F41 k v0 30).bind fun y101=>(some (decide (y101≤300)))
theorem Zl5 (k:Nat) (v0:Ze) (r:Bool) (hF:F21 k v0=some r):Sim Tryz.prog GL0 21 [.val true (pvL (Zc v0))] [] (one (.bool r)) []:=by
 refine ZB [] Tryz.func21 rfl kr kr ?_
 show WA _ _ 6 _ _ _
 refine WA.seq ?_
 refine WA.reg [1] [101] [(0,.obj 101)] (env':=[(1,.val false [.ptr 101 1 0 0])]) (os':=[(101,.box (pvL (Zc v0)))]) (O:=[]) kr (sound _ _) trivial ?_
 refine WA.seq ?_
 obtain ⟨y101,hy101,hF⟩:=bind_some hF
 refine WA.reg [2] [] [(1,.callR [] (one (.int .i64 y101)))] (env':=[(2,one (.bool (decide (y101≤300))))]) (os':=[]) (O:=[Sim Tryz.prog GL0 41 [.val true (pvL (Zc v0)),one (.int .i64 30)] [] (one (.int .i64 y101)) [],([]:List Nat).Nodup]) kr (sound _ _) ⟨(Zl9 k _ _ _ hy101),(by decide),trivial⟩ ?_
 refine WA.ret ?_
 obtain rfl:=Option.some.inj hF
 exact Zq (one (.bool (decide (y101≤300)))) [] kr kr kr kr (by decide) rfl rfl
def Zci (v124:Int):Option Int:=
  (some (mn (w64 (v124+1)) 1000))
def ZdG (R20:Ze→Option Int) (self1:Int→Int→Option Int) (v0:Ze) (v113:Int) (v114:Int):Option Int:=
  (cond (decide (v114<(v0.f_L.length:Int))) ((idxL v0.f_L v114).bind fun y116=>(R20 y116).bind fun y117=>(self1 (w64 (v113+y117)) (w64 (v114+1)))) ((Zci v113)))
def ZcR (R20:Ze→Option Int) (v0:Ze):Nat→Int→Int→Option Int
  | 0,_,_=>none
  | m_+1,v113,v114=>ZdG R20 (ZcR R20 v0 m_) v0 v113 v114
def Ze1 (R20:Ze→Option Int) (v0:Ze) (v121:Int):Option Int:=
  (idxL v0.f_L 0).bind fun y122=>(R20 y122).bind fun y123=>(Zci (w64 (y123*(mn (mx v121 1) 1000))))
def ZgV (R20:Ze→Option Int) (k:Nat) (v0:Ze) (v103:Bool):Option Int:=
  cond v103 ((ZcR R20 v0 k 0 0)) ((cond (v0.f_Kind == 4) ((cond (decide ((v0.f_L.length:Int) > 0)) (((cond (decide (v0.f_Max<0)) ((Ze1 R20 v0 (w64 (v0.f_Min+1)))) ((Ze1 R20 v0 v0.f_Max))))) ((Zci 0)))) ((Zci 0))))
def Zjh (R20:Ze→Option Int) (k:Nat) (v0:Ze):Option Int:=
  ((((cond (v0.f_Kind == 1) ((some 1)) ((cond (v0.f_Kind == 2) ((ZgV R20 k v0 (v0.f_Kind == 2))) ((ZgV R20 k v0 (v0.f_Kind == 3)))))))))
theorem Zm2 (R20:Ze→Option Int) (IH20:∀(v0:Ze) (r:Int),R20 v0=some r→Sim Tryz.prog GL0 20 [.val true (pvL (Zc v0))] [] (one (.int .i64 r)) []) (k:Nat) (v0:Ze) (r:Int) (hF:Zjh R20 k v0=some r):Sim Tryz.prog GL0 20 [.val true (pvL (Zc v0))] [] (one (.int .i64 r)) []:=by
 refine ZB [] Tryz.func20 rfl kr kr ?_
 show WA _ _ 53 _ _ _
 refine WA.seq ?_
 refine WA.reg [1] [101] [(0,.obj 101)] (env':=[(1,.val false [.ptr 101 1 0 0])]) (os':=[(101,.box (pvL (Zc v0)))]) (O:=[]) kr (sound _ _) trivial ?_
 refine WA.seq ?_
 refine WA.reg [1,3] [101] [] (env':=[(1,.val false [.ptr 101 1 0 0]),(3,one (.int .i64 0))]) (os':=[(101,.box (pvL (Zc v0)))]) (O:=[]) kr (sound _ _) trivial ?_
 refine WA.join (fun s_=>∃(v124:Int),Zj s_.env [3]=[(3,one (.int .i64 v124))]∧Zj s_.os []=[]∧Zci v124=some r) ?_ ?_
 {
 rintro s_ ⟨v124,he,ho,hF⟩
 refine WA.keep _ _ he ho ?_
 clear he ho
 refine WA.seq ?_
 refine WA.reg [2] [] [] (env':=[(2,one (.int .i64 (mn (w64 (v124+1)) 1000)))]) (os':=[]) (O:=[]) kr (sound _ _) trivial ?_
 refine WA.ret ?_
 obtain rfl:=Option.some.inj hF
 exact Zq (one (.int .i64 (mn (w64 (v124+1)) 1000))) [] kr kr kr kr (by decide) rfl rfl }
 {
 refine WA.seq ?_
 refine WA.reg [1,3,7] [101] [] (env':=[(1,.val false [.ptr 101 1 0 0]),(3,one (.int .i64 0)),(7,one (.int .i64 v0.f_Kind))]) (os':=[(101,.box (pvL (Zc v0)))]) (O:=[]) kr (sound _ _) trivial ?_
 refine WA.block ?_
 refine WA.seq ?_
 refine WA.reg [1,3,7,8] [101] [] (env':=[(1,.val false [.ptr 101 1 0 0]),(3,one (.int .i64 0)),(7,one (.int .i64 v0.f_Kind)),(8,one (.bool (v0.f_Kind == 1)))]) (os':=[(101,.box (pvL (Zc v0)))]) (O:=[]) kr (sound _ _) trivial ?_
 refine WA.cond (b:=(v0.f_Kind == 1)) rfl (fun hb101=>?_) (fun hb101=>?_)
 {
 have hF:=Zi hF hb101
 refine WA.seq ?_
 refine WA.reg [2] [] [] (env':=[(2,one (.int .i64 1))]) (os':=[]) (O:=[]) kr (sound _ _) trivial ?_
 refine WA.ret ?_
 obtain rfl:=Option.some.inj hF
 exact Zq (one (.int .i64 1)) [] kr kr kr kr (by decide) rfl rfl }
 {
 have hF:=Zh hF hb101
 refine WA.join (fun s_=>∃(v103:Bool),Zj s_.env [1,3,7,10]=[(1,.val false [.ptr 101 1 0 0]),(3,one (.int .i64 0)),(7,one (.int .i64 v0.f_Kind)),(10,one (.bool v103))]∧Zj s_.os [101]=[(101,.box (pvL (Zc v0)))]∧ZgV R20 k v0 v103=some r) ?_ ?_
 {
 rintro s_ ⟨v103,he,ho,hF⟩
 refine WA.keep _ _ he ho ?_
 clear he ho
 refine WA.cond (b:=v103) rfl (fun hb104=>?_) (fun hb104=>?_)
 {
 have hF:=Zi hF hb104
 refine WA.seq ?_
 refine WA.reg [1,3,4] [101] [] (env':=[(1,.val false [.ptr 101 1 0 0]),(3,one (.int .i64 0)),(4,one (.int .i64 0))]) (os':=[(101,.box (pvL (Zc v0)))]) (O:=[]) kr (sound _ _) trivial ?_
 refine WA.block ?_
 refine WA.loop (fun m s_=>∃(v113:Int) (v114:Int),Zj s_.env [1,3,4]=[(1,.val false [.ptr 101 1 0 0]),(3,one (.int .i64 v113)),(4,one (.int .i64 v114))]∧Zj s_.os [101]=[(101,.box (pvL (Zc v0)))]∧ZcR R20 v0 m v113 v114=some r) k ⟨0,0,kr,kr,hF⟩ ?_
 clear hF
 rintro m1 s_ ⟨v113,v114,he,ho,hF⟩
 refine WA.keep _ _ he ho ?_
 clear he ho
 cases m1 with
 | zero=>cases hF
 | succ m1=>
  obtain ⟨self1,hself1⟩:∃g,g=ZcR R20 v0 m1:=⟨_,rfl⟩
  have hF:ZdG R20 self1 v0 v113 v114=some r:=by first | (rw [hself1];exact hF) | exact hF
  refine WA.seq ?_
  refine WA.seq ?_
  refine WA.rm (α:=Int) (raw:=((Zk v0.f_L).length:Int)) (can:=(v0.f_L.length:Int)) (fun m_=>([(1,.val false [.ptr 101 1 0 0]),(3,one (.int .i64 v113)),(4,one (.int .i64 v114)),(17,one (.bool (decide (v114<m_))))],[(101,.box (pvL (Zc v0)))],[])) ((by first | (simp only [zl,Zf];done) | (simp only [zl,Zf];omega) | omega)) [1,3,4,17] [101] [] kr (sound _ _) trivial ?_
  refine WA.cond (b:=(decide (v114<(v0.f_L.length:Int)))) rfl (fun hb115=>?_) (fun hb115=>?_)
  {
 have hF:=Zi hF hb115
 refine WA.skip ?_
 refine WA.seq ?_
 refine WA.block ?_
 obtain ⟨y116,hy116,hF⟩:=bind_some hF
 obtain ⟨y117,hy117,hF⟩:=bind_some hF
 refine WA.reg [1,3,4] [101] [(4,.cells (Zc y116)),(6,.callR [] (one (.int .i64 y117)))] (env':=[(1,.val false [.ptr 101 1 0 0]),(3,one (.int .i64 (w64 (v113+y117)))),(4,one (.int .i64 v114))]) (os':=[(101,.box (pvL (Zc v0)))]) (O:=[idxL (Zk v0.f_L) v114=some (Zc y116),Sim Tryz.prog GL0 20 [.val true (pvL (Zc y116))] [] (one (.int .i64 y117)) [],([]:List Nat).Nodup]) kr (sound _ _) ⟨(ZK hy116),(IH20 _ _ hy117),(by decide),trivial⟩ ?_
 refine WA.reg [1,3,4] [101] [] (env':=[(1,.val false [.ptr 101 1 0 0]),(3,one (.int .i64 (w64 (v113+y117)))),(4,one (.int .i64 (w64 (v114+1))))]) (os':=[(101,.box (pvL (Zc v0)))]) (O:=[]) kr (sound _ _) trivial ?_
 exact ⟨m1,Nat.lt_succ_self _,(w64 (v113+y117)),(w64 (v114+1)),kr,kr,by rw [hself1] at hF;exact hF⟩ }
  {
 have hF:=Zh hF hb115
 refine WA.exit ?_
 exact ⟨v113,kr,kr,hF⟩ } }
 {
 have hF:=Zh hF hb104
 refine WA.seq ?_
 refine WA.reg [1,3,28] [101] [] (env':=[(1,.val false [.ptr 101 1 0 0]),(3,one (.int .i64 0)),(28,one (.bool (v0.f_Kind == 4)))]) (os':=[(101,.box (pvL (Zc v0)))]) (O:=[]) kr (sound _ _) trivial ?_
 refine WA.cond (b:=(v0.f_Kind == 4)) rfl (fun hb118=>?_) (fun hb118=>?_)
 {
 have hF:=Zi hF hb118
 refine WA.seq ?_
 refine WA.rm (α:=Int) (raw:=((Zk v0.f_L).length:Int)) (can:=(v0.f_L.length:Int)) (fun m_=>([(1,.val false [.ptr 101 1 0 0]),(3,one (.int .i64 0)),(33,one (.bool (decide (m_ > 0))))],[(101,.box (pvL (Zc v0)))],[])) ((by first | (simp only [zl,Zf];done) | (simp only [zl,Zf];omega) | omega)) [1,3,33] [101] [] kr (sound _ _) trivial ?_
 refine WA.cond (b:=(decide ((v0.f_L.length:Int) > 0))) rfl (fun hb119=>?_) (fun hb119=>?_)
 {
 have hF:=Zi hF hb119
 refine WA.seq ?_
 refine WA.reg [1,5] [101] [] (env':=[(1,.val false [.ptr 101 1 0 0]),(5,one (.int .i64 v0.f_Max))]) (os':=[(101,.box (pvL (Zc v0)))]) (O:=[]) kr (sound _ _) trivial ?_
 refine WA.join (fun s_=>∃(v121:Int),Zj s_.env [1,5]=[(1,.val false [.ptr 101 1 0 0]),(5,one (.int .i64 v121))]∧Zj s_.os [101]=[(101,.box (pvL (Zc v0)))]∧Ze1 R20 v0 v121=some r) ?_ ?_
 {
 rintro s_ ⟨v121,he,ho,hF⟩
 refine WA.keep _ _ he ho ?_
 clear he ho
 obtain ⟨y122,hy122,hF⟩:=bind_some hF
 obtain ⟨y123,hy123,hF⟩:=bind_some hF
 refine WA.reg [3] [] [(2,.cells (Zc y122)),(4,.callR [] (one (.int .i64 y123)))] (env':=[(3,one (.int .i64 (w64 (y123*(mn (mx v121 1) 1000)))))]) (os':=[]) (O:=[idxL (Zk v0.f_L) 0=some (Zc y122),Sim Tryz.prog GL0 20 [.val true (pvL (Zc y122))] [] (one (.int .i64 y123)) [],([]:List Nat).Nodup]) kr (sound _ _) ⟨(ZK hy122),(IH20 _ _ hy123),(by decide),trivial⟩ ?_
 exact ⟨(w64 (y123*(mn (mx v121 1) 1000))),kr,kr,hF⟩ }
 {
 refine WA.seq ?_
 refine WA.reg [1,5,37] [101] [] (env':=[(1,.val false [.ptr 101 1 0 0]),(5,one (.int .i64 v0.f_Max)),(37,one (.bool (decide (v0.f_Max<0))))]) (os':=[(101,.box (pvL (Zc v0)))]) (O:=[]) kr (sound _ _) trivial ?_
 refine WA.cond (b:=(decide (v0.f_Max<0))) rfl (fun hb120=>?_) (fun hb120=>?_)
 {
 have hF:=Zi hF hb120
 refine WA.reg [1,5] [101] [] (env':=[(1,.val false [.ptr 101 1 0 0]),(5,one (.int .i64 (w64 (v0.f_Min+1))))]) (os':=[(101,.box (pvL (Zc v0)))]) (O:=[]) kr (sound _ _) trivial ?_
 exact ⟨(w64 (v0.f_Min+1)),kr,kr,hF⟩ }
 {
 have hF:=Zh hF hb120
 refine WA.skip ?_
 exact ⟨v0.f_Max,kr,kr,hF⟩ } } }
 {
 have hF:=Zh hF hb119
 refine WA.skip ?_
 exact ⟨0,kr,kr,hF⟩ } }
 {
 have hF:=Zh hF hb118
 refine WA.skip ?_
 exact ⟨0,kr,kr,hF⟩ } } }
 {
 refine WA.seq ?_
 refine WA.reg [1,3,7,10] [101] [] (env':=[(1,.val false [.ptr 101 1 0 0]),(3,one (.int .i64 0)),(7,one (.int .i64 v0.f_Kind)),(10,one (.bool (v0.f_Kind == 2)))]) (os':=[(101,.box (pvL (Zc v0)))]) (O:=[]) kr (sound _ _) trivial ?_
 refine WA.cond (b:=(v0.f_Kind == 2)) rfl (fun hb102=>?_) (fun hb102=>?_)
 {
 have hF:=Zi hF hb102
 refine WA.skip ?_
 exact ⟨(v0.f_Kind == 2),kr,kr,hF⟩ }
 {
 have hF:=Zh hF hb102
 refine WA.reg [1,3,7,10] [101] [] (env':=[(1,.val false [.ptr 101 1 0 0]),(3,one (.int .i64 0)),(7,one (.int .i64 v0.f_Kind)),(10,one (.bool (v0.f_Kind == 3)))]) (os':=[(101,.box (pvL (Zc v0)))]) (O:=[]) kr (sound _ _) trivial ?_
 exact ⟨(v0.f_Kind == 3),kr,kr,hF⟩ } } } }
def F20:Nat→Ze→Option Int
  | 0,_=>none
  | k+1,v0=>Zjh (F20 k) k v0
theorem ZgW:∀(k:Nat),∀(v0:Ze) (r:Int),F20 k v0=some r→Sim Tryz.prog GL0 20 [.val true (pvL (Zc v0))] [] (one (.int .i64 r)) []
  | 0=>fun _ _ hF=>by cases hF
  | k+1=>fun v0 r hF=>Zm2 (F20 k) (ZgW k) k v0 r hF
def ZdR (R43:Ze→Option Bool) (self7:Int→Option Bool) (v0:Ze) (v178:Int):Option Bool:=
  (cond (decide (v178<(v0.f_L.length:Int))) ((idxL v0.f_L v178).bind fun y180=>(R43 y180).bind fun y181=>(cond (!y181) ((some false)) ((self7 (w64 (v178+1)))))) (((some true))))
def ZdS (R43:Ze→Option Bool) (v0:Ze):Nat→Int→Option Bool
  | 0,_=>none
  | m_+1,v178=>ZdR R43 (ZdS R43 v0 m_) v0 v178
def Zfa (R43:Ze→Option Bool) (k:Nat) (v0:Ze):Option Bool:=
  (ZdS R43 v0 k 0)
def Zcj (R43:Ze→Option Bool) (k:Nat) (v0:Ze) (v167:Bool):Option Bool:=
  cond v167 ((some false)) ((Zfa R43 k v0))
def Zbz (self3:Int→Option Bool) (v141:Int) (v155:Bool):Option Bool:=
  cond v155 ((some false)) ((self3 (w64 (v141+1))))
def ZdQ (k:Nat) (self3:Int→Option Bool) (v0:Ze) (v141:Int):Option Bool:=
  (cond (decide (v141<(v0.f_Set.length:Int))) ((idxL v0.f_Set v141).bind fun y143=>(F67 k y143.f_Lo).bind fun y144=>cond (!y144) ((Zbz self3 v141 true)) ((F67 k y143.f_Hi).bind fun y146=>cond (!y146) ((Zbz self3 v141 true)) (cond (decide (y143.f_Lo > y143.f_Hi)) ((Zbz self3 v141 true)) (cond (decide (y143.f_Lo<55296)) (cond (decide (y143.f_Hi > 57343)) ((Zbz self3 v141 true)) (cond (decide (v141 > 0)) ((idxL v0.f_Set (w64 (v141-1))).bind fun y152=>(Zbz self3 v141 (decide (y143.f_Lo≤(w64 (y152.f_Hi+1)))))) ((Zbz self3 v141 false)))) (cond (decide (v141 > 0)) ((idxL v0.f_Set (w64 (v141-1))).bind fun y154=>(Zbz self3 v141 (decide (y143.f_Lo≤(w64 (y154.f_Hi+1)))))) ((Zbz self3 v141 false))))))) (((some ((v0.f_L.length:Int) == 0)))))
def ZbW (k:Nat) (v0:Ze):Nat→Int→Option Bool
  | 0,_=>none
  | m_+1,v141=>ZdQ k (ZbW k v0 m_) v0 v141
def Za1 (R43:Ze→Option Bool) (k:Nat) (v0:Ze) (v107:Bool):Option Bool:=
  cond v107 ((some false)) (((((cond (v0.f_Kind == 1) ((ZbW k v0 k 0)) ((cond (v0.f_Kind == 2) ((cond ((v0.f_L.length:Int) == 1) ((some false)) ((Zfa R43 k v0)))) ((cond (v0.f_Kind == 3) ((cond (decide ((v0.f_L.length:Int)<2)) ((some false)) ((Zfa R43 k v0)))) ((cond (v0.f_Kind == 4) (cond ((v0.f_L.length:Int) != 1) ((Zcj R43 k v0 true)) (cond (decide (v0.f_Min<0)) ((Zcj R43 k v0 true)) (cond (decide (v0.f_Min > 20)) ((Zcj R43 k v0 true)) (cond (v0.f_Max != (-1)) (cond (decide (v0.f_Max<v0.f_Min)) ((Zcj R43 k v0 true)) ((Zcj R43 k v0 (decide (v0.f_Max > 20))))) ((Zcj R43 k v0 false)))))) ((some false)))))))))))))
def Zjk (R43:Ze→Option Bool) (k:Nat) (v0:Ze):Option Bool:=
  (cond (v0.f_Kind != 1) (cond (decide ((v0.f_Set.length:Int) > 0)) ((Za1 R43 k v0 true)) (cond (v0.f_Kind != 4) (cond (v0.f_Min != 0) ((Za1 R43 k v0 true)) ((Za1 R43 k v0 (v0.f_Max != 0)))) ((Za1 R43 k v0 false)))) (cond (v0.f_Kind != 4) (cond (v0.f_Min != 0) ((Za1 R43 k v0 true)) ((Za1 R43 k v0 (v0.f_Max != 0)))) ((Za1 R43 k v0 false))))
theorem Zm7 (R43:Ze→Option Bool) (IH43:∀(v0:Ze) (r:Bool),R43 v0=some r→Sim Tryz.prog GL0 43 [.val true (pvL (Zc v0))] [] (one (.bool r)) []) (k:Nat) (v0:Ze) (r:Bool) (hF:Zjk R43 k v0=some r):Sim Tryz.prog GL0 43 [.val true (pvL (Zc v0))] [] (one (.bool r)) []:=by
 refine ZB [] Tryz.func43 rfl kr kr ?_
 show WA _ _ 147 _ _ _
 refine WA.seq ?_
 refine WA.reg [1] [101] [(0,.obj 101)] (env':=[(1,.val false [.ptr 101 1 0 0])]) (os':=[(101,.box (pvL (Zc v0)))]) (O:=[]) kr (sound _ _) trivial ?_
 refine WA.seq ?_
 refine WA.join (fun s_=>∃(v107:Bool),Zj s_.env [1,30]=[(1,.val false [.ptr 101 1 0 0]),(30,one (.bool v107))]∧Zj s_.os [101]=[(101,.box (pvL (Zc v0)))]∧Za1 R43 k v0 v107=some r) ?_ ?_
 {
 rintro s_ ⟨v107,he,ho,hF⟩
 refine WA.keep _ _ he ho ?_
 clear he ho
 refine WA.cond (b:=v107) rfl (fun hb108=>?_) (fun hb108=>?_)
 {
 have hF:=Zi hF hb108
 refine WA.seq ?_
 refine WA.reg [2] [] [] (env':=[(2,one (.bool false))]) (os':=[]) (O:=[]) kr (sound _ _) trivial ?_
 refine WA.ret ?_
 obtain rfl:=Option.some.inj hF
 exact Zq (one (.bool false)) [] kr kr kr kr (by decide) rfl rfl }
 {
 have hF:=Zh hF hb108
 refine WA.skip ?_
 refine WA.seq ?_
 refine WA.rm (α:=Int) (raw:=((Zk v0.f_L).length:Int)) (can:=(v0.f_L.length:Int)) (fun m_=>([(1,.val false [.ptr 101 1 0 0]),(3,one (.int .i64 m_))],[(101,.box (pvL (Zc v0)))],[])) ((by first | (simp only [zl,Zf];done) | (simp only [zl,Zf];omega) | omega)) [1,3] [101] [] kr (sound _ _) trivial ?_
 refine WA.join (fun s_=>Zj s_.env [1,3]=[(1,.val false [.ptr 101 1 0 0]),(3,one (.int .i64 (v0.f_L.length:Int)))]∧Zj s_.os [101]=[(101,.box (pvL (Zc v0)))]∧Zfa R43 k v0=some r) ?_ ?_
 {
 rintro s_ ⟨he,ho,hF⟩
 refine WA.keep _ _ he ho ?_
 clear he ho
 refine WA.seq ?_
 refine WA.seq ?_
 refine WA.reg [1,3,6] [101] [] (env':=[(1,.val false [.ptr 101 1 0 0]),(3,one (.int .i64 (v0.f_L.length:Int))),(6,one (.int .i64 0))]) (os':=[(101,.box (pvL (Zc v0)))]) (O:=[]) kr (sound _ _) trivial ?_
 refine WA.block ?_
 refine WA.loop (fun m s_=>∃(v178:Int),Zj s_.env [1,3,6]=[(1,.val false [.ptr 101 1 0 0]),(3,one (.int .i64 (v0.f_L.length:Int))),(6,one (.int .i64 v178))]∧Zj s_.os [101]=[(101,.box (pvL (Zc v0)))]∧ZdS R43 v0 m v178=some r) k ⟨0,kr,kr,hF⟩ ?_
 clear hF
 rintro m7 s_ ⟨v178,he,ho,hF⟩
 refine WA.keep _ _ he ho ?_
 clear he ho
 cases m7 with
 | zero=>cases hF
 | succ m7=>
  obtain ⟨self7,hself7⟩:∃g,g=ZdS R43 v0 m7:=⟨_,rfl⟩
  have hF:ZdR R43 self7 v0 v178=some r:=by first | (rw [hself7];exact hF) | exact hF
  refine WA.seq ?_
  refine WA.seq ?_
  refine WA.reg [1,3,6,137] [101] [] (env':=[(1,.val false [.ptr 101 1 0 0]),(3,one (.int .i64 (v0.f_L.length:Int))),(6,one (.int .i64 v178)),(137,one (.bool (decide (v178<(v0.f_L.length:Int)))))]) (os':=[(101,.box (pvL (Zc v0)))]) (O:=[]) kr (sound _ _) trivial ?_
  refine WA.cond (b:=(decide (v178<(v0.f_L.length:Int)))) rfl (fun hb179=>?_) (fun hb179=>?_)
  {
 have hF:=Zi hF hb179
 refine WA.skip ?_
 refine WA.seq ?_
 refine WA.block ?_
 refine WA.seq ?_
 obtain ⟨y180,hy180,hF⟩:=bind_some hF
 obtain ⟨y181,hy181,hF⟩:=bind_some hF
 refine WA.reg [1,3,6,146] [101] [(3,.cells (Zc y180)),(5,.callR [] (one (.bool y181)))] (env':=[(1,.val false [.ptr 101 1 0 0]),(3,one (.int .i64 (v0.f_L.length:Int))),(6,one (.int .i64 v178)),(146,one (.bool (!y181)))]) (os':=[(101,.box (pvL (Zc v0)))]) (O:=[idxL (Zk v0.f_L) v178=some (Zc y180),Sim Tryz.prog GL0 43 [.val true (pvL (Zc y180))] [] (one (.bool y181)) [],([]:List Nat).Nodup]) kr (sound _ _) ⟨(ZK hy180),(IH43 _ _ hy181),(by decide),trivial⟩ ?_
 refine WA.cond (b:=(!y181)) rfl (fun hb182=>?_) (fun hb182=>?_)
 {
 have hF:=Zi hF hb182
 refine WA.seq ?_
 refine WA.reg [2] [] [] (env':=[(2,one (.bool false))]) (os':=[]) (O:=[]) kr (sound _ _) trivial ?_
 refine WA.ret ?_
 obtain rfl:=Option.some.inj hF
 exact Zq (one (.bool false)) [] kr kr kr kr (by decide) rfl rfl }
 {
 have hF:=Zh hF hb182
 refine WA.skip ?_
 refine WA.reg [1,3,6] [101] [] (env':=[(1,.val false [.ptr 101 1 0 0]),(3,one (.int .i64 (v0.f_L.length:Int))),(6,one (.int .i64 (w64 (v178+1))))]) (os':=[(101,.box (pvL (Zc v0)))]) (O:=[]) kr (sound _ _) trivial ?_
 exact ⟨m7,Nat.lt_succ_self _,(w64 (v178+1)),kr,kr,by rw [hself7] at hF;exact hF⟩ } }
  {
 have hF:=Zh hF hb179
 refine WA.exit ?_
 refine WA.seq ?_
 refine WA.reg [2] [] [] (env':=[(2,one (.bool true))]) (os':=[]) (O:=[]) kr (sound _ _) trivial ?_
 refine WA.ret ?_
 obtain rfl:=Option.some.inj hF
 exact Zq (one (.bool true)) [] kr kr kr kr (by decide) rfl rfl } }
 {
 refine WA.seq ?_
 refine WA.reg [1,3,35] [101] [] (env':=[(1,.val false [.ptr 101 1 0 0]),(3,one (.int .i64 (v0.f_L.length:Int))),(35,one (.int .i64 v0.f_Kind))]) (os':=[(101,.box (pvL (Zc v0)))]) (O:=[]) kr (sound _ _) trivial ?_
 refine WA.block ?_
 refine WA.seq ?_
 refine WA.reg [1,3,35,36] [101] [] (env':=[(1,.val false [.ptr 101 1 0 0]),(3,one (.int .i64 (v0.f_L.length:Int))),(35,one (.int .i64 v0.f_Kind)),(36,one (.bool (v0.f_Kind == 1)))]) (os':=[(101,.box (pvL (Zc v0)))]) (O:=[]) kr (sound _ _) trivial ?_
 refine WA.cond (b:=(v0.f_Kind == 1)) rfl (fun hb109=>?_) (fun hb109=>?_)
 {
 have hF:=Zi hF hb109
 refine WA.seq ?_
 refine WA.seq ?_
 refine WA.reg [1,3,4] [101] [] (env':=[(1,.val false [.ptr 101 1 0 0]),(3,one (.int .i64 (v0.f_L.length:Int))),(4,one (.int .i64 0))]) (os':=[(101,.box (pvL (Zc v0)))]) (O:=[]) kr (sound _ _) trivial ?_
 refine WA.block ?_
 refine WA.loop (fun m s_=>∃(v141:Int),Zj s_.env [1,3,4]=[(1,.val false [.ptr 101 1 0 0]),(3,one (.int .i64 (v0.f_L.length:Int))),(4,one (.int .i64 v141))]∧Zj s_.os [101]=[(101,.box (pvL (Zc v0)))]∧ZbW k v0 m v141=some r) k ⟨0,kr,kr,hF⟩ ?_
 clear hF
 rintro m3 s_ ⟨v141,he,ho,hF⟩
 refine WA.keep _ _ he ho ?_
 clear he ho
 cases m3 with
 | zero=>cases hF
 | succ m3=>
  obtain ⟨self3,hself3⟩:∃g,g=ZbW k v0 m3:=⟨_,rfl⟩
  have hF:ZdQ k self3 v0 v141=some r:=by first | (rw [hself3];exact hF) | exact hF
  refine WA.seq ?_
  refine WA.seq ?_
  refine WA.rm (α:=Int) (raw:=((v0.f_Set.map Za).length:Int)) (can:=(v0.f_Set.length:Int)) (fun m_=>([(1,.val false [.ptr 101 1 0 0]),(3,one (.int .i64 (v0.f_L.length:Int))),(4,one (.int .i64 v141)),(42,one (.bool (decide (v141<m_))))],[(101,.box (pvL (Zc v0)))],[])) ((by first | (simp only [zl,Zf];done) | (simp only [zl,Zf];omega) | omega)) [1,3,4,42] [101] [] kr (sound _ _) trivial ?_
  refine WA.cond (b:=(decide (v141<(v0.f_Set.length:Int)))) rfl (fun hb142=>?_) (fun hb142=>?_)
  {
 have hF:=Zi hF hb142
 refine WA.skip ?_
 refine WA.seq ?_
 refine WA.block ?_
 refine WA.seq ?_
 obtain ⟨y143,hy143,hF⟩:=bind_some hF
 refine WA.reg [1,3,4,5] [101,105] [(3,.cells (Za y143)),(5,.obj 105)] (env':=[(1,.val false [.ptr 101 1 0 0]),(3,one (.int .i64 (v0.f_L.length:Int))),(4,one (.int .i64 v141)),(5,.val false [.ptr 105 1 0 0])]) (os':=[(101,.box (pvL (Zc v0))),(105,.box (pvL (Za y143)))]) (O:=[idxL (v0.f_Set.map Za) v141=some (Za y143)]) kr (sound _ _) ⟨(Zr _ hy143),trivial⟩ ?_
 refine WA.join (fun s_=>∃(v155:Bool),Zj s_.env [1,3,4,93]=[(1,.val false [.ptr 101 1 0 0]),(3,one (.int .i64 (v0.f_L.length:Int))),(4,one (.int .i64 v141)),(93,one (.bool v155))]∧Zj s_.os [101]=[(101,.box (pvL (Zc v0)))]∧Zbz self3 v141 v155=some r) ?_ ?_
 {
 rintro s_ ⟨v155,he,ho,hF⟩
 refine WA.keep _ _ he ho ?_
 clear he ho
 refine WA.cond (b:=v155) rfl (fun hb156=>?_) (fun hb156=>?_)
 {
 have hF:=Zi hF hb156
 refine WA.seq ?_
 refine WA.reg [2] [] [] (env':=[(2,one (.bool false))]) (os':=[]) (O:=[]) kr (sound _ _) trivial ?_
 refine WA.ret ?_
 obtain rfl:=Option.some.inj hF
 exact Zq (one (.bool false)) [] kr kr kr kr (by decide) rfl rfl }
 {
 have hF:=Zh hF hb156
 refine WA.skip ?_
 refine WA.reg [1,3,4] [101] [] (env':=[(1,.val false [.ptr 101 1 0 0]),(3,one (.int .i64 (v0.f_L.length:Int))),(4,one (.int .i64 (w64 (v141+1))))]) (os':=[(101,.box (pvL (Zc v0)))]) (O:=[]) kr (sound _ _) trivial ?_
 exact ⟨m3,Nat.lt_succ_self _,(w64 (v141+1)),kr,kr,by rw [hself3] at hF;exact hF⟩ } }
 {
 obtain ⟨y144,hy144,hF⟩:=bind_some hF
 rcases Bool.eq_false_or_eq_true (!y144) with hb145 | hb145
 {
 have hF:=Zi hF hb145
 refine WA.regD kr [1,3,4,93] [101] [(2,.callR [] (one (.bool y144))),(4,.bool true),(7,.callR [] (.tup []))] (env':=[(1,.val false [.ptr 101 1 0 0]),(3,one (.int .i64 (v0.f_L.length:Int))),(4,one (.int .i64 v141)),(93,one (.bool true))]) (os':=[(101,.box (pvL (Zc v0)))]) (O:=[Sim Tryz.prog GL0 67 [one (.int .i64 y143.f_Lo)] [] (one (.bool y144)) [],([]:List Nat).Nodup,(!y144)=true]) kr kr (sound _ _) ⟨(Zaq k _ _ hy144),(by decide),hb145,trivial⟩ ?_
 exact ⟨true,kr,kr,hF⟩ }
 {
 have hF:=Zh hF hb145
 obtain ⟨y146,hy146,hF⟩:=bind_some hF
 rcases Bool.eq_false_or_eq_true (!y146) with hb147 | hb147
 {
 have hF:=Zi hF hb147
 refine WA.regD kr [1,3,4,93] [101] [(2,.callR [] (one (.bool y144))),(4,.bool false),(7,.callR [] (one (.bool y146))),(10,.bool true)] (env':=[(1,.val false [.ptr 101 1 0 0]),(3,one (.int .i64 (v0.f_L.length:Int))),(4,one (.int .i64 v141)),(93,one (.bool true))]) (os':=[(101,.box (pvL (Zc v0)))]) (O:=[Sim Tryz.prog GL0 67 [one (.int .i64 y143.f_Lo)] [] (one (.bool y144)) [],([]:List Nat).Nodup,(!y144)=false,Sim Tryz.prog GL0 67 [one (.int .i64 y143.f_Hi)] [] (one (.bool y146)) [],([]:List Nat).Nodup,(!y146)=true]) kr kr (sound _ _) ⟨(Zaq k _ _ hy144),(by decide),hb145,(Zaq k _ _ hy146),(by decide),hb147,trivial⟩ ?_
 exact ⟨true,kr,kr,hF⟩ }
 {
 have hF:=Zh hF hb147
 rcases Bool.eq_false_or_eq_true (decide (y143.f_Lo > y143.f_Hi)) with hb148 | hb148
 {
 have hF:=Zi hF hb148
 refine WA.regD kr [1,3,4,93] [101] [(2,.callR [] (one (.bool y144))),(4,.bool false),(7,.callR [] (one (.bool y146))),(10,.bool false),(17,.bool true)] (env':=[(1,.val false [.ptr 101 1 0 0]),(3,one (.int .i64 (v0.f_L.length:Int))),(4,one (.int .i64 v141)),(93,one (.bool true))]) (os':=[(101,.box (pvL (Zc v0)))]) (O:=[Sim Tryz.prog GL0 67 [one (.int .i64 y143.f_Lo)] [] (one (.bool y144)) [],([]:List Nat).Nodup,(!y144)=false,Sim Tryz.prog GL0 67 [one (.int .i64 y143.f_Hi)] [] (one (.bool y146)) [],([]:List Nat).Nodup,(!y146)=false,(decide (y143.f_Lo > y143.f_Hi))=true]) kr kr (sound _ _) ⟨(Zaq k _ _ hy144),(by decide),hb145,(Zaq k _ _ hy146),(by decide),hb147,hb148,trivial⟩ ?_
 exact ⟨true,kr,kr,hF⟩ }
 {
 have hF:=Zh hF hb148
 rcases Bool.eq_false_or_eq_true (decide (y143.f_Lo<55296)) with hb149 | hb149
 {
 have hF:=Zi hF hb149
 rcases Bool.eq_false_or_eq_true (decide (y143.f_Hi > 57343)) with hb150 | hb150
 {
 have hF:=Zi hF hb150
 refine WA.regD kr [1,3,4,93] [101] [(2,.callR [] (one (.bool y144))),(4,.bool false),(7,.callR [] (one (.bool y146))),(10,.bool false),(17,.bool false),(21,.bool true),(27,.bool true)] (env':=[(1,.val false [.ptr 101 1 0 0]),(3,one (.int .i64 (v0.f_L.length:Int))),(4,one (.int .i64 v141)),(93,one (.bool true))]) (os':=[(101,.box (pvL (Zc v0)))]) (O:=[Sim Tryz.prog GL0 67 [one (.int .i64 y143.f_Lo)] [] (one (.bool y144)) [],([]:List Nat).Nodup,(!y144)=false,Sim Tryz.prog GL0 67 [one (.int .i64 y143.f_Hi)] [] (one (.bool y146)) [],([]:List Nat).Nodup,(!y146)=false,(decide (y143.f_Lo > y143.f_Hi))=false,(decide (y143.f_Lo<55296))=true,(decide (y143.f_Hi > 57343))=true]) kr kr (sound _ _) ⟨(Zaq k _ _ hy144),(by decide),hb145,(Zaq k _ _ hy146),(by decide),hb147,hb148,hb149,hb150,trivial⟩ ?_
 exact ⟨true,kr,kr,hF⟩ }
 {
 have hF:=Zh hF hb150
 rcases Bool.eq_false_or_eq_true (decide (v141 > 0)) with hb151 | hb151
 {
 have hF:=Zi hF hb151
 obtain ⟨y152,hy152,hF⟩:=bind_some hF
 refine WA.regD kr [1,3,4,93] [101] [(2,.callR [] (one (.bool y144))),(4,.bool false),(7,.callR [] (one (.bool y146))),(10,.bool false),(17,.bool false),(21,.bool true),(27,.bool false),(30,.bool true),(37,.cells (Za y152))] (env':=[(1,.val false [.ptr 101 1 0 0]),(3,one (.int .i64 (v0.f_L.length:Int))),(4,one (.int .i64 v141)),(93,one (.bool (decide (y143.f_Lo≤(w64 (y152.f_Hi+1))))))]) (os':=[(101,.box (pvL (Zc v0)))]) (O:=[Sim Tryz.prog GL0 67 [one (.int .i64 y143.f_Lo)] [] (one (.bool y144)) [],([]:List Nat).Nodup,(!y144)=false,Sim Tryz.prog GL0 67 [one (.int .i64 y143.f_Hi)] [] (one (.bool y146)) [],([]:List Nat).Nodup,(!y146)=false,(decide (y143.f_Lo > y143.f_Hi))=false,(decide (y143.f_Lo<55296))=true,(decide (y143.f_Hi > 57343))=false,(decide (v141 > 0))=true,idxL (v0.f_Set.map Za) (w64 (v141-1))=some (Za y152)]) kr kr (sound _ _) ⟨(Zaq k _ _ hy144),(by decide),hb145,(Zaq k _ _ hy146),(by decide),hb147,hb148,hb149,hb150,hb151,(Zr _ hy152),trivial⟩ ?_
 exact ⟨(decide (y143.f_Lo≤(w64 (y152.f_Hi+1)))),kr,kr,hF⟩ }
 {
 have hF:=Zh hF hb151
 refine WA.regD kr [1,3,4,93] [101] [(2,.callR [] (one (.bool y144))),(4,.bool false),(7,.callR [] (one (.bool y146))),(10,.bool false),(17,.bool false),(21,.bool true),(27,.bool false),(30,.bool false)] (env':=[(1,.val false [.ptr 101 1 0 0]),(3,one (.int .i64 (v0.f_L.length:Int))),(4,one (.int .i64 v141)),(93,one (.bool false))]) (os':=[(101,.box (pvL (Zc v0)))]) (O:=[Sim Tryz.prog GL0 67 [one (.int .i64 y143.f_Lo)] [] (one (.bool y144)) [],([]:List Nat).Nodup,(!y144)=false,Sim Tryz.prog GL0 67 [one (.int .i64 y143.f_Hi)] [] (one (.bool y146)) [],([]:List Nat).Nodup,(!y146)=false,(decide (y143.f_Lo > y143.f_Hi))=false,(decide (y143.f_Lo<55296))=true,(decide (y143.f_Hi > 57343))=false,(decide (v141 > 0))=false]) kr kr (sound _ _) ⟨(Zaq k _ _ hy144),(by decide),hb145,(Zaq k _ _ hy146),(by decide),hb147,hb148,hb149,hb150,hb151,trivial⟩ ?_
 exact ⟨false,kr,kr,hF⟩ } } }
 {
 have hF:=Zh hF hb149
 rcases Bool.eq_false_or_eq_true (decide (v141 > 0)) with hb153 | hb153
 {
 have hF:=Zi hF hb153
 obtain ⟨y154,hy154,hF⟩:=bind_some hF
 refine WA.regD kr [1,3,4,93] [101] [(2,.callR [] (one (.bool y144))),(4,.bool false),(7,.callR [] (one (.bool y146))),(10,.bool false),(17,.bool false),(21,.bool false),(30,.bool true),(37,.cells (Za y154))] (env':=[(1,.val false [.ptr 101 1 0 0]),(3,one (.int .i64 (v0.f_L.length:Int))),(4,one (.int .i64 v141)),(93,one (.bool (decide (y143.f_Lo≤(w64 (y154.f_Hi+1))))))]) (os':=[(101,.box (pvL (Zc v0)))]) (O:=[Sim Tryz.prog GL0 67 [one (.int .i64 y143.f_Lo)] [] (one (.bool y144)) [],([]:List Nat).Nodup,(!y144)=false,Sim Tryz.prog GL0 67 [one (.int .i64 y143.f_Hi)] [] (one (.bool y146)) [],([]:List Nat).Nodup,(!y146)=false,(decide (y143.f_Lo > y143.f_Hi))=false,(decide (y143.f_Lo<55296))=false,(decide (v141 > 0))=true,idxL (v0.f_Set.map Za) (w64 (v141-1))=some (Za y154)]) kr kr (sound _ _) ⟨(Zaq k _ _ hy144),(by decide),hb145,(Zaq k _ _ hy146),(by decide),hb147,hb148,hb149,hb153,(Zr _ hy154),trivial⟩ ?_
 exact ⟨(decide (y143.f_Lo≤(w64 (y154.f_Hi+1)))),kr,kr,hF⟩ }
 {
 have hF:=Zh hF hb153
 refine WA.regD kr [1,3,4,93] [101] [(2,.callR [] (one (.bool y144))),(4,.bool false),(7,.callR [] (one (.bool y146))),(10,.bool false),(17,.bool false),(21,.bool false),(30,.bool false)] (env':=[(1,.val false [.ptr 101 1 0 0]),(3,one (.int .i64 (v0.f_L.length:Int))),(4,one (.int .i64 v141)),(93,one (.bool false))]) (os':=[(101,.box (pvL (Zc v0)))]) (O:=[Sim Tryz.prog GL0 67 [one (.int .i64 y143.f_Lo)] [] (one (.bool y144)) [],([]:List Nat).Nodup,(!y144)=false,Sim Tryz.prog GL0 67 [one (.int .i64 y143.f_Hi)] [] (one (.bool y146)) [],([]:List Nat).Nodup,(!y146)=false,(decide (y143.f_Lo > y143.f_Hi))=false,(decide (y143.f_Lo<55296))=false,(decide (v141 > 0))=false]) kr kr (sound _ _) ⟨(Zaq k _ _ hy144),(by decide),hb145,(Zaq k _ _ hy146),(by decide),hb147,hb148,hb149,hb153,trivial⟩ ?_
 exact ⟨false,kr,kr,hF⟩ } } } } } } }
  {
 have hF:=Zh hF hb142
 refine WA.exit ?_
 refine WA.seq ?_
 refine WA.reg [2] [] [] (env':=[(2,one (.bool ((v0.f_L.length:Int) == 0)))]) (os':=[]) (O:=[]) kr (sound _ _) trivial ?_
 refine WA.ret ?_
 obtain rfl:=Option.some.inj hF
 exact Zq (one (.bool ((v0.f_L.length:Int) == 0))) [] kr kr kr kr (by decide) rfl rfl } }
 {
 have hF:=Zh hF hb109
 refine WA.seq ?_
 refine WA.reg [1,3,35,96] [101] [] (env':=[(1,.val false [.ptr 101 1 0 0]),(3,one (.int .i64 (v0.f_L.length:Int))),(35,one (.int .i64 v0.f_Kind)),(96,one (.bool (v0.f_Kind == 2)))]) (os':=[(101,.box (pvL (Zc v0)))]) (O:=[]) kr (sound _ _) trivial ?_
 refine WA.cond (b:=(v0.f_Kind == 2)) rfl (fun hb157=>?_) (fun hb157=>?_)
 {
 have hF:=Zi hF hb157
 refine WA.seq ?_
 refine WA.reg [1,3,99] [101] [] (env':=[(1,.val false [.ptr 101 1 0 0]),(3,one (.int .i64 (v0.f_L.length:Int))),(99,one (.bool ((v0.f_L.length:Int) == 1)))]) (os':=[(101,.box (pvL (Zc v0)))]) (O:=[]) kr (sound _ _) trivial ?_
 refine WA.cond (b:=((v0.f_L.length:Int) == 1)) rfl (fun hb158=>?_) (fun hb158=>?_)
 {
 have hF:=Zi hF hb158
 refine WA.seq ?_
 refine WA.reg [2] [] [] (env':=[(2,one (.bool false))]) (os':=[]) (O:=[]) kr (sound _ _) trivial ?_
 refine WA.ret ?_
 obtain rfl:=Option.some.inj hF
 exact Zq (one (.bool false)) [] kr kr kr kr (by decide) rfl rfl }
 {
 have hF:=Zh hF hb158
 refine WA.skip ?_
 exact ⟨kr,kr,hF⟩ } }
 {
 have hF:=Zh hF hb157
 refine WA.seq ?_
 refine WA.reg [1,3,35,100] [101] [] (env':=[(1,.val false [.ptr 101 1 0 0]),(3,one (.int .i64 (v0.f_L.length:Int))),(35,one (.int .i64 v0.f_Kind)),(100,one (.bool (v0.f_Kind == 3)))]) (os':=[(101,.box (pvL (Zc v0)))]) (O:=[]) kr (sound _ _) trivial ?_
 refine WA.cond (b:=(v0.f_Kind == 3)) rfl (fun hb159=>?_) (fun hb159=>?_)
 {
 have hF:=Zi hF hb159
 refine WA.seq ?_
 refine WA.reg [1,3,103] [101] [] (env':=[(1,.val false [.ptr 101 1 0 0]),(3,one (.int .i64 (v0.f_L.length:Int))),(103,one (.bool (decide ((v0.f_L.length:Int)<2))))]) (os':=[(101,.box (pvL (Zc v0)))]) (O:=[]) kr (sound _ _) trivial ?_
 refine WA.cond (b:=(decide ((v0.f_L.length:Int)<2))) rfl (fun hb160=>?_) (fun hb160=>?_)
 {
 have hF:=Zi hF hb160
 refine WA.seq ?_
 refine WA.reg [2] [] [] (env':=[(2,one (.bool false))]) (os':=[]) (O:=[]) kr (sound _ _) trivial ?_
 refine WA.ret ?_
 obtain rfl:=Option.some.inj hF
 exact Zq (one (.bool false)) [] kr kr kr kr (by decide) rfl rfl }
 {
 have hF:=Zh hF hb160
 refine WA.skip ?_
 exact ⟨kr,kr,hF⟩ } }
 {
 have hF:=Zh hF hb159
 refine WA.seq ?_
 refine WA.reg [1,3,104] [101] [] (env':=[(1,.val false [.ptr 101 1 0 0]),(3,one (.int .i64 (v0.f_L.length:Int))),(104,one (.bool (v0.f_Kind == 4)))]) (os':=[(101,.box (pvL (Zc v0)))]) (O:=[]) kr (sound _ _) trivial ?_
 refine WA.cond (b:=(v0.f_Kind == 4)) rfl (fun hb161=>?_) (fun hb161=>?_)
 {
 have hF:=Zi hF hb161
 refine WA.join (fun s_=>∃(v167:Bool),Zj s_.env [1,3,134]=[(1,.val false [.ptr 101 1 0 0]),(3,one (.int .i64 (v0.f_L.length:Int))),(134,one (.bool v167))]∧Zj s_.os [101]=[(101,.box (pvL (Zc v0)))]∧Zcj R43 k v0 v167=some r) ?_ ?_
 {
 rintro s_ ⟨v167,he,ho,hF⟩
 refine WA.keep _ _ he ho ?_
 clear he ho
 refine WA.cond (b:=v167) rfl (fun hb168=>?_) (fun hb168=>?_)
 {
 have hF:=Zi hF hb168
 refine WA.seq ?_
 refine WA.reg [2] [] [] (env':=[(2,one (.bool false))]) (os':=[]) (O:=[]) kr (sound _ _) trivial ?_
 refine WA.ret ?_
 obtain rfl:=Option.some.inj hF
 exact Zq (one (.bool false)) [] kr kr kr kr (by decide) rfl rfl }
 {
 have hF:=Zh hF hb168
 refine WA.skip ?_
 exact ⟨kr,kr,hF⟩ } }
 {
 rcases Bool.eq_false_or_eq_true ((v0.f_L.length:Int) != 1) with hb162 | hb162
 {
 have hF:=Zi hF hb162
 refine WA.reg [1,3,134] [101] [(2,.bool true)] (env':=[(1,.val false [.ptr 101 1 0 0]),(3,one (.int .i64 (v0.f_L.length:Int))),(134,one (.bool true))]) (os':=[(101,.box (pvL (Zc v0)))]) (O:=[((v0.f_L.length:Int) != 1)=true]) kr (sound _ _) ⟨hb162,trivial⟩ ?_
 exact ⟨true,kr,kr,hF⟩ }
 {
 have hF:=Zh hF hb162
 rcases Bool.eq_false_or_eq_true (decide (v0.f_Min<0)) with hb163 | hb163
 {
 have hF:=Zi hF hb163
 refine WA.reg [1,3,134] [101] [(2,.bool false),(7,.bool true)] (env':=[(1,.val false [.ptr 101 1 0 0]),(3,one (.int .i64 (v0.f_L.length:Int))),(134,one (.bool true))]) (os':=[(101,.box (pvL (Zc v0)))]) (O:=[((v0.f_L.length:Int) != 1)=false,(decide (v0.f_Min<0))=true]) kr (sound _ _) ⟨hb162,hb163,trivial⟩ ?_
 exact ⟨true,kr,kr,hF⟩ }
 {
 have hF:=Zh hF hb163
 rcases Bool.eq_false_or_eq_true (decide (v0.f_Min > 20)) with hb164 | hb164
 {
 have hF:=Zi hF hb164
 refine WA.reg [1,3,134] [101] [(2,.bool false),(7,.bool false),(12,.bool true)] (env':=[(1,.val false [.ptr 101 1 0 0]),(3,one (.int .i64 (v0.f_L.length:Int))),(134,one (.bool true))]) (os':=[(101,.box (pvL (Zc v0)))]) (O:=[((v0.f_L.length:Int) != 1)=false,(decide (v0.f_Min<0))=false,(decide (v0.f_Min > 20))=true]) kr (sound _ _) ⟨hb162,hb163,hb164,trivial⟩ ?_
 exact ⟨true,kr,kr,hF⟩ }
 {
 have hF:=Zh hF hb164
 rcases Bool.eq_false_or_eq_true (v0.f_Max != (-1)) with hb165 | hb165
 {
 have hF:=Zi hF hb165
 rcases Bool.eq_false_or_eq_true (decide (v0.f_Max<v0.f_Min)) with hb166 | hb166
 {
 have hF:=Zi hF hb166
 refine WA.reg [1,3,134] [101] [(2,.bool false),(7,.bool false),(12,.bool false),(16,.bool true),(22,.bool true)] (env':=[(1,.val false [.ptr 101 1 0 0]),(3,one (.int .i64 (v0.f_L.length:Int))),(134,one (.bool true))]) (os':=[(101,.box (pvL (Zc v0)))]) (O:=[((v0.f_L.length:Int) != 1)=false,(decide (v0.f_Min<0))=false,(decide (v0.f_Min > 20))=false,(v0.f_Max != (-1))=true,(decide (v0.f_Max<v0.f_Min))=true]) kr (sound _ _) ⟨hb162,hb163,hb164,hb165,hb166,trivial⟩ ?_
 exact ⟨true,kr,kr,hF⟩ }
 {
 have hF:=Zh hF hb166
 refine WA.reg [1,3,134] [101] [(2,.bool false),(7,.bool false),(12,.bool false),(16,.bool true),(22,.bool false)] (env':=[(1,.val false [.ptr 101 1 0 0]),(3,one (.int .i64 (v0.f_L.length:Int))),(134,one (.bool (decide (v0.f_Max > 20))))]) (os':=[(101,.box (pvL (Zc v0)))]) (O:=[((v0.f_L.length:Int) != 1)=false,(decide (v0.f_Min<0))=false,(decide (v0.f_Min > 20))=false,(v0.f_Max != (-1))=true,(decide (v0.f_Max<v0.f_Min))=false]) kr (sound _ _) ⟨hb162,hb163,hb164,hb165,hb166,trivial⟩ ?_
 exact ⟨(decide (v0.f_Max > 20)),kr,kr,hF⟩ } }
 {
 have hF:=Zh hF hb165
 refine WA.reg [1,3,134] [101] [(2,.bool false),(7,.bool false),(12,.bool false),(16,.bool false)] (env':=[(1,.val false [.ptr 101 1 0 0]),(3,one (.int .i64 (v0.f_L.length:Int))),(134,one (.bool false))]) (os':=[(101,.box (pvL (Zc v0)))]) (O:=[((v0.f_L.length:Int) != 1)=false,(decide (v0.f_Min<0))=false,(decide (v0.f_Min > 20))=false,(v0.f_Max != (-1))=false]) kr (sound _ _) ⟨hb162,hb163,hb164,hb165,trivial⟩ ?_
 exact ⟨false,kr,kr,hF⟩ } } } } } }
 {
 have hF:=Zh hF hb161
 refine WA.seq ?_
 refine WA.reg [2] [] [] (env':=[(2,one (.bool false))]) (os':=[]) (O:=[]) kr (sound _ _) trivial ?_
 refine WA.ret ?_
 obtain rfl:=Option.some.inj hF
 exact Zq (one (.bool false)) [] kr kr kr kr (by decide) rfl rfl } } } } } } }
 {
 rcases Bool.eq_false_or_eq_true (v0.f_Kind != 1) with hb101 | hb101
 {
 have hF:=Zi hF hb101
 rcases Bool.eq_false_or_eq_true (decide ((v0.f_Set.length:Int) > 0)) with hb102 | hb102
 {
 have hF:=Zi hF hb102
 refine WA.rm (α:=Int) (raw:=((v0.f_Set.map Za).length:Int)) (can:=(v0.f_Set.length:Int)) (fun m_=>([(1,.val false [.ptr 101 1 0 0]),(30,one (.bool true))],[(101,.box (pvL (Zc v0)))],[(v0.f_Kind != 1)=true,(decide (m_ > 0))=true])) ((by first | (simp only [zl,Zf];done) | (simp only [zl,Zf];omega) | omega)) [1,30] [101] [(3,.bool true),(9,.bool true)] kr (sound _ _) ⟨hb101,hb102,trivial⟩ ?_
 exact ⟨true,kr,kr,hF⟩ }
 {
 have hF:=Zh hF hb102
 rcases Bool.eq_false_or_eq_true (v0.f_Kind != 4) with hb103 | hb103
 {
 have hF:=Zi hF hb103
 rcases Bool.eq_false_or_eq_true (v0.f_Min != 0) with hb104 | hb104
 {
 have hF:=Zi hF hb104
 refine WA.rm (α:=Int) (raw:=((v0.f_Set.map Za).length:Int)) (can:=(v0.f_Set.length:Int)) (fun m_=>([(1,.val false [.ptr 101 1 0 0]),(30,one (.bool true))],[(101,.box (pvL (Zc v0)))],[(v0.f_Kind != 1)=true,(decide (m_ > 0))=false,(v0.f_Kind != 4)=true,(v0.f_Min != 0)=true])) ((by first | (simp only [zl,Zf];done) | (simp only [zl,Zf];omega) | omega)) [1,30] [101] [(3,.bool true),(9,.bool false),(13,.bool true),(17,.bool true)] kr (sound _ _) ⟨hb101,hb102,hb103,hb104,trivial⟩ ?_
 exact ⟨true,kr,kr,hF⟩ }
 {
 have hF:=Zh hF hb104
 refine WA.rm (α:=Int) (raw:=((v0.f_Set.map Za).length:Int)) (can:=(v0.f_Set.length:Int)) (fun m_=>([(1,.val false [.ptr 101 1 0 0]),(30,one (.bool (v0.f_Max != 0)))],[(101,.box (pvL (Zc v0)))],[(v0.f_Kind != 1)=true,(decide (m_ > 0))=false,(v0.f_Kind != 4)=true,(v0.f_Min != 0)=false])) ((by first | (simp only [zl,Zf];done) | (simp only [zl,Zf];omega) | omega)) [1,30] [101] [(3,.bool true),(9,.bool false),(13,.bool true),(17,.bool false)] kr (sound _ _) ⟨hb101,hb102,hb103,hb104,trivial⟩ ?_
 exact ⟨(v0.f_Max != 0),kr,kr,hF⟩ } }
 {
 have hF:=Zh hF hb103
 refine WA.rm (α:=Int) (raw:=((v0.f_Set.map Za).length:Int)) (can:=(v0.f_Set.length:Int)) (fun m_=>([(1,.val false [.ptr 101 1 0 0]),(30,one (.bool false))],[(101,.box (pvL (Zc v0)))],[(v0.f_Kind != 1)=true,(decide (m_ > 0))=false,(v0.f_Kind != 4)=false])) ((by first | (simp only [zl,Zf];done) | (simp only [zl,Zf];omega) | omega)) [1,30] [101] [(3,.bool true),(9,.bool false),(13,.bool false)] kr (sound _ _) ⟨hb101,hb102,hb103,trivial⟩ ?_
 exact ⟨false,kr,kr,hF⟩ } } }
 {
 have hF:=Zh hF hb101
 rcases Bool.eq_false_or_eq_true (v0.f_Kind != 4) with hb105 | hb105
 {
 have hF:=Zi hF hb105
 rcases Bool.eq_false_or_eq_true (v0.f_Min != 0) with hb106 | hb106
 {
 have hF:=Zi hF hb106
 refine WA.reg [1,30] [101] [(3,.bool false),(13,.bool true),(17,.bool true)] (env':=[(1,.val false [.ptr 101 1 0 0]),(30,one (.bool true))]) (os':=[(101,.box (pvL (Zc v0)))]) (O:=[(v0.f_Kind != 1)=false,(v0.f_Kind != 4)=true,(v0.f_Min != 0)=true]) kr (sound _ _) ⟨hb101,hb105,hb106,trivial⟩ ?_
 exact ⟨true,kr,kr,hF⟩ }
 {
 have hF:=Zh hF hb106
 refine WA.reg [1,30] [101] [(3,.bool false),(13,.bool true),(17,.bool false)] (env':=[(1,.val false [.ptr 101 1 0 0]),(30,one (.bool (v0.f_Max != 0)))]) (os':=[(101,.box (pvL (Zc v0)))]) (O:=[(v0.f_Kind != 1)=false,(v0.f_Kind != 4)=true,(v0.f_Min != 0)=false]) kr (sound _ _) ⟨hb101,hb105,hb106,trivial⟩ ?_
 exact ⟨(v0.f_Max != 0),kr,kr,hF⟩ } }
 {
 have hF:=Zh hF hb105
 refine WA.reg [1,30] [101] [(3,.bool false),(13,.bool false)] (env':=[(1,.val false [.ptr 101 1 0 0]),(30,one (.bool false))]) (os':=[(101,.box (pvL (Zc v0)))]) (O:=[(v0.f_Kind != 1)=false,(v0.f_Kind != 4)=false]) kr (sound _ _) ⟨hb101,hb105,trivial⟩ ?_
 exact ⟨false,kr,kr,hF⟩ } } }
def F43:Nat→Ze→Option Bool
  | 0,_=>none
  | k+1,v0=>Zjk (F43 k) k v0
theorem Zjy:∀(k:Nat),∀(v0:Ze) (r:Bool),F43 k v0=some r→Sim Tryz.prog GL0 43 [.val true (pvL (Zc v0))] [] (one (.bool r)) []
  | 0=>fun _ _ hF=>by cases hF
  | k+1=>fun v0 r hF=>Zm7 (F43 k) (Zjy k) k v0 r hF
def Ze2 (v106:Bool):Option Bool:=
  some v106
def F22 (k:Nat) (v0:Ze):Option Bool:=
  (F42 k v0 1).bind fun y101=>cond (decide (y101≤16)) ((F43 k v0).bind fun y103=>cond y103 ((F20 k v0).bind fun y105=>(Ze2 (decide (y105≤200)))) ((Ze2 false))) ((Ze2 false))
theorem Zjv (k:Nat) (v0:Ze) (r:Bool) (hF:F22 k v0=some r):Sim Tryz.prog GL0 22 [.val true (pvL (Zc v0))] [] (one (.bool r)) []:=by
 refine ZB [] Tryz.func22 rfl kr kr ?_
 show WA _ _ 15 _ _ _
 refine WA.seq ?_
 refine WA.reg [1] [101] [(0,.obj 101)] (env':=[(1,.val false [.ptr 101 1 0 0])]) (os':=[(101,.box (pvL (Zc v0)))]) (O:=[]) kr (sound _ _) trivial ?_
 refine WA.join (fun s_=>∃(v106:Bool),Zj s_.env [2]=[(2,one (.bool v106))]∧Zj s_.os []=[]∧Ze2 v106=some r) ?_ ?_
 {
 rintro s_ ⟨v106,he,ho,hF⟩
 refine WA.keep _ _ he ho ?_
 clear he ho
 refine WA.ret ?_
 obtain rfl:=Option.some.inj hF
 exact Zq (one (.bool v106)) [] kr kr kr kr (by decide) rfl rfl }
 {
 obtain ⟨y101,hy101,hF⟩:=bind_some hF
 rcases Bool.eq_false_or_eq_true (decide (y101≤16)) with hb102 | hb102
 {
 have hF:=Zi hF hb102
 obtain ⟨y103,hy103,hF⟩:=bind_some hF
 rcases Bool.eq_false_or_eq_true y103 with hb104 | hb104
 {
 have hF:=Zi hF hb104
 obtain ⟨y105,hy105,hF⟩:=bind_some hF
 refine WA.reg [2] [] [(1,.callR [] (one (.int .i64 y101))),(3,.bool true),(5,.callR [] (one (.bool y103))),(7,.bool true),(9,.callR [] (one (.int .i64 y105)))] (env':=[(2,one (.bool (decide (y105≤200))))]) (os':=[]) (O:=[Sim Tryz.prog GL0 42 [.val true (pvL (Zc v0)),one (.int .i64 1)] [] (one (.int .i64 y101)) [],([]:List Nat).Nodup,(decide (y101≤16))=true,Sim Tryz.prog GL0 43 [.val true (pvL (Zc v0))] [] (one (.bool y103)) [],([]:List Nat).Nodup,y103=true,Sim Tryz.prog GL0 20 [.val true (pvL (Zc v0))] [] (one (.int .i64 y105)) [],([]:List Nat).Nodup]) kr (sound _ _) ⟨(Zg5 k _ _ _ hy101),(by decide),hb102,(Zjy k _ _ hy103),(by decide),hb104,(ZgW k _ _ hy105),(by decide),trivial⟩ ?_
 exact ⟨(decide (y105≤200)),kr,kr,hF⟩ }
 {
 have hF:=Zh hF hb104
 refine WA.reg [2] [] [(1,.callR [] (one (.int .i64 y101))),(3,.bool true),(5,.callR [] (one (.bool y103))),(7,.bool false)] (env':=[(2,one (.bool false))]) (os':=[]) (O:=[Sim Tryz.prog GL0 42 [.val true (pvL (Zc v0)),one (.int .i64 1)] [] (one (.int .i64 y101)) [],([]:List Nat).Nodup,(decide (y101≤16))=true,Sim Tryz.prog GL0 43 [.val true (pvL (Zc v0))] [] (one (.bool y103)) [],([]:List Nat).Nodup,y103=false]) kr (sound _ _) ⟨(Zg5 k _ _ _ hy101),(by decide),hb102,(Zjy k _ _ hy103),(by decide),hb104,trivial⟩ ?_
 exact ⟨false,kr,kr,hF⟩ } }
 {
 have hF:=Zh hF hb102
 refine WA.reg [2] [] [(1,.callR [] (one (.int .i64 y101))),(3,.bool false)] (env':=[(2,one (.bool false))]) (os':=[]) (O:=[Sim Tryz.prog GL0 42 [.val true (pvL (Zc v0)),one (.int .i64 1)] [] (one (.int .i64 y101)) [],([]:List Nat).Nodup,(decide (y101≤16))=false]) kr (sound _ _) ⟨(Zg5 k _ _ _ hy101),(by decide),hb102,trivial⟩ ?_
 exact ⟨false,kr,kr,hF⟩ } }
def Zl8 (R29:Ze→Ze→Option Bool) (self2:Int→Option Bool) (v0:Ze) (v1:Ze) (v132:Int):Option Bool:=
  (cond (decide (v132<(v0.f_L.length:Int))) ((idxL v0.f_L v132).bind fun y134=>(idxL v1.f_L v132).bind fun y135=>(R29 y134 y135).bind fun y136=>(cond (!y136) ((some false)) ((self2 (w64 (v132+1)))))) (((some true))))
def Zg2 (R29:Ze→Ze→Option Bool) (v0:Ze) (v1:Ze):Nat→Int→Option Bool
  | 0,_=>none
  | m_+1,v132=>Zl8 R29 (Zg2 R29 v0 v1 m_) v0 v1 v132
def Zl7 (R29:Ze→Ze→Option Bool) (k:Nat) (self1:Int→Option Bool) (v0:Ze) (v1:Ze) (v116:Int):Option Bool:=
  (cond (decide (v116<(v0.f_Set.length:Int))) ((idxL v0.f_Set v116).bind fun y118=>(idxL v1.f_Set v116).bind fun y119=>(cond (!((y118.f_Lo == y119.f_Lo) && ((y118.f_Hi == y119.f_Hi) && true))) ((some false)) ((self1 (w64 (v116+1)))))) (((Zg2 R29 v0 v1 k 0))))
def Zg1 (R29:Ze→Ze→Option Bool) (k:Nat) (v0:Ze) (v1:Ze):Nat→Int→Option Bool
  | 0,_=>none
  | m_+1,v116=>Zl7 R29 k (Zg1 R29 k v0 v1 m_) v0 v1 v116
def ZdI (R29:Ze→Ze→Option Bool) (k:Nat) (v0:Ze) (v1:Ze) (v105:Bool):Option Bool:=
  cond v105 ((some false)) (((Zg1 R29 k v0 v1 k 0)))
def ZnR (R29:Ze→Ze→Option Bool) (k:Nat) (v0:Ze) (v1:Ze):Option Bool:=
  (cond (v0.f_Kind != v1.f_Kind) ((ZdI R29 k v0 v1 true)) (cond (v0.f_Min != v1.f_Min) ((ZdI R29 k v0 v1 true)) (cond (v0.f_Max != v1.f_Max) ((ZdI R29 k v0 v1 true)) (cond ((v0.f_L.length:Int) != (v1.f_L.length:Int)) ((ZdI R29 k v0 v1 true)) ((ZdI R29 k v0 v1 ((v0.f_Set.length:Int) != (v1.f_Set.length:Int))))))))
theorem Zm3 (R29:Ze→Ze→Option Bool) (IH29:∀(v0:Ze) (v1:Ze) (r:Bool),R29 v0 v1=some r→Sim Tryz.prog GL0 29 [.val true (pvL (Zc v0)),.val true (pvL (Zc v1))] [] (one (.bool r)) []) (k:Nat) (v0:Ze) (v1:Ze) (r:Bool) (hF:ZnR R29 k v0 v1=some r):Sim Tryz.prog GL0 29 [.val true (pvL (Zc v0)),.val true (pvL (Zc v1))] [] (one (.bool r)) []:=by
 refine ZB [] Tryz.func29 rfl kr kr ?_
 show WA _ _ 81 _ _ _
 refine WA.seq ?_
 refine WA.reg [2,3] [102,103] [(0,.obj 102),(1,.obj 103)] (env':=[(2,.val false [.ptr 102 1 0 0]),(3,.val false [.ptr 103 1 0 0])]) (os':=[(102,.box (pvL (Zc v0))),(103,.box (pvL (Zc v1)))]) (O:=[]) kr (sound _ _) trivial ?_
 refine WA.seq ?_
 refine WA.join (fun s_=>∃(v105:Bool),Zj s_.env [2,3,43]=[(2,.val false [.ptr 102 1 0 0]),(3,.val false [.ptr 103 1 0 0]),(43,one (.bool v105))]∧Zj s_.os [102,103]=[(102,.box (pvL (Zc v0))),(103,.box (pvL (Zc v1)))]∧ZdI R29 k v0 v1 v105=some r) ?_ ?_
 {
 rintro s_ ⟨v105,he,ho,hF⟩
 refine WA.keep _ _ he ho ?_
 clear he ho
 refine WA.cond (b:=v105) rfl (fun hb106=>?_) (fun hb106=>?_)
 {
 have hF:=Zi hF hb106
 refine WA.seq ?_
 refine WA.reg [4] [] [] (env':=[(4,one (.bool false))]) (os':=[]) (O:=[]) kr (sound _ _) trivial ?_
 refine WA.ret ?_
 obtain rfl:=Option.some.inj hF
 exact Zq (one (.bool false)) [] kr kr kr kr (by decide) rfl rfl }
 {
 have hF:=Zh hF hb106
 refine WA.skip ?_
 refine WA.seq ?_
 refine WA.seq ?_
 refine WA.reg [2,3,5] [102,103] [] (env':=[(2,.val false [.ptr 102 1 0 0]),(3,.val false [.ptr 103 1 0 0]),(5,one (.int .i64 0))]) (os':=[(102,.box (pvL (Zc v0))),(103,.box (pvL (Zc v1)))]) (O:=[]) kr (sound _ _) trivial ?_
 refine WA.block ?_
 refine WA.loop (fun m s_=>∃(v116:Int),Zj s_.env [2,3,5]=[(2,.val false [.ptr 102 1 0 0]),(3,.val false [.ptr 103 1 0 0]),(5,one (.int .i64 v116))]∧Zj s_.os [102,103]=[(102,.box (pvL (Zc v0))),(103,.box (pvL (Zc v1)))]∧Zg1 R29 k v0 v1 m v116=some r) k ⟨0,kr,kr,hF⟩ ?_
 clear hF
 rintro m1 s_ ⟨v116,he,ho,hF⟩
 refine WA.keep _ _ he ho ?_
 clear he ho
 cases m1 with
 | zero=>cases hF
 | succ m1=>
  obtain ⟨self1,hself1⟩:∃g,g=Zg1 R29 k v0 v1 m1:=⟨_,rfl⟩
  have hF:Zl7 R29 k self1 v0 v1 v116=some r:=by first | (rw [hself1];exact hF) | exact hF
  refine WA.seq ?_
  refine WA.seq ?_
  refine WA.rm (α:=Int) (raw:=((v0.f_Set.map Za).length:Int)) (can:=(v0.f_Set.length:Int)) (fun m_=>([(2,.val false [.ptr 102 1 0 0]),(3,.val false [.ptr 103 1 0 0]),(5,one (.int .i64 v116)),(48,one (.bool (decide (v116<m_))))],[(102,.box (pvL (Zc v0))),(103,.box (pvL (Zc v1)))],[])) ((by first | (simp only [zl,Zf];done) | (simp only [zl,Zf];omega) | omega)) [2,3,5,48] [102,103] [] kr (sound _ _) trivial ?_
  refine WA.cond (b:=(decide (v116<(v0.f_Set.length:Int)))) rfl (fun hb117=>?_) (fun hb117=>?_)
  {
 have hF:=Zi hF hb117
 refine WA.skip ?_
 refine WA.seq ?_
 refine WA.block ?_
 refine WA.seq ?_
 obtain ⟨y118,hy118,hF⟩:=bind_some hF
 obtain ⟨y119,hy119,hF⟩:=bind_some hF
 refine WA.regD kr [2,3,5,61] [102,103] [(3,.cells (Za y118)),(8,.cells (Za y119))] (env':=[(2,.val false [.ptr 102 1 0 0]),(3,.val false [.ptr 103 1 0 0]),(5,one (.int .i64 v116)),(61,one (.bool (!((y118.f_Lo == y119.f_Lo) && ((y118.f_Hi == y119.f_Hi) && true)))))]) (os':=[(102,.box (pvL (Zc v0))),(103,.box (pvL (Zc v1)))]) (O:=[idxL (v0.f_Set.map Za) v116=some (Za y118),idxL (v1.f_Set.map Za) v116=some (Za y119)]) kr kr (sound _ _) ⟨(Zr _ hy118),(Zr _ hy119),trivial⟩ ?_
 refine WA.cond (b:=(!((y118.f_Lo == y119.f_Lo) && ((y118.f_Hi == y119.f_Hi) && true)))) rfl (fun hb120=>?_) (fun hb120=>?_)
 {
 have hF:=Zi hF hb120
 refine WA.seq ?_
 refine WA.reg [4] [] [] (env':=[(4,one (.bool false))]) (os':=[]) (O:=[]) kr (sound _ _) trivial ?_
 refine WA.ret ?_
 obtain rfl:=Option.some.inj hF
 exact Zq (one (.bool false)) [] kr kr kr kr (by decide) rfl rfl }
 {
 have hF:=Zh hF hb120
 refine WA.skip ?_
 refine WA.reg [2,3,5] [102,103] [] (env':=[(2,.val false [.ptr 102 1 0 0]),(3,.val false [.ptr 103 1 0 0]),(5,one (.int .i64 (w64 (v116+1))))]) (os':=[(102,.box (pvL (Zc v0))),(103,.box (pvL (Zc v1)))]) (O:=[]) kr (sound _ _) trivial ?_
 exact ⟨m1,Nat.lt_succ_self _,(w64 (v116+1)),kr,kr,by rw [hself1] at hF;exact hF⟩ } }
  {
 have hF:=Zh hF hb117
 refine WA.exit ?_
 refine WA.seq ?_
 refine WA.seq ?_
 refine WA.reg [2,3,6] [102,103] [] (env':=[(2,.val false [.ptr 102 1 0 0]),(3,.val false [.ptr 103 1 0 0]),(6,one (.int .i64 0))]) (os':=[(102,.box (pvL (Zc v0))),(103,.box (pvL (Zc v1)))]) (O:=[]) kr (sound _ _) trivial ?_
 refine WA.block ?_
 refine WA.loop (fun m s_=>∃(v132:Int),Zj s_.env [2,3,6]=[(2,.val false [.ptr 102 1 0 0]),(3,.val false [.ptr 103 1 0 0]),(6,one (.int .i64 v132))]∧Zj s_.os [102,103]=[(102,.box (pvL (Zc v0))),(103,.box (pvL (Zc v1)))]∧Zg2 R29 v0 v1 m v132=some r) k ⟨0,kr,kr,hF⟩ ?_
 clear hF
 rintro m2 s_ ⟨v132,he,ho,hF⟩
 refine WA.keep _ _ he ho ?_
 clear he ho
 cases m2 with
 | zero=>cases hF
 | succ m2=>
  obtain ⟨self2,hself2⟩:∃g,g=Zg2 R29 v0 v1 m2:=⟨_,rfl⟩
  have hF:Zl8 R29 self2 v0 v1 v132=some r:=by first | (rw [hself2];exact hF) | exact hF
  refine WA.seq ?_
  refine WA.seq ?_
  refine WA.rm (α:=Int) (raw:=((Zk v0.f_L).length:Int)) (can:=(v0.f_L.length:Int)) (fun m_=>([(2,.val false [.ptr 102 1 0 0]),(3,.val false [.ptr 103 1 0 0]),(6,one (.int .i64 v132)),(66,one (.bool (decide (v132<m_))))],[(102,.box (pvL (Zc v0))),(103,.box (pvL (Zc v1)))],[])) ((by first | (simp only [zl,Zf];done) | (simp only [zl,Zf];omega) | omega)) [2,3,6,66] [102,103] [] kr (sound _ _) trivial ?_
  refine WA.cond (b:=(decide (v132<(v0.f_L.length:Int)))) rfl (fun hb133=>?_) (fun hb133=>?_)
  {
 have hF:=Zi hF hb133
 refine WA.skip ?_
 refine WA.seq ?_
 refine WA.block ?_
 refine WA.seq ?_
 obtain ⟨y134,hy134,hF⟩:=bind_some hF
 obtain ⟨y135,hy135,hF⟩:=bind_some hF
 obtain ⟨y136,hy136,hF⟩:=bind_some hF
 refine WA.regD kr [2,3,6,80] [102,103] [(3,.cells (Zc y134)),(8,.cells (Zc y135)),(10,.callR [] (one (.bool y136)))] (env':=[(2,.val false [.ptr 102 1 0 0]),(3,.val false [.ptr 103 1 0 0]),(6,one (.int .i64 v132)),(80,one (.bool (!y136)))]) (os':=[(102,.box (pvL (Zc v0))),(103,.box (pvL (Zc v1)))]) (O:=[idxL (Zk v0.f_L) v132=some (Zc y134),idxL (Zk v1.f_L) v132=some (Zc y135),Sim Tryz.prog GL0 29 [.val true (pvL (Zc y134)),.val true (pvL (Zc y135))] [] (one (.bool y136)) [],([]:List Nat).Nodup]) kr kr (sound _ _) ⟨(ZK hy134),(ZK hy135),(IH29 _ _ _ hy136),(by decide),trivial⟩ ?_
 refine WA.cond (b:=(!y136)) rfl (fun hb137=>?_) (fun hb137=>?_)
 {
 have hF:=Zi hF hb137
 refine WA.seq ?_
 refine WA.reg [4] [] [] (env':=[(4,one (.bool false))]) (os':=[]) (O:=[]) kr (sound _ _) trivial ?_
 refine WA.ret ?_
 obtain rfl:=Option.some.inj hF
 exact Zq (one (.bool false)) [] kr kr kr kr (by decide) rfl rfl }
 {
 have hF:=Zh hF hb137
 refine WA.skip ?_
 refine WA.reg [2,3,6] [102,103] [] (env':=[(2,.val false [.ptr 102 1 0 0]),(3,.val false [.ptr 103 1 0 0]),(6,one (.int .i64 (w64 (v132+1))))]) (os':=[(102,.box (pvL (Zc v0))),(103,.box (pvL (Zc v1)))]) (O:=[]) kr (sound _ _) trivial ?_
 exact ⟨m2,Nat.lt_succ_self _,(w64 (v132+1)),kr,kr,by rw [hself2] at hF;exact hF⟩ } }
  {
 have hF:=Zh hF hb133
 refine WA.exit ?_
 refine WA.seq ?_
 refine WA.reg [4] [] [] (env':=[(4,one (.bool true))]) (os':=[]) (O:=[]) kr (sound _ _) trivial ?_
 refine WA.ret ?_
 obtain rfl:=Option.some.inj hF
 exact Zq (one (.bool true)) [] kr kr kr kr (by decide) rfl rfl } } } }
 {
 rcases Bool.eq_false_or_eq_true (v0.f_Kind != v1.f_Kind) with hb101 | hb101
 {
 have hF:=Zi hF hb101
 refine WA.reg [2,3,43] [102,103] [(5,.bool true)] (env':=[(2,.val false [.ptr 102 1 0 0]),(3,.val false [.ptr 103 1 0 0]),(43,one (.bool true))]) (os':=[(102,.box (pvL (Zc v0))),(103,.box (pvL (Zc v1)))]) (O:=[(v0.f_Kind != v1.f_Kind)=true]) kr (sound _ _) ⟨hb101,trivial⟩ ?_
 exact ⟨true,kr,kr,hF⟩ }
 {
 have hF:=Zh hF hb101
 rcases Bool.eq_false_or_eq_true (v0.f_Min != v1.f_Min) with hb102 | hb102
 {
 have hF:=Zi hF hb102
 refine WA.reg [2,3,43] [102,103] [(5,.bool false),(12,.bool true)] (env':=[(2,.val false [.ptr 102 1 0 0]),(3,.val false [.ptr 103 1 0 0]),(43,one (.bool true))]) (os':=[(102,.box (pvL (Zc v0))),(103,.box (pvL (Zc v1)))]) (O:=[(v0.f_Kind != v1.f_Kind)=false,(v0.f_Min != v1.f_Min)=true]) kr (sound _ _) ⟨hb101,hb102,trivial⟩ ?_
 exact ⟨true,kr,kr,hF⟩ }
 {
 have hF:=Zh hF hb102
 rcases Bool.eq_false_or_eq_true (v0.f_Max != v1.f_Max) with hb103 | hb103
 {
 have hF:=Zi hF hb103
 refine WA.reg [2,3,43] [102,103] [(5,.bool false),(12,.bool false),(19,.bool true)] (env':=[(2,.val false [.ptr 102 1 0 0]),(3,.val false [.ptr 103 1 0 0]),(43,one (.bool true))]) (os':=[(102,.box (pvL (Zc v0))),(103,.box (pvL (Zc v1)))]) (O:=[(v0.f_Kind != v1.f_Kind)=false,(v0.f_Min != v1.f_Min)=false,(v0.f_Max != v1.f_Max)=true]) kr (sound _ _) ⟨hb101,hb102,hb103,trivial⟩ ?_
 exact ⟨true,kr,kr,hF⟩ }
 {
 have hF:=Zh hF hb103
 rcases Bool.eq_false_or_eq_true ((v0.f_L.length:Int) != (v1.f_L.length:Int)) with hb104 | hb104
 {
 have hF:=Zi hF hb104
 refine WA.rm (α:=Int×Int) (raw:=(((Zk v0.f_L).length:Int),((Zk v1.f_L).length:Int))) (can:=((v0.f_L.length:Int),(v1.f_L.length:Int))) (fun m_=>([(2,.val false [.ptr 102 1 0 0]),(3,.val false [.ptr 103 1 0 0]),(43,one (.bool true))],[(102,.box (pvL (Zc v0))),(103,.box (pvL (Zc v1)))],[(v0.f_Kind != v1.f_Kind)=false,(v0.f_Min != v1.f_Min)=false,(v0.f_Max != v1.f_Max)=false,(m_.1 != m_.2)=true])) (ZE (by first | (simp only [zl,Zf];done) | (simp only [zl,Zf];omega) | omega) (by first | (simp only [zl,Zf];done) | (simp only [zl,Zf];omega) | omega)) [2,3,43] [102,103] [(5,.bool false),(12,.bool false),(19,.bool false),(28,.bool true)] kr (sound _ _) ⟨hb101,hb102,hb103,hb104,trivial⟩ ?_
 exact ⟨true,kr,kr,hF⟩ }
 {
 have hF:=Zh hF hb104
 refine WA.rm (α:=Int×Int×Int×Int) (raw:=(((v0.f_Set.map Za).length:Int),((v1.f_Set.map Za).length:Int),((Zk v0.f_L).length:Int),((Zk v1.f_L).length:Int))) (can:=((v0.f_Set.length:Int),(v1.f_Set.length:Int),(v0.f_L.length:Int),(v1.f_L.length:Int))) (fun m_=>([(2,.val false [.ptr 102 1 0 0]),(3,.val false [.ptr 103 1 0 0]),(43,one (.bool (m_.1 != m_.2.1)))],[(102,.box (pvL (Zc v0))),(103,.box (pvL (Zc v1)))],[(v0.f_Kind != v1.f_Kind)=false,(v0.f_Min != v1.f_Min)=false,(v0.f_Max != v1.f_Max)=false,(m_.2.2.1 != m_.2.2.2)=false])) (ZE (by first | (simp only [zl,Zf];done) | (simp only [zl,Zf];omega) | omega) (ZE (by first | (simp only [zl,Zf];done) | (simp only [zl,Zf];omega) | omega) (ZE (by first | (simp only [zl,Zf];done) | (simp only [zl,Zf];omega) | omega) (by first | (simp only [zl,Zf];done) | (simp only [zl,Zf];omega) | omega)))) [2,3,43] [102,103] [(5,.bool false),(12,.bool false),(19,.bool false),(28,.bool false)] kr (sound _ _) ⟨hb101,hb102,hb103,hb104,trivial⟩ ?_
 exact ⟨((v0.f_Set.length:Int) != (v1.f_Set.length:Int)),kr,kr,hF⟩ } } } } }
def F29:Nat→Ze→Ze→Option Bool
  | 0,_,_=>none
  | k+1,v0,v1=>ZnR (F29 k) k v0 v1
theorem ZoU:∀(k:Nat),∀(v0:Ze) (v1:Ze) (r:Bool),F29 k v0 v1=some r→Sim Tryz.prog GL0 29 [.val true (pvL (Zc v0)),.val true (pvL (Zc v1))] [] (one (.bool r)) []
  | 0=>fun _ _ _ hF=>by cases hF
  | k+1=>fun v0 v1 r hF=>Zm3 (F29 k) (ZoU k) k v0 v1 r hF
def Zhl (self2:Int→Option Bool) (v114:Int) (v119:Bool):Option Bool:=
  cond v119 ((some true)) ((self2 (w64 (v114+1))))
def Zd6 (self2:Int→Option Bool) (v0:List Zb) (v1:Int) (v114:Int):Option Bool:=
  (cond (decide (v114<(v0.length:Int))) ((idxL v0 v114).bind fun y116=>cond (decide (y116.f_Lo≤v1)) ((idxL v0 v114).bind fun y118=>(Zhl self2 v114 (decide (v1≤y118.f_Hi)))) ((Zhl self2 v114 false))) (((some false))))
def Zd7 (v0:List Zb) (v1:Int):Nat→Int→Option Bool
  | 0,_=>none
  | m_+1,v114=>Zd6 (Zd7 v0 v1 m_) v0 v1 v114
def F68 (k:Nat) (v0:List Zb) (v1:Int):Option Bool:=
  ((Zd7 v0 v1 k 0))
theorem Zo0 (k:Nat) (v0:List Zb) (v1:Int) (r:Bool) (hF:F68 k v0 v1=some r):Sim Tryz.prog GL0 68 [one (.sl (v0.map Za)),one (.int .i64 v1)] [] (one (.bool r)) []:=by
 refine ZB [] Tryz.func68 rfl kr kr ?_
 show WA _ _ 28 _ _ _
 refine WA.seq ?_
 refine WA.reg [0,1] [] [] (env':=[(0,one (.sl (v0.map Za))),(1,one (.int .i64 v1))]) (os':=[]) (O:=[]) kr (sound _ _) trivial ?_
 refine WA.seq ?_
 refine WA.seq ?_
 refine WA.reg [0,1,5] [] [] (env':=[(0,one (.sl (v0.map Za))),(1,one (.int .i64 v1)),(5,one (.int .i64 0))]) (os':=[]) (O:=[]) kr (sound _ _) trivial ?_
 refine WA.block ?_
 refine WA.loop (fun m s_=>∃(v114:Int),Zj s_.env [0,1,5]=[(0,one (.sl (v0.map Za))),(1,one (.int .i64 v1)),(5,one (.int .i64 v114))]∧Zj s_.os []=[]∧Zd7 v0 v1 m v114=some r) k ⟨0,kr,kr,hF⟩ ?_
 clear hF
 rintro m2 s_ ⟨v114,he,ho,hF⟩
 refine WA.keep _ _ he ho ?_
 clear he ho
 cases m2 with
 | zero=>cases hF
 | succ m2=>
  obtain ⟨self2,hself2⟩:∃g,g=Zd7 v0 v1 m2:=⟨_,rfl⟩
  have hF:Zd6 self2 v0 v1 v114=some r:=by first | (rw [hself2];exact hF) | exact hF
  refine WA.seq ?_
  refine WA.seq ?_
  refine WA.rm (α:=Int) (raw:=((v0.map Za).length:Int)) (can:=(v0.length:Int)) (fun m_=>([(0,one (.sl (v0.map Za))),(1,one (.int .i64 v1)),(5,one (.int .i64 v114)),(9,one (.bool (decide (v114<m_))))],[],[])) ((by first | (simp only [zl,Zf];done) | (simp only [zl,Zf];omega) | omega)) [0,1,5,9] [] [] kr (sound _ _) trivial ?_
  refine WA.cond (b:=(decide (v114<(v0.length:Int)))) rfl (fun hb115=>?_) (fun hb115=>?_)
  {
 have hF:=Zi hF hb115
 refine WA.skip ?_
 refine WA.seq ?_
 refine WA.block ?_
 refine WA.join (fun s_=>∃(v119:Bool),Zj s_.env [0,1,5,27]=[(0,one (.sl (v0.map Za))),(1,one (.int .i64 v1)),(5,one (.int .i64 v114)),(27,one (.bool v119))]∧Zj s_.os []=[]∧Zhl self2 v114 v119=some r) ?_ ?_
 {
 rintro s_ ⟨v119,he,ho,hF⟩
 refine WA.keep _ _ he ho ?_
 clear he ho
 refine WA.cond (b:=v119) rfl (fun hb120=>?_) (fun hb120=>?_)
 {
 have hF:=Zi hF hb120
 refine WA.seq ?_
 refine WA.reg [4] [] [] (env':=[(4,one (.bool true))]) (os':=[]) (O:=[]) kr (sound _ _) trivial ?_
 refine WA.ret ?_
 obtain rfl:=Option.some.inj hF
 exact Zq (one (.bool true)) [] kr kr kr kr (by decide) rfl rfl }
 {
 have hF:=Zh hF hb120
 refine WA.skip ?_
 refine WA.reg [0,1,5] [] [] (env':=[(0,one (.sl (v0.map Za))),(1,one (.int .i64 v1)),(5,one (.int .i64 (w64 (v114+1))))]) (os':=[]) (O:=[]) kr (sound _ _) trivial ?_
 exact ⟨m2,Nat.lt_succ_self _,(w64 (v114+1)),kr,kr,by rw [hself2] at hF;exact hF⟩ } }
 {
 obtain ⟨y116,hy116,hF⟩:=bind_some hF
 rcases Bool.eq_false_or_eq_true (decide (y116.f_Lo≤v1)) with hb117 | hb117
 {
 have hF:=Zi hF hb117
 obtain ⟨y118,hy118,hF⟩:=bind_some hF
 refine WA.reg [0,1,5,27] [] [(2,.cells (Za y116)),(7,.bool true),(11,.cells (Za y118))] (env':=[(0,one (.sl (v0.map Za))),(1,one (.int .i64 v1)),(5,one (.int .i64 v114)),(27,one (.bool (decide (v1≤y118.f_Hi))))]) (os':=[]) (O:=[idxL (v0.map Za) v114=some (Za y116),(decide (y116.f_Lo≤v1))=true,idxL (v0.map Za) v114=some (Za y118)]) kr (sound _ _) ⟨(Zr _ hy116),hb117,(Zr _ hy118),trivial⟩ ?_
 exact ⟨(decide (v1≤y118.f_Hi)),kr,kr,hF⟩ }
 {
 have hF:=Zh hF hb117
 refine WA.reg [0,1,5,27] [] [(2,.cells (Za y116)),(7,.bool false)] (env':=[(0,one (.sl (v0.map Za))),(1,one (.int .i64 v1)),(5,one (.int .i64 v114)),(27,one (.bool false))]) (os':=[]) (O:=[idxL (v0.map Za) v114=some (Za y116),(decide (y116.f_Lo≤v1))=false]) kr (sound _ _) ⟨(Zr _ hy116),hb117,trivial⟩ ?_
 exact ⟨false,kr,kr,hF⟩ } } }
  {
 have hF:=Zh hF hb115
 refine WA.exit ?_
 refine WA.seq ?_
 refine WA.reg [4] [] [] (env':=[(4,one (.bool false))]) (os':=[]) (O:=[]) kr (sound _ _) trivial ?_
 refine WA.ret ?_
 obtain rfl:=Option.some.inj hF
 exact Zq (one (.bool false)) [] kr kr kr kr (by decide) rfl rfl }
def Zhn (self4:(List Bool)→Bool→Int→Option (Bool×(List Bool))) (v143:Int) (v159:List Bool) (v161:Bool):Option (Bool×(List Bool)):=
  self4 v159 v161 (w64 (v143+1))
def ZcU (self4:(List Bool)→Bool→Int→Option (Bool×(List Bool))) (v1:List Bool) (v140:List Bool) (v143:Int) (v150:Bool):Option (Bool×(List Bool)):=
  if (0:Int)≤v143∧v143<(v140.length:Int) then (idxL v140 v143).bind fun y152=>cond y152 (if (0:Int)≤v143∧v143<(v140.length:Int) then (idxL v140 v143).bind fun y155=>(Zhn self4 v143 (v140.set (Int.toNat v143) true) v150) else none) ((idxL v1 v143).bind fun y156=>if (0:Int)≤v143∧v143<(v140.length:Int) then (idxL v140 v143).bind fun y158=>(Zhn self4 v143 (v140.set (Int.toNat v143) y156) v150) else none) else none
def Zhm (self4:(List Bool)→Bool→Int→Option (Bool×(List Bool))) (v1:List Bool) (v140:List Bool) (v142:Bool) (v143:Int):Option (Bool×(List Bool)):=
  (cond (decide (v143<(v140.length:Int))) ((cond v142 ((ZcU self4 v1 v140 v143 true)) ((idxL v1 v143).bind fun y146=>cond y146 (if (0:Int)≤v143∧v143<(v140.length:Int) then (idxL v140 v143).bind fun y149=>(ZcU self4 v1 v140 v143 (!y149)) else none) ((ZcU self4 v1 v140 v143 false))))) (((some (v142,v140)))))
def ZbZ (v1:List Bool):Nat→(List Bool)→Bool→Int→Option (Bool×(List Bool))
  | 0,_,_,_=>none
  | m_+1,v140,v142,v143=>Zhm (ZbZ v1 m_) v1 v140 v142 v143
def F69 (k:Nat) (v0:List Bool) (v1:List Bool):Option (Bool×(List Bool)):=
  (((ZbZ v1 k v0 false 0)))
theorem ZjF (k:Nat) (v0:List Bool) (v1:List Bool) (r:Bool×(List Bool)) (hF:F69 k v0 v1=some r) {n0:Nat} (hn_n0:n0=v0.length):Sim Tryz.prog GL0 69 [.val false [.arr 0 n0],one (.sl (v1.map Zl))] [.arr 1 (v0.map Zl)] (one (.bool r.1)) [.arr 1 (r.2.map Zl)]:=by
 refine ZB [0] Tryz.func69 rfl kr kr ?_
 show WA _ _ 41 _ _ _
 refine WA.seq ?_
 refine WA.reg [0,1] [0] [] (env':=[(0,.val false [.arr 0 n0]),(1,one (.sl (v1.map Zl)))]) (os':=[(0,.arr 1 (v0.map Zl))]) (O:=[]) kr (sound _ _) trivial ?_
 refine WA.seq ?_
 refine WA.reg [0,1,5] [0] [] (env':=[(0,.val false [.arr 0 n0]),(1,one (.sl (v1.map Zl))),(5,one (.bool false))]) (os':=[(0,.arr 1 (v0.map Zl))]) (O:=[]) kr (sound _ _) trivial ?_
 refine WA.seq ?_
 refine WA.seq ?_
 refine WA.reg [0,1,5,6] [0] [] (env':=[(0,.val false [.arr 0 n0]),(1,one (.sl (v1.map Zl))),(5,one (.bool false)),(6,one (.int .i64 0))]) (os':=[(0,.arr 1 (v0.map Zl))]) (O:=[]) kr (sound _ _) trivial ?_
 refine WA.block ?_
 refine WA.loop (fun m s_=>∃(v140:List Bool) (v141:Nat) (v142:Bool) (v143:Int),Zj s_.env [0,1,5,6]=[(0,.val false [.arr 0 v141]),(1,one (.sl (v1.map Zl))),(5,one (.bool v142)),(6,one (.int .i64 v143))]∧Zj s_.os [0]=[(0,.arr 1 (v140.map Zl))]∧v141=(v140:List _).length∧ZbZ v1 m v140 v142 v143=some r) k ⟨v0,n0,false,0,kr,kr,zt,hF⟩ ?_
 clear hF
 rintro m4 s_ ⟨v140,v141,v142,v143,he,ho,hn_v141,hF⟩
 refine WA.keep _ _ he ho ?_
 clear he ho
 cases m4 with
 | zero=>cases hF
 | succ m4=>
  obtain ⟨self4,hself4⟩:∃g,g=ZbZ v1 m4:=⟨_,rfl⟩
  have hF:Zhm self4 v1 v140 v142 v143=some r:=by first | (rw [hself4];exact hF) | exact hF
  refine WA.seq ?_
  refine WA.seq ?_
  refine WA.rm (α:=Int) (raw:=((v141:Nat):Int)) (can:=(v140.length:Int)) (fun m_=>([(0,.val false [.arr 0 v141]),(1,one (.sl (v1.map Zl))),(5,one (.bool v142)),(6,one (.int .i64 v143)),(10,one (.bool (decide (v143<m_))))],[(0,.arr 1 (v140.map Zl))],[])) ((by first | (simp only [zl,Zf];done) | (simp only [zl,Zf];omega) | omega)) [0,1,5,6,10] [0] [] kr (sound _ _) trivial ?_
  refine WA.cond (b:=(decide (v143<(v140.length:Int)))) rfl (fun hb144=>?_) (fun hb144=>?_)
  {
 have hF:=Zi hF hb144
 refine WA.skip ?_
 refine WA.join (fun s_=>∃(v159:List Bool) (v160:Nat) (v161:Bool),Zj s_.env [0,1,5,6]=[(0,.val false [.arr 0 v160]),(1,one (.sl (v1.map Zl))),(5,one (.bool v161)),(6,one (.int .i64 v143))]∧Zj s_.os [0]=[(0,.arr 1 (v159.map Zl))]∧v160=(v159:List _).length∧Zhn self4 v143 v159 v161=some r) ?_ ?_
 {
 rintro s_ ⟨v159,v160,v161,he,ho,hn_v160,hF⟩
 refine WA.keep _ _ he ho ?_
 clear he ho
 refine WA.reg [0,1,5,6] [0] [] (env':=[(0,.val false [.arr 0 v160]),(1,one (.sl (v1.map Zl))),(5,one (.bool v161)),(6,one (.int .i64 (w64 (v143+1))))]) (os':=[(0,.arr 1 (v159.map Zl))]) (O:=[]) kr (sound _ _) trivial ?_
 exact ⟨m4,Nat.lt_succ_self _,v159,v160,v161,(w64 (v143+1)),kr,kr,zt,by rw [hself4] at hF;exact hF⟩ }
 {
 refine WA.block ?_
 refine WA.join (fun s_=>∃(v150:Bool),Zj s_.env [0,1,5,6]=[(0,.val false [.arr 0 v141]),(1,one (.sl (v1.map Zl))),(5,one (.bool v150)),(6,one (.int .i64 v143))]∧Zj s_.os [0]=[(0,.arr 1 (v140.map Zl))]∧ZcU self4 v1 v140 v143 v150=some r) ?_ ?_
 {
 rintro s_ ⟨v150,he,ho,hF⟩
 refine WA.keep _ _ he ho ?_
 clear he ho
 obtain ⟨hc151,hF⟩:=Zn hF
 obtain ⟨y152,hy152,hF⟩:=bind_some hF
 rcases Bool.eq_false_or_eq_true y152 with hb153 | hb153
 {
 have hF:=Zi hF hb153
 obtain ⟨hc154,hF⟩:=Zn hF
 obtain ⟨y155,hy155,hF⟩:=bind_some hF
 have z0:v143<((v141:Nat):Int):=(by have h_:=hc151.2;(try simp only [zl,Zf] at h_ ⊢);omega)
 refine WA.rm (α:=(List (List PV))) (raw:=((v140.map Zl).set (Int.toNat v143) (Zl true))) (can:=((v140.set (Int.toNat v143) true).map Zl)) (fun m_=>([(0,.val false [.arr 0 v141]),(1,one (.sl (v1.map Zl))),(5,one (.bool v150)),(6,one (.int .i64 v143))],[(0,.arr 1 m_)],[v141=(v140.map Zl).length,(0:Int)≤v143,v143<((v141:Nat):Int),v141=(v140.map Zl).length,(v140.map Zl)[Int.toNat v143]?=some [.bool y152],y152=true,v141=(v140.map Zl).length,(0:Int)≤v143,v143<((v141:Nat):Int),v141=(v140.map Zl).length,(v140.map Zl)[Int.toNat v143]?=some [.bool y155]])) (zm) [0,1,5,6] [0] [(5,.cells [.bool y152]),(6,.bool true),(13,.cells [.bool y155])] kr (sound _ _) ⟨zt,hc151.1,z0,zt,(Zp (Zr _ hy152)),hb153,zt,hc154.1,z0,zt,(Zp (Zr _ hy155)),trivial⟩ ?_
 exact ⟨(v140.set (Int.toNat v143) true),v141,v150,kr,kr,zt,hF⟩ }
 {
 have hF:=Zh hF hb153
 obtain ⟨y156,hy156,hF⟩:=bind_some hF
 obtain ⟨hc157,hF⟩:=Zn hF
 obtain ⟨y158,hy158,hF⟩:=bind_some hF
 have z0:v143<((v141:Nat):Int):=(by have h_:=hc151.2;(try simp only [zl,Zf] at h_ ⊢);omega)
 refine WA.rm (α:=(List (List PV))) (raw:=((v140.map Zl).set (Int.toNat v143) (Zl y156))) (can:=((v140.set (Int.toNat v143) y156).map Zl)) (fun m_=>([(0,.val false [.arr 0 v141]),(1,one (.sl (v1.map Zl))),(5,one (.bool v150)),(6,one (.int .i64 v143))],[(0,.arr 1 m_)],[v141=(v140.map Zl).length,(0:Int)≤v143,v143<((v141:Nat):Int),v141=(v140.map Zl).length,(v140.map Zl)[Int.toNat v143]?=some [.bool y152],y152=false,idxL (v1.map Zl) v143=some [.bool y156],v141=(v140.map Zl).length,(0:Int)≤v143,v143<((v141:Nat):Int),v141=(v140.map Zl).length,(v140.map Zl)[Int.toNat v143]?=some [.bool y158]])) (zm) [0,1,5,6] [0] [(5,.cells [.bool y152]),(6,.bool false),(9,.cells [.bool y156]),(13,.cells [.bool y158])] kr (sound _ _) ⟨zt,hc151.1,z0,zt,(Zp (Zr _ hy152)),hb153,(Zr _ hy156),zt,hc157.1,z0,zt,(Zp (Zr _ hy158)),trivial⟩ ?_
 exact ⟨(v140.set (Int.toNat v143) y156),v141,v150,kr,kr,zt,hF⟩ } }
 {
 rcases Bool.eq_false_or_eq_true v142 with hb145 | hb145
 {
 have hF:=Zi hF hb145
 refine WA.reg [0,1,5,6] [0] [(1,.bool true)] (env':=[(0,.val false [.arr 0 v141]),(1,one (.sl (v1.map Zl))),(5,one (.bool true)),(6,one (.int .i64 v143))]) (os':=[(0,.arr 1 (v140.map Zl))]) (O:=[v142=true]) kr (sound _ _) ⟨hb145,trivial⟩ ?_
 exact ⟨true,kr,kr,hF⟩ }
 {
 have hF:=Zh hF hb145
 obtain ⟨y146,hy146,hF⟩:=bind_some hF
 rcases Bool.eq_false_or_eq_true y146 with hb147 | hb147
 {
 have hF:=Zi hF hb147
 obtain ⟨hc148,hF⟩:=Zn hF
 obtain ⟨y149,hy149,hF⟩:=bind_some hF
 refine WA.reg [0,1,5,6] [0] [(1,.bool false),(4,.cells [.bool y146]),(6,.bool true),(10,.cells [.bool y149])] (env':=[(0,.val false [.arr 0 v141]),(1,one (.sl (v1.map Zl))),(5,one (.bool (!y149))),(6,one (.int .i64 v143))]) (os':=[(0,.arr 1 (v140.map Zl))]) (O:=[v142=false,idxL (v1.map Zl) v143=some [.bool y146],y146=true,v141=(v140.map Zl).length,(0:Int)≤v143,v143<((v141:Nat):Int),v141=(v140.map Zl).length,(v140.map Zl)[Int.toNat v143]?=some [.bool y149]]) kr (sound _ _) ⟨hb145,(Zr _ hy146),hb147,zt,hc148.1,(by have h_:=hc148.2;(try simp only [zl,Zf] at h_ ⊢);omega),zt,(Zp (Zr _ hy149)),trivial⟩ ?_
 exact ⟨(!y149),kr,kr,hF⟩ }
 {
 have hF:=Zh hF hb147
 refine WA.reg [0,1,5,6] [0] [(1,.bool false),(4,.cells [.bool y146]),(6,.bool false)] (env':=[(0,.val false [.arr 0 v141]),(1,one (.sl (v1.map Zl))),(5,one (.bool false)),(6,one (.int .i64 v143))]) (os':=[(0,.arr 1 (v140.map Zl))]) (O:=[v142=false,idxL (v1.map Zl) v143=some [.bool y146],y146=false]) kr (sound _ _) ⟨hb145,(Zr _ hy146),hb147,trivial⟩ ?_
 exact ⟨false,kr,kr,hF⟩ } } } } }
  {
 have hF:=Zh hF hb144
 refine WA.exit ?_
 refine WA.seq ?_
 refine WA.reg [4] [0] [] (env':=[(4,one (.bool v142))]) (os':=[(0,.arr 1 (v140.map Zl))]) (O:=[]) kr (sound _ _) trivial ?_
 refine WA.ret ?_
 obtain rfl:=Option.some.inj hF
 exact Zq (one (.bool v142)) [.arr 1 (v140.map Zl)] kr kr kr kr (by decide) rfl rfl }
def F143 (k:Nat):Option (List Zb):=
  ((some ([(⟨0,55295⟩:Zb),(⟨57344,1114111⟩:Zb)]:List Zb)))
theorem Zn8 (k:Nat) (r:List Zb) (hF:F143 k=some r):Sim Tryz.prog GL0 143 [] [] (one (.sl (r.map Za))) []:=by
 refine ZB [] Tryz.func143 rfl kr kr ?_
 show WA _ _ 4 _ _ _
 refine WA.seq ?_
 refine WA.reg [] [] [] (env':=[]) (os':=[]) (O:=[]) kr (sound _ _) trivial ?_
 refine WA.seq ?_
 refine WA.reg [0] [] [] (env':=[(0,one (.sl (([(⟨0,55295⟩:Zb),(⟨57344,1114111⟩:Zb)]:List Zb).map Za)))]) (os':=[]) (O:=[]) kr (sound _ _) trivial ?_
 refine WA.ret ?_
 obtain rfl:=Option.some.inj hF
 exact Zq (one (.sl (([(⟨0,55295⟩:Zb),(⟨57344,1114111⟩:Zb)]:List Zb).map Za))) [] kr kr kr kr (by decide) rfl rfl
def Zgz (self11:(List Zb)→Int→Option (List Zb)) (v199:Int) (v207:List Zb):Option (List Zb):=
  self11 v207 (w64 (v199+1))
def Zju (self8:(List Zb)→Int→Option (List Zb)) (self11:(List Zb)→Int→Option (List Zb)) (v0:List Zb) (v1:List Zb) (v174:Int) (v197:List Zb) (v199:Int):Option (List Zb):=
  (cond (decide (v199<(v1.length:Int))) ((idxL v0 v174).bind fun y201=>(idxL v1 v199).bind fun y202=>(idxL v0 v174).bind fun y203=>(idxL v1 v199).bind fun y204=>((cond (decide ((mx y201.f_Lo y202.f_Lo)≤(mn y203.f_Hi y204.f_Hi))) (if v197.length+([(⟨(mx y201.f_Lo y202.f_Lo),(mn y203.f_Hi y204.f_Hi)⟩:Zb)]:List Zb).length≤1073741824 then (Zgz self11 v199 (v197 ++ ([(⟨(mx y201.f_Lo y202.f_Lo),(mn y203.f_Hi y204.f_Hi)⟩:Zb)]:List Zb))) else none) ((Zgz self11 v199 v197))))) ((self8 v197 (w64 (v174+1)))))
def ZeD (self8:(List Zb)→Int→Option (List Zb)) (v0:List Zb) (v1:List Zb) (v174:Int):Nat→(List Zb)→Int→Option (List Zb)
  | 0,_,_=>none
  | m_+1,v197,v199=>Zju self8 (ZeD self8 v0 v1 v174 m_) v0 v1 v174 v197 v199
def ZkZ (k:Nat) (self8:(List Zb)→Int→Option (List Zb)) (v0:List Zb) (v1:List Zb) (v172:List Zb) (v174:Int):Option (List Zb):=
  (cond (decide (v174<(v0.length:Int))) (((ZeD self8 v0 v1 v174 k v172 0))) (((some v172))))
def Zf7 (k:Nat) (v0:List Zb) (v1:List Zb):Nat→(List Zb)→Int→Option (List Zb)
  | 0,_,_=>none
  | m_+1,v172,v174=>ZkZ k (Zf7 k v0 v1 m_) v0 v1 v172 v174
def F190 (k:Nat) (v0:List Zb) (v1:List Zb):Option (List Zb):=
  (((Zf7 k v0 v1 k ([]:List Zb) 0)))
theorem Zol (k:Nat) (v0:List Zb) (v1:List Zb) (r:List Zb) (hF:F190 k v0 v1=some r):Sim Tryz.prog GL0 190 [one (.sl (v0.map Za)),one (.sl (v1.map Za))] [] (one (.sl (r.map Za))) []:=by
 refine ZB [] Tryz.func190 rfl kr kr ?_
 show WA _ _ 54 _ _ _
 refine WA.seq ?_
 refine WA.reg [0,1] [] [] (env':=[(0,one (.sl (v0.map Za))),(1,one (.sl (v1.map Za)))]) (os':=[]) (O:=[]) kr (sound _ _) trivial ?_
 refine WA.seq ?_
 refine WA.reg [0,1,5] [105] [(0,.obj 105)] (env':=[(0,one (.sl (v0.map Za))),(1,one (.sl (v1.map Za))),(5,.val false [.arr 105 0])]) (os':=[(105,.arr 2 (([]:List Zb).map Za))]) (O:=[]) kr (sound _ _) trivial ?_
 refine WA.seq ?_
 refine WA.seq ?_
 refine WA.reg [0,1,5,6] [105] [] (env':=[(0,one (.sl (v0.map Za))),(1,one (.sl (v1.map Za))),(5,.val false [.arr 105 0]),(6,one (.int .i64 0))]) (os':=[(105,.arr 2 (([]:List Zb).map Za))]) (O:=[]) kr (sound _ _) trivial ?_
 refine WA.block ?_
 refine WA.loop (fun m s_=>∃(v172:List Zb) (v173:Nat) (v174:Int),Zj s_.env [0,1,5,6]=[(0,one (.sl (v0.map Za))),(1,one (.sl (v1.map Za))),(5,.val false [.arr 105 v173]),(6,one (.int .i64 v174))]∧Zj s_.os [105]=[(105,.arr 2 (v172.map Za))]∧v173=(v172:List _).length∧Zf7 k v0 v1 m v172 v174=some r) k ⟨([]:List Zb),0,0,kr,kr,zt,hF⟩ ?_
 clear hF
 rintro m8 s_ ⟨v172,v173,v174,he,ho,hn_v173,hF⟩
 refine WA.keep _ _ he ho ?_
 clear he ho
 cases m8 with
 | zero=>cases hF
 | succ m8=>
  obtain ⟨self8,hself8⟩:∃g,g=Zf7 k v0 v1 m8:=⟨_,rfl⟩
  have hF:ZkZ k self8 v0 v1 v172 v174=some r:=by first | (rw [hself8];exact hF) | exact hF
  refine WA.seq ?_
  refine WA.seq ?_
  refine WA.rm (α:=Int) (raw:=((v0.map Za).length:Int)) (can:=(v0.length:Int)) (fun m_=>([(0,one (.sl (v0.map Za))),(1,one (.sl (v1.map Za))),(5,.val false [.arr 105 v173]),(6,one (.int .i64 v174)),(13,one (.bool (decide (v174<m_))))],[(105,.arr 2 (v172.map Za))],[])) ((by first | (simp only [zl,Zf];done) | (simp only [zl,Zf];omega) | omega)) [0,1,5,6,13] [105] [] kr (sound _ _) trivial ?_
  refine WA.cond (b:=(decide (v174<(v0.length:Int)))) rfl (fun hb175=>?_) (fun hb175=>?_)
  {
 have hF:=Zi hF hb175
 refine WA.skip ?_
 refine WA.seq ?_
 refine WA.block ?_
 refine WA.seq ?_
 refine WA.reg [0,1,5,6,7] [105] [] (env':=[(0,one (.sl (v0.map Za))),(1,one (.sl (v1.map Za))),(5,.val false [.arr 105 v173]),(6,one (.int .i64 v174)),(7,one (.int .i64 0))]) (os':=[(105,.arr 2 (v172.map Za))]) (O:=[]) kr (sound _ _) trivial ?_
 refine WA.block ?_
 refine WA.loop (fun m s_=>∃(v197:List Zb) (v198:Nat) (v199:Int),Zj s_.env [0,1,5,6,7]=[(0,one (.sl (v0.map Za))),(1,one (.sl (v1.map Za))),(5,.val false [.arr 105 v198]),(6,one (.int .i64 v174)),(7,one (.int .i64 v199))]∧Zj s_.os [105]=[(105,.arr 2 (v197.map Za))]∧v198=(v197:List _).length∧ZeD self8 v0 v1 v174 m v197 v199=some r) k ⟨v172,v173,0,kr,kr,zt,hF⟩ ?_
 clear hF
 rintro m11 s_ ⟨v197,v198,v199,he,ho,hn_v198,hF⟩
 refine WA.keep _ _ he ho ?_
 clear he ho
 cases m11 with
 | zero=>cases hF
 | succ m11=>
  obtain ⟨self11,hself11⟩:∃g,g=ZeD self8 v0 v1 v174 m11:=⟨_,rfl⟩
  have hF:Zju self8 self11 v0 v1 v174 v197 v199=some r:=by first | (rw [hself11];exact hF) | exact hF
  refine WA.seq ?_
  refine WA.seq ?_
  refine WA.rm (α:=Int) (raw:=((v1.map Za).length:Int)) (can:=(v1.length:Int)) (fun m_=>([(0,one (.sl (v0.map Za))),(1,one (.sl (v1.map Za))),(5,.val false [.arr 105 v198]),(6,one (.int .i64 v174)),(7,one (.int .i64 v199)),(19,one (.bool (decide (v199<m_))))],[(105,.arr 2 (v197.map Za))],[])) ((by first | (simp only [zl,Zf];done) | (simp only [zl,Zf];omega) | omega)) [0,1,5,6,7,19] [105] [] kr (sound _ _) trivial ?_
  refine WA.cond (b:=(decide (v199<(v1.length:Int)))) rfl (fun hb200=>?_) (fun hb200=>?_)
  {
 have hF:=Zi hF hb200
 refine WA.skip ?_
 refine WA.join (fun s_=>∃(v207:List Zb) (v208:Nat),Zj s_.env [0,1,5,6,7]=[(0,one (.sl (v0.map Za))),(1,one (.sl (v1.map Za))),(5,.val false [.arr 105 v208]),(6,one (.int .i64 v174)),(7,one (.int .i64 v199))]∧Zj s_.os [105]=[(105,.arr 2 (v207.map Za))]∧v208=(v207:List _).length∧Zgz self11 v199 v207=some r) ?_ ?_
 {
 rintro s_ ⟨v207,v208,he,ho,hn_v208,hF⟩
 refine WA.keep _ _ he ho ?_
 clear he ho
 refine WA.reg [0,1,5,6,7] [105] [] (env':=[(0,one (.sl (v0.map Za))),(1,one (.sl (v1.map Za))),(5,.val false [.arr 105 v208]),(6,one (.int .i64 v174)),(7,one (.int .i64 (w64 (v199+1))))]) (os':=[(105,.arr 2 (v207.map Za))]) (O:=[]) kr (sound _ _) trivial ?_
 exact ⟨m11,Nat.lt_succ_self _,v207,v208,(w64 (v199+1)),kr,kr,zt,by rw [hself11] at hF;exact hF⟩ }
 {
 refine WA.block ?_
 refine WA.seq ?_
 obtain ⟨y201,hy201,hF⟩:=bind_some hF
 obtain ⟨y202,hy202,hF⟩:=bind_some hF
 obtain ⟨y203,hy203,hF⟩:=bind_some hF
 obtain ⟨y204,hy204,hF⟩:=bind_some hF
 refine WA.regD kr [0,1,5,6,7,8,9] [105] [(2,.cells (Za y201)),(7,.cells (Za y202)),(13,.cells (Za y203)),(18,.cells (Za y204))] (env':=[(0,one (.sl (v0.map Za))),(1,one (.sl (v1.map Za))),(5,.val false [.arr 105 v198]),(6,one (.int .i64 v174)),(7,one (.int .i64 v199)),(8,one (.int .i64 (mx y201.f_Lo y202.f_Lo))),(9,one (.int .i64 (mn y203.f_Hi y204.f_Hi)))]) (os':=[(105,.arr 2 (v197.map Za))]) (O:=[idxL (v0.map Za) v174=some (Za y201),idxL (v1.map Za) v199=some (Za y202),idxL (v0.map Za) v174=some (Za y203),idxL (v1.map Za) v199=some (Za y204)]) kr kr (sound _ _) ⟨(Zr _ hy201),(Zr _ hy202),(Zr _ hy203),(Zr _ hy204),trivial⟩ ?_
 refine WA.seq ?_
 refine WA.reg [0,1,5,6,7,8,9,46] [105] [] (env':=[(0,one (.sl (v0.map Za))),(1,one (.sl (v1.map Za))),(5,.val false [.arr 105 v198]),(6,one (.int .i64 v174)),(7,one (.int .i64 v199)),(8,one (.int .i64 (mx y201.f_Lo y202.f_Lo))),(9,one (.int .i64 (mn y203.f_Hi y204.f_Hi))),(46,one (.bool (decide ((mx y201.f_Lo y202.f_Lo)≤(mn y203.f_Hi y204.f_Hi)))))]) (os':=[(105,.arr 2 (v197.map Za))]) (O:=[]) kr (sound _ _) trivial ?_
 refine WA.cond (b:=(decide ((mx y201.f_Lo y202.f_Lo)≤(mn y203.f_Hi y204.f_Hi)))) rfl (fun hb205=>?_) (fun hb205=>?_)
 {
 have hF:=Zi hF hb205
 obtain ⟨hc206,hF⟩:=Zn hF
 refine WA.rm (α:=(List (List PV))) (raw:=((v197.map Za) ++ (([(⟨(mx y201.f_Lo y202.f_Lo),(mn y203.f_Hi y204.f_Hi)⟩:Zb)]:List Zb).map Za))) (can:=((v197 ++ ([(⟨(mx y201.f_Lo y202.f_Lo),(mn y203.f_Hi y204.f_Hi)⟩:Zb)]:List Zb)).map Za)) (fun m_=>([(0,one (.sl (v0.map Za))),(1,one (.sl (v1.map Za))),(5,.val false [.arr 105 (v198+1)]),(6,one (.int .i64 v174)),(7,one (.int .i64 v199))],[(105,.arr 2 m_)],[v198=(v197.map Za).length,(v197.map Za).length+(([(⟨(mx y201.f_Lo y202.f_Lo),(mn y203.f_Hi y204.f_Hi)⟩:Zb)]:List Zb).map Za).length≤1073741824,∀es,es∈(([(⟨(mx y201.f_Lo y202.f_Lo),(mn y203.f_Hi y204.f_Hi)⟩:Zb)]:List Zb).map Za)→es.length=2])) (zm) [0,1,5,6,7] [105] [] kr (sound _ _) ⟨zt,(by first | exact hc206 | (simp only [List.length_map,Zf];exact hc206)),(Z8 ([(⟨(mx y201.f_Lo y202.f_Lo),(mn y203.f_Hi y204.f_Hi)⟩:Zb)]:List Zb)),trivial⟩ ?_
 exact ⟨(v197 ++ ([(⟨(mx y201.f_Lo y202.f_Lo),(mn y203.f_Hi y204.f_Hi)⟩:Zb)]:List Zb)),(v198+1),kr,kr,zt,hF⟩ }
 {
 have hF:=Zh hF hb205
 refine WA.skip ?_
 exact ⟨v197,v198,kr,kr,zt,hF⟩ } } }
  {
 have hF:=Zh hF hb200
 refine WA.exit ?_
 refine WA.reg [0,1,5,6] [105] [] (env':=[(0,one (.sl (v0.map Za))),(1,one (.sl (v1.map Za))),(5,.val false [.arr 105 v198]),(6,one (.int .i64 (w64 (v174+1))))]) (os':=[(105,.arr 2 (v197.map Za))]) (O:=[]) kr (sound _ _) trivial ?_
 exact ⟨m8,Nat.lt_succ_self _,v197,v198,(w64 (v174+1)),kr,kr,zt,by rw [hself8] at hF;exact hF⟩ } }
  {
 have hF:=Zh hF hb175
 refine WA.exit ?_
 refine WA.seq ?_
 refine WA.reg [4] [105] [] (env':=[(4,.val false [.arr 105 v173])]) (os':=[(105,.arr 2 (v172.map Za))]) (O:=[]) kr (sound _ _) trivial ?_
 refine WA.freeze 105 4 (s:=2) (n:=v173) (els:=(v172.map Za)) rfl rfl zt ?_
 refine WA.keep [4] [] (env':=[(4,one (.sl (v172.map Za)))]) (os':=[]) kr kr ?_
 refine WA.ret ?_
 obtain rfl:=Option.some.inj hF
 exact Zq (one (.sl (v172.map Za))) [] kr kr kr kr (by decide) rfl rfl }
def Zh9 (self2:(List Zb)→Int→Int→Option (List Zb)) (v0:List Zb) (v124:Int) (v130:List Zb):Option (List Zb):=
  (idxL v0 v124).bind fun y132=>(self2 v130 (w64 (y132.f_Hi+1)) (w64 (v124+1)))
def Zia (k:Nat) (v135:List Zb):Option (List Zb):=
  (F143 k).bind fun y138=>(F190 k v135 y138).bind fun y139=>(some y139)
def ZkW (k:Nat) (self2:(List Zb)→Int→Int→Option (List Zb)) (v0:List Zb) (v121:List Zb) (v123:Int) (v124:Int):Option (List Zb):=
  (cond (decide (v124<(v0.length:Int))) ((idxL v0 v124).bind fun y126=>(cond (decide (v123<y126.f_Lo)) ((idxL v0 v124).bind fun y128=>if v121.length+([(⟨v123,(w64 (y128.f_Lo-1))⟩:Zb)]:List Zb).length≤1073741824 then (Zh9 self2 v0 v124 (v121 ++ ([(⟨v123,(w64 (y128.f_Lo-1))⟩:Zb)]:List Zb))) else none) ((Zh9 self2 v0 v124 v121)))) (((cond (decide (v123≤1114111)) (if v121.length+([(⟨v123,1114111⟩:Zb)]:List Zb).length≤1073741824 then (Zia k (v121 ++ ([(⟨v123,1114111⟩:Zb)]:List Zb))) else none) ((Zia k v121))))))
def Zf5 (k:Nat) (v0:List Zb):Nat→(List Zb)→Int→Int→Option (List Zb)
  | 0,_,_,_=>none
  | m_+1,v121,v123,v124=>ZkW k (Zf5 k v0 m_) v0 v121 v123 v124
def F175 (k:Nat) (v0:List Zb):Option (List Zb):=
  ((((Zf5 k v0 k ([]:List Zb) 0 0))))
theorem ZpO (k:Nat) (v0:List Zb) (r:List Zb) (hF:F175 k v0=some r):Sim Tryz.prog GL0 175 [one (.sl (v0.map Za))] [] (one (.sl (r.map Za))) []:=by
 refine ZB [] Tryz.func175 rfl kr kr ?_
 show WA _ _ 46 _ _ _
 refine WA.seq ?_
 refine WA.reg [0] [] [] (env':=[(0,one (.sl (v0.map Za)))]) (os':=[]) (O:=[]) kr (sound _ _) trivial ?_
 refine WA.seq ?_
 refine WA.reg [0,3] [103] [(0,.obj 103)] (env':=[(0,one (.sl (v0.map Za))),(3,.val false [.arr 103 0])]) (os':=[(103,.arr 2 (([]:List Zb).map Za))]) (O:=[]) kr (sound _ _) trivial ?_
 refine WA.seq ?_
 refine WA.reg [0,3,4] [103] [] (env':=[(0,one (.sl (v0.map Za))),(3,.val false [.arr 103 0]),(4,one (.int .i64 0))]) (os':=[(103,.arr 2 (([]:List Zb).map Za))]) (O:=[]) kr (sound _ _) trivial ?_
 refine WA.seq ?_
 refine WA.seq ?_
 refine WA.reg [0,3,4,5] [103] [] (env':=[(0,one (.sl (v0.map Za))),(3,.val false [.arr 103 0]),(4,one (.int .i64 0)),(5,one (.int .i64 0))]) (os':=[(103,.arr 2 (([]:List Zb).map Za))]) (O:=[]) kr (sound _ _) trivial ?_
 refine WA.block ?_
 refine WA.loop (fun m s_=>∃(v121:List Zb) (v122:Nat) (v123:Int) (v124:Int),Zj s_.env [0,3,4,5]=[(0,one (.sl (v0.map Za))),(3,.val false [.arr 103 v122]),(4,one (.int .i64 v123)),(5,one (.int .i64 v124))]∧Zj s_.os [103]=[(103,.arr 2 (v121.map Za))]∧v122=(v121:List _).length∧Zf5 k v0 m v121 v123 v124=some r) k ⟨([]:List Zb),0,0,0,kr,kr,zt,hF⟩ ?_
 clear hF
 rintro m2 s_ ⟨v121,v122,v123,v124,he,ho,hn_v122,hF⟩
 refine WA.keep _ _ he ho ?_
 clear he ho
 cases m2 with
 | zero=>cases hF
 | succ m2=>
  obtain ⟨self2,hself2⟩:∃g,g=Zf5 k v0 m2:=⟨_,rfl⟩
  have hF:ZkW k self2 v0 v121 v123 v124=some r:=by first | (rw [hself2];exact hF) | exact hF
  refine WA.seq ?_
  refine WA.seq ?_
  refine WA.rm (α:=Int) (raw:=((v0.map Za).length:Int)) (can:=(v0.length:Int)) (fun m_=>([(0,one (.sl (v0.map Za))),(3,.val false [.arr 103 v122]),(4,one (.int .i64 v123)),(5,one (.int .i64 v124)),(9,one (.bool (decide (v124<m_))))],[(103,.arr 2 (v121.map Za))],[])) ((by first | (simp only [zl,Zf];done) | (simp only [zl,Zf];omega) | omega)) [0,3,4,5,9] [103] [] kr (sound _ _) trivial ?_
  refine WA.cond (b:=(decide (v124<(v0.length:Int)))) rfl (fun hb125=>?_) (fun hb125=>?_)
  {
 have hF:=Zi hF hb125
 refine WA.skip ?_
 refine WA.seq ?_
 refine WA.block ?_
 refine WA.join (fun s_=>∃(v130:List Zb) (v131:Nat),Zj s_.env [0,3,5]=[(0,one (.sl (v0.map Za))),(3,.val false [.arr 103 v131]),(5,one (.int .i64 v124))]∧Zj s_.os [103]=[(103,.arr 2 (v130.map Za))]∧v131=(v130:List _).length∧Zh9 self2 v0 v124 v130=some r) ?_ ?_
 {
 rintro s_ ⟨v130,v131,he,ho,hn_v131,hF⟩
 refine WA.keep _ _ he ho ?_
 clear he ho
 obtain ⟨y132,hy132,hF⟩:=bind_some hF
 refine WA.reg [0,3,4,5] [103] [(2,.cells (Za y132))] (env':=[(0,one (.sl (v0.map Za))),(3,.val false [.arr 103 v131]),(4,one (.int .i64 (w64 (y132.f_Hi+1)))),(5,one (.int .i64 v124))]) (os':=[(103,.arr 2 (v130.map Za))]) (O:=[idxL (v0.map Za) v124=some (Za y132)]) kr (sound _ _) ⟨(Zr _ hy132),trivial⟩ ?_
 refine WA.reg [0,3,4,5] [103] [] (env':=[(0,one (.sl (v0.map Za))),(3,.val false [.arr 103 v131]),(4,one (.int .i64 (w64 (y132.f_Hi+1)))),(5,one (.int .i64 (w64 (v124+1))))]) (os':=[(103,.arr 2 (v130.map Za))]) (O:=[]) kr (sound _ _) trivial ?_
 exact ⟨m2,Nat.lt_succ_self _,v130,v131,(w64 (y132.f_Hi+1)),(w64 (v124+1)),kr,kr,zt,by rw [hself2] at hF;exact hF⟩ }
 {
 refine WA.seq ?_
 obtain ⟨y126,hy126,hF⟩:=bind_some hF
 refine WA.reg [0,3,4,5,18] [103] [(3,.cells (Za y126))] (env':=[(0,one (.sl (v0.map Za))),(3,.val false [.arr 103 v122]),(4,one (.int .i64 v123)),(5,one (.int .i64 v124)),(18,one (.bool (decide (v123<y126.f_Lo))))]) (os':=[(103,.arr 2 (v121.map Za))]) (O:=[idxL (v0.map Za) v124=some (Za y126)]) kr (sound _ _) ⟨(Zr _ hy126),trivial⟩ ?_
 refine WA.cond (b:=(decide (v123<y126.f_Lo))) rfl (fun hb127=>?_) (fun hb127=>?_)
 {
 have hF:=Zi hF hb127
 obtain ⟨y128,hy128,hF⟩:=bind_some hF
 obtain ⟨hc129,hF⟩:=Zn hF
 refine WA.rm (α:=(List (List PV))) (raw:=((v121.map Za) ++ (([(⟨v123,(w64 (y128.f_Lo-1))⟩:Zb)]:List Zb).map Za))) (can:=((v121 ++ ([(⟨v123,(w64 (y128.f_Lo-1))⟩:Zb)]:List Zb)).map Za)) (fun m_=>([(0,one (.sl (v0.map Za))),(3,.val false [.arr 103 (v122+1)]),(5,one (.int .i64 v124))],[(103,.arr 2 m_)],[idxL (v0.map Za) v124=some (Za y128),v122=(v121.map Za).length,(v121.map Za).length+(([(⟨v123,(w64 (y128.f_Lo-1))⟩:Zb)]:List Zb).map Za).length≤1073741824,∀es,es∈(([(⟨v123,(w64 (y128.f_Lo-1))⟩:Zb)]:List Zb).map Za)→es.length=2])) (zm) [0,3,5] [103] [(4,.cells (Za y128))] kr (sound _ _) ⟨(Zr _ hy128),zt,(by first | exact hc129 | (simp only [List.length_map,Zf];exact hc129)),(Z8 ([(⟨v123,(w64 (y128.f_Lo-1))⟩:Zb)]:List Zb)),trivial⟩ ?_
 exact ⟨(v121 ++ ([(⟨v123,(w64 (y128.f_Lo-1))⟩:Zb)]:List Zb)),(v122+1),kr,kr,zt,hF⟩ }
 {
 have hF:=Zh hF hb127
 refine WA.skip ?_
 exact ⟨v121,v122,kr,kr,zt,hF⟩ } } }
  {
 have hF:=Zh hF hb125
 refine WA.exit ?_
 refine WA.join (fun s_=>∃(v135:List Zb) (v136:Nat),Zj s_.env [3]=[(3,.val false [.arr 103 v136])]∧Zj s_.os [103]=[(103,.arr 2 (v135.map Za))]∧v136=(v135:List _).length∧Zia k v135=some r) ?_ ?_
 {
 rintro s_ ⟨v135,v136,he,ho,hn_v136,hF⟩
 refine WA.keep _ _ he ho ?_
 clear he ho
 refine WA.seq ?_
 refine WA.freeze 103 3 (s:=2) (n:=v136) (els:=(v135.map Za)) rfl rfl zt ?_
 refine WA.keep [3] [] (env':=[(3,one (.sl (v135.map Za)))]) (os':=[]) kr kr ?_
 obtain ⟨y138,hy138,hF⟩:=bind_some hF
 obtain ⟨y139,hy139,hF⟩:=bind_some hF
 refine WA.reg [2] [] [(1,.callR [] (one (.sl (y138.map Za)))),(2,.callR [] (one (.sl (y139.map Za))))] (env':=[(2,one (.sl (y139.map Za)))]) (os':=[]) (O:=[Sim Tryz.prog GL0 143 [] [] (one (.sl (y138.map Za))) [],([]:List Nat).Nodup,Sim Tryz.prog GL0 190 [one (.sl (v135.map Za)),one (.sl (y138.map Za))] [] (one (.sl (y139.map Za))) [],([]:List Nat).Nodup]) kr (sound _ _) ⟨(Zn8 k _ hy138),(by decide),(Zol k _ _ _ hy139),(by decide),trivial⟩ ?_
 refine WA.ret ?_
 obtain rfl:=Option.some.inj hF
 exact Zq (one (.sl (y139.map Za))) [] kr kr kr kr (by decide) rfl rfl }
 {
 refine WA.seq ?_
 refine WA.reg [3,4,37] [103] [] (env':=[(3,.val false [.arr 103 v122]),(4,one (.int .i64 v123)),(37,one (.bool (decide (v123≤1114111))))]) (os':=[(103,.arr 2 (v121.map Za))]) (O:=[]) kr (sound _ _) trivial ?_
 refine WA.cond (b:=(decide (v123≤1114111))) rfl (fun hb133=>?_) (fun hb133=>?_)
 {
 have hF:=Zi hF hb133
 obtain ⟨hc134,hF⟩:=Zn hF
 refine WA.rm (α:=(List (List PV))) (raw:=((v121.map Za) ++ (([(⟨v123,1114111⟩:Zb)]:List Zb).map Za))) (can:=((v121 ++ ([(⟨v123,1114111⟩:Zb)]:List Zb)).map Za)) (fun m_=>([(3,.val false [.arr 103 (v122+1)])],[(103,.arr 2 m_)],[v122=(v121.map Za).length,(v121.map Za).length+(([(⟨v123,1114111⟩:Zb)]:List Zb).map Za).length≤1073741824,∀es,es∈(([(⟨v123,1114111⟩:Zb)]:List Zb).map Za)→es.length=2])) (zm) [3] [103] [] kr (sound _ _) ⟨zt,(by first | exact hc134 | (simp only [List.length_map,Zf];exact hc134)),(Z8 ([(⟨v123,1114111⟩:Zb)]:List Zb)),trivial⟩ ?_
 exact ⟨(v121 ++ ([(⟨v123,1114111⟩:Zb)]:List Zb)),(v122+1),kr,kr,zt,hF⟩ }
 {
 have hF:=Zh hF hb133
 refine WA.skip ?_
 exact ⟨v121,v122,kr,kr,zt,hF⟩ } } }
def F145 (k:Nat) (v0:Int):Option Ze:=
  ((some (⟨1,([(⟨v0,v0⟩:Zb)]:List Zb),([]:List Ze),0,0⟩:Ze)))
theorem ZpM (k:Nat) (v0:Int) (r:Ze) (hF:F145 k v0=some r):Sim Tryz.prog GL0 145 [one (.int .i64 v0)] [] (.val true (pvL (Zc r))) []:=by
 refine ZB [] Tryz.func145 rfl kr kr ?_
 show WA _ _ 8 _ _ _
 refine WA.seq ?_
 refine WA.reg [0,2] [102] [(0,.obj 102)] (env':=[(0,one (.int .i64 v0)),(2,.val false [.ptr 102 1 0 0])]) (os':=[(102,.box (pvL (Zc (⟨0,([]:List Zb),([]:List Ze),0,0⟩:Ze))))]) (O:=[]) kr (sound _ _) trivial ?_
 refine WA.seq ?_
 refine WA.reg [2] [102] [] (env':=[(2,.val false [.ptr 102 1 0 0])]) (os':=[(102,.box (pvL (Zc (⟨1,([(⟨v0,v0⟩:Zb)]:List Zb),([]:List Ze),0,0⟩:Ze))))]) (O:=[]) kr (sound _ _) trivial ?_
 refine WA.ret ?_
 obtain rfl:=Option.some.inj hF
 exact Zq (.val true (pvL (Zc (⟨1,([(⟨v0,v0⟩:Zb)]:List Zb),([]:List Ze),0,0⟩:Ze)))) [] kr kr kr kr (by decide) rfl rfl
def ZkV (self0:Int→Option Bool) (v0:List UInt8) (v1:Int) (v108:Int):Option Bool:=
  (cond (decide (v108<(v0.length:Int))) ((idxL v0 v108).bind fun y110=>(cond ((y110.toNat:Int) == v1) ((some true)) ((self0 (w64 (v108+1)))))) (((some false))))
def Zf0 (v0:List UInt8) (v1:Int):Nat→Int→Option Bool
  | 0,_=>none
  | m_+1,v108=>ZkV (Zf0 v0 v1 m_) v0 v1 v108
def F146 (k:Nat) (v0:List UInt8) (v1:Int):Option Bool:=
  ((Zf0 v0 v1 k 0))
theorem ZpN (k:Nat) (v0:List UInt8) (v1:Int) (r:Bool) (hF:F146 k v0 v1=some r):Sim Tryz.prog GL0 146 [one (.str v0),one (.int .u8 v1)] [] (one (.bool r)) []:=by
 refine ZB [] Tryz.func146 rfl kr kr ?_
 show WA _ _ 17 _ _ _
 refine WA.seq ?_
 refine WA.reg [0,1] [] [] (env':=[(0,one (.str v0)),(1,one (.int .u8 v1))]) (os':=[]) (O:=[]) kr (sound _ _) trivial ?_
 refine WA.seq ?_
 refine WA.seq ?_
 refine WA.reg [0,1,5] [] [] (env':=[(0,one (.str v0)),(1,one (.int .u8 v1)),(5,one (.int .i64 0))]) (os':=[]) (O:=[]) kr (sound _ _) trivial ?_
 refine WA.block ?_
 refine WA.loop (fun m s_=>∃(v108:Int),Zj s_.env [0,1,5]=[(0,one (.str v0)),(1,one (.int .u8 v1)),(5,one (.int .i64 v108))]∧Zj s_.os []=[]∧Zf0 v0 v1 m v108=some r) k ⟨0,kr,kr,hF⟩ ?_
 clear hF
 rintro m0 s_ ⟨v108,he,ho,hF⟩
 refine WA.keep _ _ he ho ?_
 clear he ho
 cases m0 with
 | zero=>cases hF
 | succ m0=>
  obtain ⟨self0,hself0⟩:∃g,g=Zf0 v0 v1 m0:=⟨_,rfl⟩
  have hF:ZkV self0 v0 v1 v108=some r:=by first | (rw [hself0];exact hF) | exact hF
  refine WA.seq ?_
  refine WA.seq ?_
  refine WA.reg [0,1,5,9] [] [] (env':=[(0,one (.str v0)),(1,one (.int .u8 v1)),(5,one (.int .i64 v108)),(9,one (.bool (decide (v108<(v0.length:Int)))))]) (os':=[]) (O:=[]) kr (sound _ _) trivial ?_
  refine WA.cond (b:=(decide (v108<(v0.length:Int)))) rfl (fun hb109=>?_) (fun hb109=>?_)
  {
 have hF:=Zi hF hb109
 refine WA.skip ?_
 refine WA.seq ?_
 refine WA.block ?_
 refine WA.seq ?_
 obtain ⟨y110,hy110,hF⟩:=bind_some hF
 refine WA.reg [0,1,5,16] [] [(2,.num (y110.toNat:Int))] (env':=[(0,one (.str v0)),(1,one (.int .u8 v1)),(5,one (.int .i64 v108)),(16,one (.bool ((y110.toNat:Int) == v1)))]) (os':=[]) (O:=[(idxL v0 v108).map (fun b=>(b.toNat:Int))=some (y110.toNat:Int)]) kr (sound _ _) ⟨(by rw [hy110];rfl),trivial⟩ ?_
 refine WA.cond (b:=((y110.toNat:Int) == v1)) rfl (fun hb111=>?_) (fun hb111=>?_)
 {
 have hF:=Zi hF hb111
 refine WA.seq ?_
 refine WA.reg [4] [] [] (env':=[(4,one (.bool true))]) (os':=[]) (O:=[]) kr (sound _ _) trivial ?_
 refine WA.ret ?_
 obtain rfl:=Option.some.inj hF
 exact Zq (one (.bool true)) [] kr kr kr kr (by decide) rfl rfl }
 {
 have hF:=Zh hF hb111
 refine WA.skip ?_
 refine WA.reg [0,1,5] [] [] (env':=[(0,one (.str v0)),(1,one (.int .u8 v1)),(5,one (.int .i64 (w64 (v108+1))))]) (os':=[]) (O:=[]) kr (sound _ _) trivial ?_
 exact ⟨m0,Nat.lt_succ_self _,(w64 (v108+1)),kr,kr,by rw [hself0] at hF;exact hF⟩ } }
  {
 have hF:=Zh hF hb109
 refine WA.exit ?_
 refine WA.seq ?_
 refine WA.reg [4] [] [] (env':=[(4,one (.bool false))]) (os':=[]) (O:=[]) kr (sound _ _) trivial ?_
 refine WA.ret ?_
 obtain rfl:=Option.some.inj hF
 exact Zq (one (.bool false)) [] kr kr kr kr (by decide) rfl rfl }
def Zg6 (k:Nat) (self0:(List Int)→Int→Option (List Int)) (v0:List UInt8) (v110:List Int) (v112:Int):Option (List Int):=
  (cond (decide (v112<(v0.length:Int))) ((F46 k v0 v112).bind fun y114=>(if v110.length+([y114.1]:List Int).length≤1073741824 then (self0 (v110 ++ ([y114.1]:List Int)) (w64 (v112+y114.2))) else none)) (((some v110))))
def ZdT (k:Nat) (v0:List UInt8):Nat→(List Int)→Int→Option (List Int)
  | 0,_,_=>none
  | m_+1,v110,v112=>Zg6 k (ZdT k v0 m_) v0 v110 v112
def F44 (k:Nat) (v0:List UInt8):Option (List Int):=
  (((ZdT k v0 k ([]:List Int) 0)))
theorem ZoV (k:Nat) (v0:List UInt8) (r:List Int) (hF:F44 k v0=some r):Sim Tryz.prog GL0 44 [one (.str v0)] [] (one (.sl (r.map (eInt .i64)))) []:=by
 refine ZB [] Tryz.func44 rfl kr kr ?_
 show WA _ _ 25 _ _ _
 refine WA.seq ?_
 refine WA.reg [0] [] [] (env':=[(0,one (.str v0))]) (os':=[]) (O:=[]) kr (sound _ _) trivial ?_
 refine WA.seq ?_
 refine WA.reg [0,3] [103] [(0,.obj 103)] (env':=[(0,one (.str v0)),(3,.val false [.arr 103 0])]) (os':=[(103,.arr 1 (([]:List Int).map (eInt .i64)))]) (O:=[]) kr (sound _ _) trivial ?_
 refine WA.seq ?_
 refine WA.seq ?_
 refine WA.reg [0,3,4] [103] [] (env':=[(0,one (.str v0)),(3,.val false [.arr 103 0]),(4,one (.int .i64 0))]) (os':=[(103,.arr 1 (([]:List Int).map (eInt .i64)))]) (O:=[]) kr (sound _ _) trivial ?_
 refine WA.block ?_
 refine WA.loop (fun m s_=>∃(v110:List Int) (v111:Nat) (v112:Int),Zj s_.env [0,3,4]=[(0,one (.str v0)),(3,.val false [.arr 103 v111]),(4,one (.int .i64 v112))]∧Zj s_.os [103]=[(103,.arr 1 (v110.map (eInt .i64)))]∧v111=(v110:List _).length∧ZdT k v0 m v110 v112=some r) k ⟨([]:List Int),0,0,kr,kr,zt,hF⟩ ?_
 clear hF
 rintro m0 s_ ⟨v110,v111,v112,he,ho,hn_v111,hF⟩
 refine WA.keep _ _ he ho ?_
 clear he ho
 cases m0 with
 | zero=>cases hF
 | succ m0=>
  obtain ⟨self0,hself0⟩:∃g,g=ZdT k v0 m0:=⟨_,rfl⟩
  have hF:Zg6 k self0 v0 v110 v112=some r:=by first | (rw [hself0];exact hF) | exact hF
  refine WA.seq ?_
  refine WA.seq ?_
  refine WA.reg [0,3,4,10] [103] [] (env':=[(0,one (.str v0)),(3,.val false [.arr 103 v111]),(4,one (.int .i64 v112)),(10,one (.bool (decide (v112<(v0.length:Int)))))]) (os':=[(103,.arr 1 (v110.map (eInt .i64)))]) (O:=[]) kr (sound _ _) trivial ?_
  refine WA.cond (b:=(decide (v112<(v0.length:Int)))) rfl (fun hb113=>?_) (fun hb113=>?_)
  {
 have hF:=Zi hF hb113
 refine WA.skip ?_
 refine WA.block ?_
 refine WA.seq ?_
 obtain ⟨y114,hy114,hF⟩:=bind_some hF
 refine WA.reg [0,3,4,5,6] [103] [(2,.callR [] (.tup [(false,[.pv (.int .i64 y114.1)]),(false,[.pv (.int .i64 y114.2)])]))] (env':=[(0,one (.str v0)),(3,.val false [.arr 103 v111]),(4,one (.int .i64 v112)),(5,one (.int .i64 y114.1)),(6,one (.int .i64 y114.2))]) (os':=[(103,.arr 1 (v110.map (eInt .i64)))]) (O:=[Sim Tryz.prog GL0 46 [one (.str v0),one (.int .i64 v112)] [] (.tup [(false,[.pv (.int .i64 y114.1)]),(false,[.pv (.int .i64 y114.2)])]) [],([]:List Nat).Nodup]) kr (sound _ _) ⟨(Zjz k _ _ _ hy114),(by decide),trivial⟩ ?_
 refine WA.seq ?_
 obtain ⟨hc115,hF⟩:=Zn hF
 refine WA.rm (α:=(List (List PV))) (raw:=((v110.map (eInt .i64)) ++ (([y114.1]:List Int).map (eInt .i64)))) (can:=((v110 ++ ([y114.1]:List Int)).map (eInt .i64))) (fun m_=>([(0,one (.str v0)),(3,.val false [.arr 103 (v111+1)]),(4,one (.int .i64 v112)),(6,one (.int .i64 y114.2))],[(103,.arr 1 m_)],[v111=(v110.map (eInt .i64)).length,(v110.map (eInt .i64)).length+(([y114.1]:List Int).map (eInt .i64)).length≤1073741824,∀es,es∈(([y114.1]:List Int).map (eInt .i64))→es.length=1])) (zm) [0,3,4,6] [103] [] kr (sound _ _) ⟨zt,(by first | exact hc115 | (simp only [List.length_map,Zf];exact hc115)),(Zcd _ _ _ (fun _=>rfl)),trivial⟩ ?_
 refine WA.reg [0,3,4] [103] [] (env':=[(0,one (.str v0)),(3,.val false [.arr 103 (v111+1)]),(4,one (.int .i64 (w64 (v112+y114.2))))]) (os':=[(103,.arr 1 ((v110 ++ ([y114.1]:List Int)).map (eInt .i64)))]) (O:=[]) kr (sound _ _) trivial ?_
 exact ⟨m0,Nat.lt_succ_self _,(v110 ++ ([y114.1]:List Int)),(v111+1),(w64 (v112+y114.2)),kr,kr,zt,by rw [hself0] at hF;exact hF⟩ }
  {
 have hF:=Zh hF hb113
 refine WA.exit ?_
 refine WA.seq ?_
 refine WA.reg [2] [103] [] (env':=[(2,.val false [.arr 103 v111])]) (os':=[(103,.arr 1 (v110.map (eInt .i64)))]) (O:=[]) kr (sound _ _) trivial ?_
 refine WA.freeze 103 2 (s:=1) (n:=v111) (els:=(v110.map (eInt .i64))) rfl rfl zt ?_
 refine WA.keep [2] [] (env':=[(2,one (.sl (v110.map (eInt .i64))))]) (os':=[]) kr kr ?_
 refine WA.ret ?_
 obtain rfl:=Option.some.inj hF
 exact Zq (one (.sl (v110.map (eInt .i64)))) [] kr kr kr kr (by decide) rfl rfl }
def F35 (k:Nat) (v0:Int):Option (List UInt8):=
  ((cond (decide (v0≥10)) (if (10:Int)≠0 then if (10:Int)≠0 then if (0:Int)≤(w64 (Int.tdiv v0 10))∧((w64 (Int.tdiv v0 10)):Int)≤(w64 ((w64 (Int.tdiv v0 10))+1))∧(w64 ((w64 (Int.tdiv v0 10))+1))≤(([48,49,50,51,52,53,54,55,56,57]:List UInt8).length:Int) then if (10:Int)≠0 then if (10:Int)≠0 then if (0:Int)≤(Int.tmod v0 10)∧((Int.tmod v0 10):Int)≤(w64 ((Int.tmod v0 10)+1))∧(w64 ((Int.tmod v0 10)+1))≤(([48,49,50,51,52,53,54,55,56,57]:List UInt8).length:Int) then if ((([48,49,50,51,52,53,54,55,56,57]:List UInt8).take (Int.toNat (w64 ((w64 (Int.tdiv v0 10))+1)))).drop (Int.toNat (w64 (Int.tdiv v0 10)))).length+((([48,49,50,51,52,53,54,55,56,57]:List UInt8).take (Int.toNat (w64 ((Int.tmod v0 10)+1)))).drop (Int.toNat (Int.tmod v0 10))).length≤4611686018427387904 then (some (((([48,49,50,51,52,53,54,55,56,57]:List UInt8).take (Int.toNat (w64 ((w64 (Int.tdiv v0 10))+1)))).drop (Int.toNat (w64 (Int.tdiv v0 10)))) ++ ((([48,49,50,51,52,53,54,55,56,57]:List UInt8).take (Int.toNat (w64 ((Int.tmod v0 10)+1)))).drop (Int.toNat (Int.tmod v0 10))))) else none else none else none else none else none else none else none) ((if (0:Int)≤v0∧(v0:Int)≤(w64 (v0+1))∧(w64 (v0+1))≤(([48,49,50,51,52,53,54,55,56,57]:List UInt8).length:Int) then (some ((([48,49,50,51,52,53,54,55,56,57]:List UInt8).take (Int.toNat (w64 (v0+1)))).drop (Int.toNat v0))) else none))))
theorem ZpT (k:Nat) (v0:Int) (r:List UInt8) (hF:F35 k v0=some r):Sim Tryz.prog GL0 35 [one (.int .i64 v0)] [] (one (.str r)) []:=by
 refine ZB [] Tryz.func35 rfl kr kr ?_
 show WA _ _ 22 _ _ _
 refine WA.seq ?_
 refine WA.reg [0] [] [] (env':=[(0,one (.int .i64 v0))]) (os':=[]) (O:=[]) kr (sound _ _) trivial ?_
 refine WA.seq ?_
 refine WA.seq ?_
 refine WA.reg [0,4] [] [] (env':=[(0,one (.int .i64 v0)),(4,one (.bool (decide (v0≥10))))]) (os':=[]) (O:=[]) kr (sound _ _) trivial ?_
 refine WA.cond (b:=(decide (v0≥10))) rfl (fun hb101=>?_) (fun hb101=>?_)
 {
 have hF:=Zi hF hb101
 refine WA.seq ?_
 obtain ⟨hc102,hF⟩:=Zn hF
 obtain ⟨hc103,hF⟩:=Zn hF
 obtain ⟨hc104,hF⟩:=Zn hF
 obtain ⟨hc105,hF⟩:=Zn hF
 obtain ⟨hc106,hF⟩:=Zn hF
 obtain ⟨hc107,hF⟩:=Zn hF
 obtain ⟨hc108,hF⟩:=Zn hF
 refine WA.regD kr [2] [] [] (env':=[(2,one (.str (((([48,49,50,51,52,53,54,55,56,57]:List UInt8).take (Int.toNat (w64 ((w64 (Int.tdiv v0 10))+1)))).drop (Int.toNat (w64 (Int.tdiv v0 10)))) ++ ((([48,49,50,51,52,53,54,55,56,57]:List UInt8).take (Int.toNat (w64 ((Int.tmod v0 10)+1)))).drop (Int.toNat (Int.tmod v0 10))))))]) (os':=[]) (O:=[(10:Int)≠0,(10:Int)≠0,(0:Int)≤(w64 (Int.tdiv v0 10)),((w64 (Int.tdiv v0 10)):Int)≤(w64 ((w64 (Int.tdiv v0 10))+1)),(w64 ((w64 (Int.tdiv v0 10))+1))≤(([48,49,50,51,52,53,54,55,56,57]:List UInt8).length:Int),(10:Int)≠0,(10:Int)≠0,(0:Int)≤(Int.tmod v0 10),((Int.tmod v0 10):Int)≤(w64 ((Int.tmod v0 10)+1)),(w64 ((Int.tmod v0 10)+1))≤(([48,49,50,51,52,53,54,55,56,57]:List UInt8).length:Int),((([48,49,50,51,52,53,54,55,56,57]:List UInt8).take (Int.toNat (w64 ((w64 (Int.tdiv v0 10))+1)))).drop (Int.toNat (w64 (Int.tdiv v0 10)))).length+((([48,49,50,51,52,53,54,55,56,57]:List UInt8).take (Int.toNat (w64 ((Int.tmod v0 10)+1)))).drop (Int.toNat (Int.tmod v0 10))).length≤4611686018427387904]) kr kr (sound _ _) ⟨hc102,hc103,hc104.1,hc104.2.1,hc104.2.2,hc105,hc106,hc107.1,hc107.2.1,hc107.2.2,hc108,trivial⟩ ?_
 refine WA.ret ?_
 obtain rfl:=Option.some.inj hF
 exact Zq (one (.str (((([48,49,50,51,52,53,54,55,56,57]:List UInt8).take (Int.toNat (w64 ((w64 (Int.tdiv v0 10))+1)))).drop (Int.toNat (w64 (Int.tdiv v0 10)))) ++ ((([48,49,50,51,52,53,54,55,56,57]:List UInt8).take (Int.toNat (w64 ((Int.tmod v0 10)+1)))).drop (Int.toNat (Int.tmod v0 10)))))) [] kr kr kr kr (by decide) rfl rfl }
 {
 have hF:=Zh hF hb101
 refine WA.skip ?_
 refine WA.seq ?_
 obtain ⟨hc109,hF⟩:=Zn hF
 refine WA.reg [2] [] [] (env':=[(2,one (.str ((([48,49,50,51,52,53,54,55,56,57]:List UInt8).take (Int.toNat (w64 (v0+1)))).drop (Int.toNat v0))))]) (os':=[]) (O:=[(0:Int)≤v0,(v0:Int)≤(w64 (v0+1)),(w64 (v0+1))≤(([48,49,50,51,52,53,54,55,56,57]:List UInt8).length:Int)]) kr (sound _ _) ⟨hc109.1,hc109.2.1,hc109.2.2,trivial⟩ ?_
 refine WA.ret ?_
 obtain rfl:=Option.some.inj hF
 exact Zq (one (.str ((([48,49,50,51,52,53,54,55,56,57]:List UInt8).take (Int.toNat (w64 (v0+1)))).drop (Int.toNat v0)))) [] kr kr kr kr (by decide) rfl rfl }
end Go.Proofs.YthilboheomikjaaGreatDoor
end
section
namespace Go.Proofs.YthilboheomikjaaGreatDoor
open Go.AL Go.Lib
set_option maxRecDepth 100000
mutual
def fs:Ze→Nat
  | ⟨k,st,l,a,b⟩=>1+max (l.length+4*st.length+40) (fsL l)
def fsL:List Ze→Nat
  | []=>0
  | x :: l=>max (fs x) (fsL l)
end
mutual
def sz:Ze→Int
  | ⟨k,st,l,a,b⟩=>if k=1 then 1 else if k=2∨k=3 then mn (szL l+1) 1000 else if k=4 then mn (szH l*mn (mx (if b<0 then w64 (a+1) else b) 1) 1000+1) 1000 else 1
def szL:List Ze→Int
  | []=>0
  | x :: l=>sz x+szL l
def szH:List Ze→Int
  | []=>0
  | x :: _=>sz x
end
mutual
def dp:Ze→Nat
  | ⟨k,st,l,a,b⟩=>1+dpL l
def dpL:List Ze→Nat
  | []=>0
  | x :: l=>max (dp x) (dpL l)
end
def OK0 (r:Ze):Prop:=(r.f_Kind=1∧(r.f_Min=0∧r.f_Max=0)∧r.f_L=[]∧Zcr r.f_Set)∨(r.f_Kind=2∧(r.f_Min=0∧r.f_Max=0)∧r.f_L.length≠1∧r.f_Set=[])∨
  (r.f_Kind=3∧(r.f_Min=0∧r.f_Max=0)∧1<r.f_L.length∧r.f_Set=[])∨(r.f_Kind=4∧r.f_L.length=1∧r.f_Set=[]∧0≤r.f_Min∧r.f_Min≤20∧r.f_Max≤20∧(r.f_Max = -1∨r.f_Min≤r.f_Max))
mutual
def OK:Ze→Prop
  | ⟨k,st,l,a,b⟩=>OK0 ⟨k,st,l,a,b⟩∧OKL l
def OKL:List Ze→Prop
  | []=>True
  | x :: l=>OK x∧OKL l
end
theorem ZcJ {l:List Ze} {x:Ze} (h:x∈l):fs x≤fsL l:=by
  induction l with
  | nil=>cases h
  | cons y l ih=>
    simp only [fsL]
    rcases List.mem_cons.1 h with rfl | h
    · omega
    · have:=ih h;omega
theorem Zk1 {l:List Ze}:OKL l↔∀x∈l,OK x:=by
  induction l with
  | nil=>simp [OKL]
  | cons y l ih=>simp only [OKL,ih,List.forall_mem_cons]
theorem Zfq {l:List Ze} {n:Nat}:dpL l≤n↔∀x∈l,dp x≤n:=by
  induction l with
  | nil=>simp [dpL]
  | cons y l ih=>simp only [dpL,List.forall_mem_cons,←ih];omega
theorem Zmu (r:Ze):1≤dp r:=by cases r;simp only [dp];omega
theorem Zlj {x:Int} (h:0≤x):1≤mn (x+1) 1000∧mn (x+1) 1000≤1000:=by unfold mn;split <;> omega
mutual
theorem ZbJ:∀r:Ze,1≤sz r∧sz r≤1000
  | ⟨k,st,l,a,b⟩=>by
    have h1:=ZcN l
    have h2:=ZoO l
    have h3:0≤szH l*mn (mx (if b<0 then w64 (a+1) else b) 1) 1000:=Int.mul_nonneg h2.1 (by unfold mn mx;split <;> split <;> omega)
    simp only [sz]
    split
    · omega
    · split
      · exact Zlj h1
      · split
        · exact Zlj h3
        · omega
theorem ZcN:∀l:List Ze,0≤szL l
  | []=>by simp [szL]
  | x :: l=>by
    have:=ZbJ x
    have:=ZcN l
    simp only [szL];omega
theorem ZoO:∀l:List Ze,0≤szH l∧szH l≤1000
  | []=>by simp [szH]
  | x :: l=>by
    have:=ZbJ x
    simp only [szH];omega
end
theorem ZpV (l:List Ze):szL l≤1000*l.length:=by
  induction l with
  | nil=>simp [szL]
  | cons x l ih=>
    have:=ZbJ x
    simp only [szL,List.length_cons];omega
theorem ZkB {R:Ze→Option Int} {v:Ze} (hk:v.f_Kind=2∨v.f_Kind=3) (hl:v.f_L.length≤1048576) (hR:∀x∈v.f_L,R x=some (sz x)):∀(l:List Ze) (n:Int) (i m:Nat),v.f_L.drop i=l→l.length<m→i≤v.f_L.length→0≤n→n≤1000→
    Zal R v m n (i:Int)=some (mn (mn (n+szL l) 1000+1) 1000)
  | [],n,i,m,hd,hm,hi,h0,h1=>by
    obtain ⟨m,rfl⟩:∃q,m=q+1:=⟨m-1,by simp at hm;omega⟩
    have:=Z4 hd
    show Zaa _ _ _ _ _=_
    unfold Zaa
    rw [df (by omega),cond_false,ZM (by omega),cond_false,ZM (by omega),cond_false,Zt (by omega) (by omega)]
    simp only [szL,Int.add_zero]
    congr 2
    unfold mn;split <;> omega
  | x :: l,n,i,m,hd,hm,hi,h0,h1=>by
    obtain ⟨m,rfl⟩:∃q,m=q+1:=⟨m-1,by omega⟩
    obtain ⟨g1,g2,g3⟩:=ZW hd
    rw [List.length_cons] at hm
    have hx:=hR x (List.mem_of_getElem? g2)
    have hs:=ZbJ x
    have hsl:=ZcN l
    have e5:Zbi R (Zal R v m) n (i:Int) x true=some (mn (mn (n+szL (x :: l)) 1000+1) 1000):=by
      unfold Zbi
      rw [cond_true,hx,Option.bind_some]
      unfold ZcT
      have hb:0≤mn (n+sz x) 1000∧mn (n+sz x) 1000≤1000:=by unfold mn;split <;> omega
      rw [Zab (by omega),Zt (x:=n+sz x) (by omega) (by omega),ZkB hk hl hR l _ (i+1) m g3 (by omega) (by omega) hb.1 hb.2]
      have:mn (mn (n+sz x) 1000+szL l) 1000=mn (n+szL (x :: l)) 1000:=by
        simp only [szL]
        unfold mn
        split <;> split <;> (try split) <;> omega
      rw [this]
    show Zaa R (Zal R v m) v n (i:Int)=_
    unfold Zaa
    rw [dt (by omega),cond_true,Zw,g2,Option.bind_some]
    rcases hk with hk | hk
    · rw [hk];exact e5
    · rw [hk];exact e5
theorem ZfO {R:Ze→Option Int} {v:Ze} (h2:v.f_Kind≠2) (h3:v.f_Kind≠3) (hl:v.f_L.length≤1048576):∀(l:List Ze) (n:Int) (i m:Nat),(v.f_Kind=4→0<i)→v.f_L.drop i=l→l.length<m→i≤v.f_L.length→
    Zal R v m n (i:Int)=cond (v.f_Kind == 1) (some 1) (cond (v.f_Kind == 4) (cond (decide (v.f_Max<0)) (ZbU n (w64 (v.f_Min+1))) (ZbU n v.f_Max)) (some (mn (w64 (n+1)) 1000)))
  | [],n,i,m,h4,hd,hm,hi=>by
    obtain ⟨m,rfl⟩:∃q,m=q+1:=⟨m-1,by simp at hm;omega⟩
    have:=Z4 hd
    show Zaa _ _ _ _ _=_
    unfold Zaa
    rw [df (by omega),cond_false]
  | x :: l,n,i,m,h4,hd,hm,hi=>by
    obtain ⟨m,rfl⟩:∃q,m=q+1:=⟨m-1,by omega⟩
    obtain ⟨g1,g2,g3⟩:=ZW hd
    rw [List.length_cons] at hm
    have e5:Zbi R (Zal R v m) n (i:Int) x false=Zal R v m n ((i+1:Nat):Int):=by
      unfold Zbi ZcT
      rw [cond_false,Zab (by omega)]
    have e6:=ZfO h2 h3 hl (R:=R) l n (i+1) m (fun _=>by omega) g3 (by omega) (by omega)
    show Zaa R (Zal R v m) v n (i:Int)=_
    unfold Zaa
    rw [dt (by omega),cond_true,Zw,g2,Option.bind_some,ZM h2,cond_false,ZM h3,cond_false]
    by_cases hk:v.f_Kind=4
    · have:=h4 hk
      rw [ZZ hk,cond_true,ZM (show ¬(i:Int)=0 by omega),e5,e6,ZZ hk]
    · rw [ZM hk,cond_false,e5,e6,ZM hk]
theorem Zkd {x y:Int} (h0:0≤x) (h1:x≤1000) (h2:1≤y) (h3:y≤1000):0≤x*y∧x*y≤1000000:=
  ⟨Int.mul_nonneg h0 (by omega),by have:=Int.mul_le_mul h1 h3 (by omega) (by omega:(0:Int)≤1000);omega⟩
theorem mnmx (t:Int):1≤mn (mx t 1) 1000∧mn (mx t 1) 1000≤1000:=by unfold mn mx;split <;> split <;> omega
theorem ZnZ {n t:Int} (h0:0≤n) (h1:n≤1000):ZbU n t=some (mn (n*mn (mx t 1) 1000+1) 1000):=by
  have h2:=mnmx t
  have h3:=Zkd h0 h1 h2.1 h2.2
  unfold ZbU
  rw [Zt (x:=n*_) (by omega) (by omega),Zt (by omega) (by omega)]
theorem Ziv:∀(k:Nat) (r:Ze),k≤1048576→fs r≤k→F32 k r=some (sz r)
  | 0,⟨kd,st,l,a,b⟩,_,hf=>by simp only [fs] at hf;omega
  | k+1,⟨kd,st,l,a,b⟩,hk,hf=>by
    simp only [fs] at hf
    have hR:∀x∈l,F32 k x=some (sz x):=fun x hx=>Ziv k x (by omega) (by have:=ZcJ hx;omega)
    show Zal (F32 k) ⟨kd,st,l,a,b⟩ k 0 0=_
    simp only [sz]
    by_cases h23:kd=2∨kd=3
    · have e:=ZkB (R:=F32 k) (v:=⟨kd,st,l,a,b⟩) h23 (by show l.length≤_;omega) hR l 0 0 k rfl (by omega) (Nat.zero_le _) (by omega) (by omega)
      have e':Zal (F32 k) ⟨kd,st,l,a,b⟩ k 0 0=_:=e
      have:=ZcN l
      rw [e',if_neg (by omega),if_pos h23]
      congr 1
      unfold mn
      split <;> split <;> (try split) <;> omega
    · rw [if_neg h23]
      by_cases h4:kd=4
      · subst h4
        rw [if_neg (by omega),if_pos rfl]
        have fin:∀n:Int,0≤n→n≤1000→cond ((4:Int) == 1) (some 1) (cond ((4:Int) == 4) (cond (decide (b<0)) (ZbU n (w64 (a+1))) (ZbU n b)) (some (mn (w64 (n+1)) 1000)))=some (mn (n*mn (mx (if b<0 then w64 (a+1) else b) 1) 1000+1) 1000):=fun n h0 h1=>by
          rw [ZM (by omega),cond_false,ZZ rfl,cond_true]
          by_cases hb:b<0
          · rw [dt hb,cond_true,ZnZ h0 h1,if_pos hb]
          · rw [df hb,cond_false,ZnZ h0 h1,if_neg hb]
        cases l with
        | nil=>
          obtain ⟨m,rfl⟩:∃q,k=q+1:=⟨k-1,by omega⟩
          show Zaa _ _ _ _ _=_
          unfold Zaa
          rw [df (by simp),cond_false]
          exact fin 0 (by omega) (by omega)
        | cons x l=>
          obtain ⟨m,rfl⟩:∃q,k=q+1:=⟨k-1,by omega⟩
          have hx:=hR x List.mem_cons_self
          have hs:=ZbJ x
          rw [List.length_cons] at hf
          have e:=ZfO (R:=F32 (m+1)) (v:=⟨4,st,x :: l,a,b⟩) (by show (4:Int)≠2;omega) (by show (4:Int)≠3;omega) (by show (x :: l).length≤_;rw [List.length_cons];omega) l (mn (sz x) 1000) 1 m (fun _=>by omega) rfl (by omega) (by simp)
          show Zaa (F32 (m+1)) (Zal (F32 (m+1)) ⟨4,st,x :: l,a,b⟩ m) ⟨4,st,x :: l,a,b⟩ 0 0=_
          unfold Zaa
          have e1:w64 ((0:Int)+1)=((1:Nat):Int):=by rw [Zt (by omega) (by omega)];rfl
          rw [dt (by simp),cond_true,ZeK,Option.bind_some]
          simp only [show ((4:Int) == 2)=false from rfl,show ((4:Int) == 3)=false from rfl,show ((4:Int) == 4)=true from rfl,show ((0:Int) == 0)=true from rfl,cond_true,cond_false]
          unfold Zbi ZcT
          rw [cond_true,hx,Option.bind_some,e1,Int.zero_add,Zt (x:=sz x) (by omega) (by omega),e]
          have e2:mn (sz x) 1000=sz x:=mn_l (by omega)
          rw [e2]
          exact fin _ (by omega) (by omega)
      · have e:=ZfO (R:=F32 k) (v:=⟨kd,st,l,a,b⟩) (by show kd≠2;omega) (by show kd≠3;omega) (by show l.length≤_;omega) l 0 0 k (fun h=>absurd h h4) rfl (by omega) (Nat.zero_le _)
        have e':Zal (F32 k) ⟨kd,st,l,a,b⟩ k 0 0=_:=e
        rw [e',if_neg h4]
        show cond (kd == 1) _ (cond (kd == 4) _ _)=_
        rw [ZM h4,cond_false]
        by_cases h1:kd=1
        · rw [ZZ h1,cond_true,if_pos h1]
        · rw [ZM h1,cond_false,if_neg h1,Zt (by omega) (by omega)];rfl
theorem Zjb {R:Ze→Option Int} {v:Ze} (hl:v.f_L.length≤1048576) (hR:∀x∈v.f_L,R x=some (sz x)):∀(l:List Ze) (n:Int) (i m:Nat),v.f_L.drop i=l→l.length<m→i≤v.f_L.length→0≤n→n≤1000*i→
    ZcR R v m n (i:Int)=some (mn (n+szL l+1) 1000)
  | [],n,i,m,hd,hm,hi,h0,h1=>by
    obtain ⟨m,rfl⟩:∃q,m=q+1:=⟨m-1,by simp at hm;omega⟩
    have:=Z4 hd
    show ZdG _ _ _ _ _=_
    unfold ZdG Zci
    rw [df (by omega),cond_false,Zt (by omega) (by omega)]
    simp only [szL,Int.add_zero]
  | x :: l,n,i,m,hd,hm,hi,h0,h1=>by
    obtain ⟨m,rfl⟩:∃q,m=q+1:=⟨m-1,by omega⟩
    obtain ⟨g1,g2,g3⟩:=ZW hd
    rw [List.length_cons] at hm
    have hx:=hR x (List.mem_of_getElem? g2)
    have hs:=ZbJ x
    show ZdG R (ZcR R v m) v n (i:Int)=_
    unfold ZdG
    rw [dt (by omega),cond_true,Zw,g2,Option.bind_some,hx,Option.bind_some,Zab (by omega),Zt (x:=n+sz x) (by omega) (by omega),Zjb hl hR l _ (i+1) m g3 (by omega) (by omega) (by omega) (by omega)]
    simp only [szL]
    rw [Int.add_assoc n]
theorem ZgQ:∀(k:Nat) (r:Ze),k≤1048576→fs r≤k→F20 k r=some (sz r)
  | 0,⟨kd,st,l,a,b⟩,_,hf=>by simp only [fs] at hf;omega
  | k+1,⟨kd,st,l,a,b⟩,hk,hf=>by
    simp only [fs] at hf
    have hR:∀x∈l,F20 k x=some (sz x):=fun x hx=>ZgQ k x (by omega) (by have:=ZcJ hx;omega)
    have e:=Zjb (R:=F20 k) (v:=⟨kd,st,l,a,b⟩) (by show l.length≤_;omega) hR l 0 0 k rfl (by omega) (Nat.zero_le _) (by omega) (by omega)
    have e':ZcR (F20 k) ⟨kd,st,l,a,b⟩ k 0 0=some (mn (0+szL l+1) 1000):=e
    rw [Int.zero_add] at e'
    show Zjh (F20 k) k ⟨kd,st,l,a,b⟩=_
    unfold Zjh ZgV
    simp only [sz]
    by_cases k1:kd=1
    · rw [ZZ k1,cond_true,if_pos k1]
    rw [ZM k1,cond_false,if_neg k1]
    by_cases k2:kd=2
    · rw [ZZ k2,cond_true,cond_true,if_pos (.inl k2)];exact e'
    rw [ZM k2,cond_false]
    by_cases k3:kd=3
    · rw [ZZ k3,cond_true,if_pos (.inr k3)];exact e'
    rw [ZM k3,cond_false,if_neg (by omega)]
    have j3:Zci 0=some 1:=rfl
    by_cases k4:kd=4
    · rw [ZZ k4,cond_true,if_pos k4]
      cases l with
      | nil=>
        rw [df (by simp),cond_false,j3]
        simp only [szH,Int.zero_mul];rfl
      | cons x l=>
        have hx:=hR x List.mem_cons_self
        have hs:=ZbJ x
        have fin:∀t,Ze1 (F20 k) ⟨kd,st,x :: l,a,b⟩ t=some (mn (szH (x :: l)*mn (mx t 1) 1000+1) 1000):=fun t=>by
          have h2:=mnmx t
          have h3:=Zkd (show 0≤sz x by omega) hs.2 h2.1 h2.2
          unfold Ze1 Zci
          simp only
          rw [ZeK,Option.bind_some,hx,Option.bind_some,Zt (x:=sz x*_) (by omega) (by omega),Zt (by omega) (by omega)]
          rfl
        rw [dt (by simp),cond_true,fin,fin]
        by_cases hb:b<0
        · rw [dt hb,cond_true,if_pos hb]
        · rw [df hb,cond_false,if_neg hb]
    · rw [ZM k4,cond_false,if_neg k4];rfl
end Go.Proofs.YthilboheomikjaaGreatDoor
end
section
namespace Go.Proofs.YthilboheomikjaaGreatDoor
open Go.AL Go.Lib
set_option maxRecDepth 100000
theorem Zn0 {d:Nat} (h:1≤d) (h2:d≤1000):w64 ((d:Int)-1)=((d-1:Nat):Int):=by rw [Zt (by omega) (by omega)];omega
theorem ZiS {R:Ze→Int→Option Bool} {k d:Nat} {v:Ze} {P:Ze→Prop} (hd1:1≤d) (hd2:d≤1000) (hl:v.f_L.length≤1048576) (hR:∀x∈v.f_L,∃t,R x ((d-1:Nat):Int)=some t∧(t=true↔P x)) {t0:Bool} {Q:Prop}
    (h0:cond (v.f_Min == 0) (ZaN k v (v.f_Max == 0)) (ZaN k v false)=some t0) (hQ:t0=true↔Q):∀(l:List Ze) (i m:Nat),v.f_L.drop i=l→l.length<m→i≤v.f_L.length→
    ∃t,Zcl R k v (d:Int) m (i:Int)=some t∧(t=true↔Q∧∀x∈l,P x)
  | [],i,m,hd,hm,hi=>by
    obtain ⟨m,rfl⟩:∃q,m=q+1:=⟨m-1,by simp at hm;omega⟩
    have:=Z4 hd
    refine ⟨t0,?_,by rw [hQ];simp⟩
    show Za2 _ _ _ _ _ _=_
    unfold Za2
    rw [df (by omega),cond_false,h0]
  | x :: l,i,m,hd,hm,hi=>by
    obtain ⟨m,rfl⟩:∃q,m=q+1:=⟨m-1,by omega⟩
    obtain ⟨g1,g2,g3⟩:=ZW hd
    rw [List.length_cons] at hm
    obtain ⟨t1,e1,p1⟩:=hR x (List.mem_of_getElem? g2)
    obtain ⟨t2,e2,p2⟩:=ZiS hd1 hd2 hl hR h0 hQ l (i+1) m g3 (by omega) (by omega)
    show ∃t,Za2 R k (Zcl R k v (d:Int) m) v (d:Int) (i:Int)=_∧_
    unfold Za2
    rw [dt (by omega),cond_true,Zw,g2,Option.bind_some,Zn0 hd1 hd2,e1,Option.bind_some,Zab (by omega),e2,List.forall_mem_cons]
    cases t1
    · exact ⟨false,rfl,by simp;intro _ h;exact absurd (p1.2 h) (by simp)⟩
    · exact ⟨t2,rfl,by rw [p2];exact ⟨fun h=>⟨h.1,p1.1 rfl,h.2⟩,fun h=>⟨h.1,h.2.2⟩⟩⟩
theorem len0 {α:Type} (l:List α):((l.length:Int) == 0)=decide (l=[]):=by cases l <;> simp;omega
theorem Znt {k:Nat} {v:Ze} (hs:v.f_Set.length≤262144) (hk:4*v.f_Set.length+40≤k):∃t,cond (v.f_Min == 0) (ZaN k v (v.f_Max == 0)) (ZaN k v false)=some t∧(t=true↔OK0 v):=by
  have eb:cond (v.f_Min == 0) (ZaN k v (v.f_Max == 0)) (ZaN k v false)=ZaN k v (decide (v.f_Min=0∧v.f_Max=0)):=by
    by_cases h:v.f_Min=0
    · rw [ZZ h,cond_true]
      by_cases h2:v.f_Max=0
      · rw [ZZ h2,dt ⟨h,h2⟩]
      · rw [ZM h2,df (fun c=>h2 c.2)]
    · rw [ZM h,cond_false,df (fun c=>h c.1)]
  rw [eb]
  unfold ZaN Zfc Zfd Zfe ZbY OK0
  by_cases k1:v.f_Kind=1
  · rw [ZZ k1,cond_true]
    have eq0:∀t:Bool,(t=true↔((v.f_Min=0∧v.f_Max=0)∧v.f_L=[]∧Zcr v.f_Set))→(t=true↔OK0 v):=fun t h=>by rw [h];unfold OK0;simp [k1]
    unfold OK0 at eq0
    by_cases hb:v.f_Min=0∧v.f_Max=0
    · rw [dt hb,cond_true,len0]
      by_cases hl:v.f_L=[]
      · rw [dt hl,cond_true]
        obtain ⟨l1,e1,p1,_⟩:=Zke (k:=k) (l:=v.f_Set) (by omega) (by omega)
        have hn:=Zkc l1
        have hp:=p1.length_eq
        obtain ⟨l2,e2,c2,i2,n2⟩:=Zlh (k:=k) (a:=mrgs l1) (by omega) (by omega)
        obtain ⟨t,e3,p3⟩:=Znp (k:=k) (a:=l2) (b:=v.f_Set) (by omega) (by omega)
        rw [e1,Option.bind_some,ZjD,Option.bind_some,e2,Option.bind_some,e3,Option.bind_some]
        refine ⟨t,rfl,eq0 t (p3.trans ⟨fun h=>⟨hb,hl,h ▸ c2⟩,fun h=>?_⟩)⟩
        have hc:=h.2.2
        have e4:=ZiY (k:=k) (by omega) (by omega) hc.bd hc.1
        rw [e1] at e4
        have e5:=Option.some.inj e4
        exact Znm c2 hc fun c=>by rw [i2,e5];exact ⟨fun h=>h.1,fun h=>⟨h,hc.2 c h⟩⟩
      · rw [df hl,cond_false]
        exact ⟨false,rfl,eq0 _ (by simp [hl])⟩
    · rw [df hb,cond_false]
      exact ⟨false,rfl,eq0 _ (by simp [hb])⟩
  rw [ZM k1,cond_false]
  by_cases k2:v.f_Kind=2
  · rw [ZZ k2,cond_true]
    by_cases hb:v.f_Min=0∧v.f_Max=0
    · rw [dt hb,cond_true]
      by_cases hl:v.f_L.length=1
      · rw [show ((v.f_L.length:Int) != 1)=false by simp [hl],cond_false]
        exact ⟨false,rfl,by simp [k1,k2,hl]⟩
      · rw [show ((v.f_L.length:Int) != 1)=true by simp;omega,cond_true,len0]
        exact ⟨_,rfl,by simp [k1,k2,hl,hb.1,hb.2]⟩
    · rw [df hb,cond_false]
      exact ⟨false,rfl,by simp [k1,k2,hb]⟩
  rw [ZM k2,cond_false]
  by_cases k3:v.f_Kind=3
  · rw [ZZ k3,cond_true]
    by_cases hb:v.f_Min=0∧v.f_Max=0
    · rw [dt hb,cond_true]
      by_cases hl:1<v.f_L.length
      · rw [dt (by omega),cond_true,len0]
        exact ⟨_,rfl,by simp [k1,k2,k3,hl,hb.1,hb.2]⟩
      · rw [df (by omega),cond_false]
        exact ⟨false,rfl,by simp [k1,k2,k3,hl]⟩
    · rw [df hb,cond_false]
      exact ⟨false,rfl,by simp [k1,k2,k3,hb]⟩
  rw [ZM k3,cond_false]
  by_cases k4:v.f_Kind=4
  · rw [ZZ k4,cond_true]
    by_cases hl:v.f_L.length=1
    · rw [show ((v.f_L.length:Int) == 1)=true by simp [hl],cond_true,len0]
      by_cases hs0:v.f_Set=[]
      · rw [dt hs0,cond_true]
        by_cases a1:0≤v.f_Min
        · rw [dt a1,cond_true]
          by_cases a2:v.f_Min≤20
          · rw [dt a2,cond_true]
            by_cases a3:v.f_Max≤20
            · rw [dt a3,cond_true]
              by_cases a4:v.f_Max = -1
              · rw [ZZ a4,cond_true]
                exact ⟨true,rfl,by simp [k4,hl,hs0,a1,a2,a3,a4]⟩
              · rw [ZM a4,cond_false]
                exact ⟨_,rfl,by simp [k1,k2,k3,k4,hl,hs0,a1,a2,a3,a4]⟩
            · rw [df a3,cond_false];exact ⟨false,rfl,by simp [k1,k2,k3,a3]⟩
          · rw [df a2,cond_false];exact ⟨false,rfl,by simp [k1,k2,k3,a2]⟩
        · rw [df a1,cond_false];exact ⟨false,rfl,by simp [k1,k2,k3,a1]⟩
      · rw [df hs0,cond_false];exact ⟨false,rfl,by simp [k1,k2,k3,hs0]⟩
    · rw [show ((v.f_L.length:Int) == 1)=false by simp;omega,cond_false];exact ⟨false,rfl,by simp [k1,k2,k3,hl]⟩
  rw [ZM k4,cond_false]
  exact ⟨false,rfl,by simp [k1,k2,k3,k4]⟩
theorem ZmF:∀(k:Nat) (r:Ze) (d:Nat),k≤1048576→fs r≤k→d≤1000→∃t,F52 k r (d:Int)=some t∧(t=true↔OK r∧dp r≤d)
  | 0,⟨kd,st,l,a,b⟩,d,_,hf,_=>by simp only [fs] at hf;omega
  | k+1,⟨kd,st,l,a,b⟩,d,hk,hf,hd=>by
    simp only [fs] at hf
    show ∃t,Zdc (F52 k) k ⟨kd,st,l,a,b⟩ (d:Int)=_∧_
    unfold Zdc
    by_cases h0:d=0
    · subst h0
      refine ⟨false,rfl,by simp;intro _;have:=Zmu ⟨kd,st,l,a,b⟩;omega⟩
    · rw [ZM (by omega),cond_false]
      obtain ⟨t0,e0,p0⟩:=Znt (k:=k) (v:=⟨kd,st,l,a,b⟩) (by show st.length≤_;omega) (by show 4*st.length+40≤k;omega)
      obtain ⟨t,e,p⟩:=ZiS (R:=F52 k) (k:=k) (d:=d) (v:=⟨kd,st,l,a,b⟩) (P:=fun x=>OK x∧dp x≤d-1) (by omega) hd (by show l.length≤_;omega) (fun x hx=>ZmF k x (d-1) (by omega) (by have:=ZcJ (show x∈l from hx);omega) (by omega)) e0 p0 l 0 k rfl (by omega) (Nat.zero_le _)
      refine ⟨t,e,p.trans ?_⟩
      simp only [OK,dp,Zk1]
      constructor
      · rintro ⟨h1,h2⟩
        have:dpL l≤d-1:=Zfq.2 fun x hx=>(h2 x hx).2
        exact ⟨⟨h1,fun x hx=>(h2 x hx).1⟩,by omega⟩
      · rintro ⟨⟨h1,h2⟩,h3⟩
        have:=Zfq.1 (show dpL l≤d-1 by omega)
        exact ⟨h1,fun x hx=>⟨h2 x hx,this x hx⟩⟩
theorem Zmk {k:Nat} {r:Ze} (hk:k≤1048576) (hf:fs r≤k):∃t,F30 k r=some t∧(t=true↔(OK r∧dp r≤16)∧sz r≤200):=by
  obtain ⟨t,e,p⟩:=ZmF k r 16 hk hf (by omega)
  have e':F52 k r 16=some t:=e
  unfold F30 ZdJ
  rw [e',Option.bind_some,Ziv k r hk hf,Option.bind_some]
  cases t
  · exact ⟨false,rfl,by simp;intro h1 h2;exact absurd (p.2 ⟨h1,h2⟩) (by simp)⟩
  · exact ⟨_,rfl,by simp [p.1 rfl]⟩
theorem ZiM {R:Ze→Int→Option Int} {n:Nat} {v:Ze} (hl:v.f_L.length≤1048576) (hn:n≤16) (hR:∀x∈v.f_L,∃t,R x ((n+1:Nat):Int)=some t∧((n+1:Nat):Int)≤t∧t≤17∧(t≤16↔n+1+dp x≤17)) :
    ∀(l:List Ze) (c:Int) (i m:Nat),v.f_L.drop i=l→l.length<m→i≤v.f_L.length→(n:Int)≤c→c≤17→∃t,ZdP R v (n:Int) m c (i:Int)=some t∧(n:Int)≤t∧t≤17∧(t≤16↔c≤16∧∀x∈l,n+1+dp x≤17)
  | [],c,i,m,hd,hm,hi,h0,h1=>by
    obtain ⟨m,rfl⟩:∃q,m=q+1:=⟨m-1,by simp at hm;omega⟩
    have:=Z4 hd
    refine ⟨c,?_,h0,h1,by simp⟩
    show ZdO _ _ _ _ _ _=_
    unfold ZdO
    rw [df (by omega),cond_false]
  | x :: l,c,i,m,hd,hm,hi,h0,h1=>by
    obtain ⟨m,rfl⟩:∃q,m=q+1:=⟨m-1,by omega⟩
    obtain ⟨g1,g2,g3⟩:=ZW hd
    rw [List.length_cons] at hm
    obtain ⟨t1,e1,a1,b1,p1⟩:=hR x (List.mem_of_getElem? g2)
    have hm1:(n:Int)≤mx c t1∧mx c t1≤17∧(mx c t1≤16↔c≤16∧t1≤16):=by unfold mx;split <;> omega
    obtain ⟨t2,e2,a2,b2,p2⟩:=ZiM hl hn hR l (mx c t1) (i+1) m g3 (by omega) (by omega) hm1.1 hm1.2.1
    refine ⟨t2,?_,a2,b2,by rw [p2,hm1.2.2,List.forall_mem_cons,p1,and_assoc]⟩
    show ZdO R (ZdP R v (n:Int) m) v (n:Int) c (i:Int)=_
    unfold ZdO
    rw [dt (by omega),cond_true,Zw,g2,Option.bind_some,Zab (by omega),e1,Option.bind_some,Zab (by omega),e2]
theorem Zk8:∀(k:Nat) (r:Ze) (n:Nat),k≤1048576→fs r≤k→n≤17→∃t,F42 k r (n:Int)=some t∧(n:Int)≤t∧t≤17∧(t≤16↔n+dp r≤17)
  | 0,⟨kd,st,l,a,b⟩,n,_,hf,_=>by simp only [fs] at hf;omega
  | k+1,⟨kd,st,l,a,b⟩,n,hk,hf,hn=>by
    simp only [fs] at hf
    show ∃t,Zjj (F42 k) k ⟨kd,st,l,a,b⟩ (n:Int)=_∧_
    unfold Zjj
    by_cases h17:n=17
    · subst h17
      exact ⟨17,rfl,by omega,by omega,by have:=Zmu ⟨kd,st,l,a,b⟩;omega⟩
    · rw [df (by omega),cond_false]
      obtain ⟨t,e,a1,b1,p⟩:=ZiM (R:=F42 k) (n:=n) (v:=⟨kd,st,l,a,b⟩) (by show l.length≤_;omega) (by omega) (fun x hx=>by
        obtain ⟨t,e,a1,b1,p⟩:=Zk8 k x (n+1) (by omega) (by have:=ZcJ (show x∈l from hx);omega) (by omega)
        exact ⟨t,e,a1,b1,p⟩) l (n:Int) 0 k rfl (by omega) (Nat.zero_le _) (by omega) (by omega)
      refine ⟨t,e,a1,b1,p.trans ?_⟩
      simp only [dp]
      constructor
      · rintro ⟨_,h⟩
        have:dpL l≤16-n:=Zfq.2 fun x hx=>by have:=h x hx;omega
        omega
      · intro h
        exact ⟨by omega,fun x hx=>by have:=Zfq.1 (Nat.le_refl (dpL l)) x hx;omega⟩
def Chk:Int→List Zb→Prop
  | _,[]=>True
  | b,r :: l=>ZD r.f_Lo∧ZD r.f_Hi∧r.f_Lo≤r.f_Hi∧¬(r.f_Lo<55296∧57343<r.f_Hi)∧b≤r.f_Lo∧Chk (r.f_Hi+2) l
theorem Zk4:∀{l:List Zb} {b:Int},Chk b l↔ZaA b l∧∀c,inR l c→ZD c
  | [],b=>⟨fun _=>⟨trivial,fun c h=>absurd h Zao⟩,fun _=>trivial⟩
  | r :: l,b=>by
    unfold Chk ZaA
    rw [Zk4 (l:=l)]
    unfold ZD
    constructor
    · rintro ⟨h1,h2,h3,h4,h5,h6,h7⟩
      refine ⟨⟨h5,h3,h6⟩,fun c hc=>?_⟩
      rcases ZH.1 hc with hc | hc
      · omega
      · exact h7 c hc
    · rintro ⟨⟨h5,h3,h6⟩,h7⟩
      have h1:=h7 r.f_Lo (ZH.2 (.inl ⟨Int.le_refl _,h3⟩))
      have h2:=h7 r.f_Hi (ZH.2 (.inl ⟨h3,Int.le_refl _⟩))
      refine ⟨h1,h2,h3,fun h=>?_,h5,h6,fun c hc=>h7 c (ZH.2 (.inr hc))⟩
      have:=h7 55296 (ZH.2 (.inl ⟨by omega,by omega⟩))
      omega
instance (c:Int):Decidable (ZD c):=by unfold ZD;infer_instance
theorem Zky {k:Nat} {v:Ze} (hs:v.f_Set.length≤1048576):∀(l:List Zb) (b:Int) (i m:Nat),v.f_Set.drop i=l→l.length<m→i≤v.f_Set.length→(i=0→b=0)→(0<i→∃p,v.f_Set[i-1]?=some p∧ZD p.f_Hi∧b=p.f_Hi+2)→
    ∃t,ZbW k v m (i:Int)=some t∧(t=true↔Chk b l∧v.f_L=[])
  | [],b,i,m,hd,hm,hi,hb0,hb=>by
    obtain ⟨m,rfl⟩:∃q,m=q+1:=⟨m-1,by simp at hm;omega⟩
    have:=Z4 hd
    refine ⟨decide (v.f_L=[]),?_,by simp [Chk]⟩
    show ZdQ _ _ _ _=_
    unfold ZdQ
    rw [df (by omega),cond_false,len0]
  | r :: l,b,i,m,hd,hm,hi,hb0,hb=>by
    obtain ⟨m,rfl⟩:∃q,m=q+1:=⟨m-1,by omega⟩
    obtain ⟨g1,g2,g3⟩:=ZW hd
    rw [List.length_cons] at hm
    show ∃t,ZdQ k (ZbW k v m) v (i:Int)=_∧_
    unfold ZdQ Zbz Chk
    rw [dt (by omega),cond_true,Zw,g2,Option.bind_some,ZjE,Option.bind_some]
    by_cases p1:ZD r.f_Lo
    · rw [dt p1,Bool.not_true,cond_false,ZjE,Option.bind_some]
      by_cases p2:ZD r.f_Hi
      · rw [dt p2,Bool.not_true,cond_false]
        by_cases p3:r.f_Lo≤r.f_Hi
        · rw [df (by omega),cond_false]
          obtain ⟨t,e,ht⟩:=Zky (k:=k) hs l (r.f_Hi+2) (i+1) m g3 (by omega) (by omega) (by omega) (fun _=>⟨r,g2,p2,rfl⟩)
          have fin:¬(r.f_Lo<55296∧57343<r.f_Hi)→∃t,cond (decide ((i:Int) > 0)) ((idxL v.f_Set (w64 ((i:Int)-1))).bind fun y152=>cond (decide (r.f_Lo≤(w64 (y152.f_Hi+1)))) (some false) (ZbW k v m (w64 ((i:Int)+1)))) (cond false (some false) (ZbW k v m (w64 ((i:Int)+1))))=some t∧
              (t=true↔(ZD r.f_Lo∧ZD r.f_Hi∧r.f_Lo≤r.f_Hi∧¬(r.f_Lo<55296∧57343<r.f_Hi)∧b≤r.f_Lo∧Chk (r.f_Hi+2) l)∧v.f_L=[]):=fun hx=>by
            rw [Zab (by omega)]
            by_cases hi0:i=0
            · have:=hb0 hi0
              rw [df (by omega),cond_false,cond_false]
              exact ⟨t,e,by rw [ht];exact ⟨fun h=>⟨⟨p1,p2,p3,hx,by have:=p1.1;omega,h.1⟩,h.2⟩,fun h=>⟨h.1.2.2.2.2.2,h.2⟩⟩⟩
            · obtain ⟨p,q1,q2,q3⟩:=hb (by omega)
              have q4:=q2.1
              have q5:=q2.2.1
              rw [dt (by omega),cond_true,Zt (by omega) (by omega),show (i:Int)-1=((i-1:Nat):Int) by omega,Zw,q1,Option.bind_some,Zt (x:=p.f_Hi+1) (by omega) (by omega)]
              by_cases hle:r.f_Lo≤p.f_Hi+1
              · rw [dt hle,cond_true]
                exact ⟨false,rfl,by simp;intro _ _ _ _ h;omega⟩
              · rw [df hle,cond_false]
                exact ⟨t,e,by rw [ht];exact ⟨fun h=>⟨⟨p1,p2,p3,hx,by omega,h.1⟩,h.2⟩,fun h=>⟨h.1.2.2.2.2.2,h.2⟩⟩⟩
          by_cases p4:r.f_Lo<55296
          · rw [dt p4,cond_true]
            by_cases p5:r.f_Hi > 57343
            · rw [dt p5,cond_true,cond_true]
              exact ⟨false,rfl,by simp;intro _ _ _ h;exact absurd (h p4) (by omega)⟩
            · rw [df p5,cond_false]
              exact fin (by omega)
          · rw [df p4,cond_false]
            exact fin (by omega)
        · rw [dt (by omega),cond_true,cond_true]
          exact ⟨false,rfl,by simp;intro _ _ h;omega⟩
      · rw [df p2,Bool.not_false,cond_true,cond_true]
        exact ⟨false,rfl,by simp [p2]⟩
    · rw [df p1,Bool.not_false,cond_true,cond_true]
      exact ⟨false,rfl,by simp [p1]⟩
theorem ZhS {R:Ze→Option Bool} {v:Ze} {P:Ze→Prop} (hl:v.f_L.length≤1048576) (hR:∀x∈v.f_L,∃t,R x=some t∧(t=true↔P x)):∀(l:List Ze) (i m:Nat),v.f_L.drop i=l→l.length<m→i≤v.f_L.length→
    ∃t,ZdS R v m (i:Int)=some t∧(t=true↔∀x∈l,P x)
  | [],i,m,hd,hm,hi=>by
    obtain ⟨m,rfl⟩:∃q,m=q+1:=⟨m-1,by simp at hm;omega⟩
    have:=Z4 hd
    refine ⟨true,?_,by simp⟩
    show ZdR _ _ _ _=_
    unfold ZdR
    rw [df (by omega),cond_false]
  | x :: l,i,m,hd,hm,hi=>by
    obtain ⟨m,rfl⟩:∃q,m=q+1:=⟨m-1,by omega⟩
    obtain ⟨g1,g2,g3⟩:=ZW hd
    rw [List.length_cons] at hm
    obtain ⟨t1,e1,p1⟩:=hR x (List.mem_of_getElem? g2)
    obtain ⟨t2,e2,p2⟩:=ZhS hl hR l (i+1) m g3 (by omega) (by omega)
    show ∃t,ZdR R (ZdS R v m) v (i:Int)=_∧_
    unfold ZdR
    rw [dt (by omega),cond_true,Zw,g2,Option.bind_some,e1,Option.bind_some,Zab (by omega),e2,List.forall_mem_cons]
    cases t1
    · exact ⟨false,rfl,by simp;intro h;exact absurd (p1.2 h) (by simp)⟩
    · exact ⟨t2,rfl,by rw [p2];exact ⟨fun h=>⟨p1.1 rfl,h⟩,fun h=>h.2⟩⟩
theorem Zkv:∀(k:Nat) (r:Ze),k≤1048576→fs r≤k→∃t,F43 k r=some t∧(t=true↔OK r)
  | 0,⟨kd,st,l,a,b⟩,_,hf=>by simp only [fs] at hf;omega
  | k+1,⟨kd,st,l,a,b⟩,hk,hf=>by
    simp only [fs] at hf
    obtain ⟨t,e,p⟩:=ZhS (R:=F43 k) (v:=⟨kd,st,l,a,b⟩) (P:=OK) (by show l.length≤_;omega) (fun x hx=>Zkv k x (by omega) (by have:=ZcJ (show x∈l from hx);omega)) l 0 k rfl (by omega) (Nat.zero_le _)
    have e':Zfa (F43 k) k ⟨kd,st,l,a,b⟩=some t:=e
    have pl:t=true↔OKL l:=p.trans Zk1.symm
    obtain ⟨ts,es,ps⟩:=Zky (k:=k) (v:=⟨kd,st,l,a,b⟩) (by show st.length≤_;omega) st 0 0 k rfl (by omega) (Nat.zero_le _) (fun _=>rfl) (fun h=>absurd h (by omega))
    have es':ZbW k ⟨kd,st,l,a,b⟩ k 0=some ts:=es
    have hcan:Chk 0 st↔Zcr st:=Zk4
    simp only [] at ps
    rw [hcan] at ps
    show ∃t,Zjk (F43 k) k ⟨kd,st,l,a,b⟩=_∧_
    have j0f:∀c:Bool,c=true→(¬OK ⟨kd,st,l,a,b⟩)→∃t,Za1 (F43 k) k ⟨kd,st,l,a,b⟩ c=some t∧(t=true↔OK ⟨kd,st,l,a,b⟩):=fun c hc hn=>by
      subst hc
      exact ⟨false,rfl,by simp [hn]⟩
    unfold Zjk
    by_cases k1:kd=1
    · subst k1
      simp only [show ((1:Int) != 1)=false from rfl,show ((1:Int) != 4)=true from rfl,cond_true,cond_false]
      by_cases ha:a=0
      · by_cases hb:b=0
        · rw [show (a != 0)=false by simp [ha],show (b != 0)=false by simp [hb],cond_false]
          unfold Za1
          simp only [show ((1:Int) == 1)=true from rfl,cond_true,cond_false]
          refine ⟨ts,es',ps.trans ?_⟩
          simp only [OK,OK0]
          constructor
          · rintro ⟨h1,h2⟩;exact ⟨.inl ⟨trivial,⟨ha,hb⟩,h2,h1⟩,by rw [h2];trivial⟩
          · rintro ⟨h | h | h | h,_⟩
            · exact ⟨h.2.2.2,h.2.2.1⟩
            all_goals exact absurd h.1 (by omega)
        · rw [show (a != 0)=false by simp [ha],cond_false]
          exact j0f _ (by simp [hb]) (by simp [OK,OK0,hb])
      · rw [show (a != 0)=true by simp [ha],cond_true]
        exact j0f _ rfl (by simp [OK,OK0,ha])
    · rw [show (kd != 1)=true by simp [k1],cond_true]
      by_cases hst:st=[]
      · subst hst
        rw [df (by simp),cond_false]
        by_cases k4:kd=4
        · subst k4
          simp only [show ((4:Int) != 4)=false from rfl,cond_false]
          unfold Za1 Zcj
          simp only [show ((4:Int) == 1)=false from rfl,show ((4:Int) == 2)=false from rfl,show ((4:Int) == 3)=false from rfl,show ((4:Int) == 4)=true from rfl,cond_true,cond_false]
          have eq4:OK ⟨4,[],l,a,b⟩↔(l.length=1∧0≤a∧a≤20∧b≤20∧(b = -1∨a≤b))∧OKL l:=by simp [OK,OK0]
          rw [eq4]
          by_cases c1:l.length=1
          · rw [show ((l.length:Int) != 1)=false by simp [c1],cond_false]
            by_cases c2:a<0
            · rw [dt c2,cond_true];exact ⟨false,rfl,by simp;omega⟩
            · rw [df c2,cond_false]
              by_cases c3:a > 20
              · rw [dt c3,cond_true];exact ⟨false,rfl,by simp;omega⟩
              · rw [df c3,cond_false]
                by_cases c4:b = -1
                · rw [show (b != -1)=false by simp [c4],cond_false]
                  exact ⟨t,e',pl.trans ⟨fun h=>⟨⟨c1,by omega,by omega,by omega,.inl c4⟩,h⟩,fun h=>h.2⟩⟩
                · rw [show (b != -1)=true by simp [c4],cond_true]
                  by_cases c5:b<a
                  · rw [dt c5,cond_true];exact ⟨false,rfl,by simp;omega⟩
                  · rw [df c5,cond_false]
                    by_cases c6:b > 20
                    · rw [dt c6,cond_true];exact ⟨false,rfl,by simp;omega⟩
                    · rw [df c6,cond_false]
                      exact ⟨t,e',pl.trans ⟨fun h=>⟨⟨c1,by omega,by omega,by omega,.inr (by omega)⟩,h⟩,fun h=>h.2⟩⟩
          · rw [show ((l.length:Int) != 1)=true by simp;omega,cond_true]
            exact ⟨false,rfl,by simp [c1]⟩
        · rw [show (kd != 4)=true by simp [k4],cond_true]
          by_cases ha:a=0
          · by_cases hb:b=0
            · subst ha;subst hb
              rw [show ((0:Int) != 0)=false from rfl,cond_false]
              unfold Za1
              rw [cond_false,ZM k1,cond_false]
              by_cases k2:kd=2
              · subst k2
                have eq2:OK ⟨2,[],l,0,0⟩↔l.length≠1∧OKL l:=by simp [OK,OK0]
                rw [eq2,ZZ rfl,cond_true]
                by_cases c1:l.length=1
                · rw [ZZ (by simp [c1]),cond_true];exact ⟨false,rfl,by simp [c1]⟩
                · rw [ZM (by simp;omega),cond_false];exact ⟨t,e',pl.trans ⟨fun h=>⟨c1,h⟩,fun h=>h.2⟩⟩
              rw [ZM k2,cond_false]
              by_cases k3:kd=3
              · subst k3
                have eq3:OK ⟨3,[],l,0,0⟩↔1<l.length∧OKL l:=by simp [OK,OK0]
                rw [eq3,ZZ rfl,cond_true]
                by_cases c1:1<l.length
                · rw [df (by simp;omega),cond_false];exact ⟨t,e',pl.trans ⟨fun h=>⟨c1,h⟩,fun h=>h.2⟩⟩
                · rw [dt (by simp;omega),cond_true];exact ⟨false,rfl,by simp [c1]⟩
              rw [ZM k3,cond_false,ZM k4,cond_false]
              exact ⟨false,rfl,by simp [OK,OK0,k1,k2,k3,k4]⟩
            · rw [show (a != 0)=false by simp [ha],cond_false]
              exact j0f _ (by simp [hb]) (by simp [OK,OK0,hb,k4])
          · rw [show (a != 0)=true by simp [ha],cond_true]
            exact j0f _ rfl (by simp [OK,OK0,ha,k4])
      · rw [dt (by have:=List.length_pos_iff.2 hst;show (0:Int)<_;simp only;omega),cond_true]
        exact j0f _ rfl (by simp [OK,OK0,hst,k1])
theorem Zlp {k:Nat} {r:Ze} (hk:k≤1048576) (hf:fs r≤k):∃t,F22 k r=some t∧(t=true↔(OK r∧dp r≤16)∧sz r≤200):=by
  obtain ⟨d,e1,_,_,p1⟩:=Zk8 k r 1 hk hf (by omega)
  have e1':F42 k r 1=some d:=e1
  obtain ⟨t,e2,p2⟩:=Zkv k r hk hf
  unfold F22 Ze2
  rw [e1',Option.bind_some,e2,Option.bind_some,ZgQ k r hk hf,Option.bind_some]
  by_cases h:d≤16
  · have h1:=p1.1 h
    rw [dt h,cond_true]
    cases t
    · exact ⟨false,rfl,by simp;intro h;exact absurd (p2.2 h) (by simp)⟩
    · exact ⟨_,rfl,by simp [p2.1 rfl];omega⟩
  · have h1:=mt p1.2 h
    rw [df h,cond_false]
    exact ⟨false,rfl,by simp;intro _ _;omega⟩
theorem Zj5 {R:Ze→Int→Option Int} {d:Nat} {B:Int} {v:Ze} {P:Ze→Prop} (hB:B≤1000000000) (hd1:1≤d) (hd2:d≤1000) (hl:v.f_L.length≤1048576) (hR:∀x∈v.f_L,∃t,R x ((d-1:Nat):Int)=some t∧1≤t∧t≤B∧(t≤300→P x)) :
    ∀(l:List Ze) (c:Int) (i m:Nat),v.f_L.drop i=l→l.length<m→i≤v.f_L.length→1≤c→c≤1000+B→∃t,ZdN R v (d:Int) m c (i:Int)=some t∧c≤t∧t≤1000+B∧(t≤300→∀x∈l,P x)
  | [],c,i,m,hd,hm,hi,h0,h1=>by
    obtain ⟨m,rfl⟩:∃q,m=q+1:=⟨m-1,by simp at hm;omega⟩
    have:=Z4 hd
    refine ⟨c,?_,by omega,h1,by simp⟩
    show ZdM _ _ _ _ _ _=_
    unfold ZdM Ze9
    rw [df (by omega),cond_false,cond_false]
  | x :: l,c,i,m,hd,hm,hi,h0,h1=>by
    obtain ⟨m,rfl⟩:∃q,m=q+1:=⟨m-1,by omega⟩
    obtain ⟨g1,g2,g3⟩:=ZW hd
    rw [List.length_cons] at hm
    show ∃t,ZdM R (ZdN R v (d:Int) m) v (d:Int) c (i:Int)=_∧_
    unfold ZdM Ze9
    rw [dt (by omega),cond_true]
    by_cases hc:c<1000
    · obtain ⟨t1,e1,a1,b1,p1⟩:=hR x (List.mem_of_getElem? g2)
      obtain ⟨t2,e2,a2,b2,p2⟩:=Zj5 hB hd1 hd2 hl hR l (c+t1) (i+1) m g3 (by omega) (by omega) (by omega) (by omega)
      rw [dt hc,cond_true,Zw,g2,Option.bind_some,Zn0 hd1 hd2,e1,Option.bind_some,Zab (by omega),Zt (x:=c+t1) (by omega) (by omega),e2]
      exact ⟨t2,rfl,by omega,b2,fun h=>List.forall_mem_cons.2 ⟨p1 (by omega),p2 h⟩⟩
    · rw [df hc,cond_false]
      exact ⟨c,rfl,by omega,h1,fun h=>by omega⟩
theorem Zmx:∀(d k:Nat) (r:Ze),d≤30→d+320≤k→∃t,F41 k r (d:Int)=some t∧1≤t∧t≤1000*(d+1)∧(t≤300→fs r≤d+1540∧dp r≤d)
  | d,0,_,_,hk=>by omega
  | 0,k+1,r,_,_=>⟨1000,rfl,by omega,by omega,fun h=>by omega⟩
  | d+1,k+1,⟨kd,st,l,a,b⟩,hd,hk=>by
    show ∃t,Zji (F41 k) k ⟨kd,st,l,a,b⟩ ((d+1:Nat):Int)=_∧_
    unfold Zji Ze8
    simp only
    rw [ZM (by omega),cond_false]
    by_cases c1:l.length > 300
    · rw [dt (by omega),cond_true,cond_true]
      exact ⟨1000,rfl,by omega,by omega,fun h=>by omega⟩
    rw [df (by omega),cond_false]
    by_cases c2:st.length > 300
    · rw [dt (by omega),cond_true]
      exact ⟨1000,rfl,by omega,by omega,fun h=>by omega⟩
    rw [df (by omega),cond_false,Zt (by omega) (by omega)]
    obtain ⟨t,e,a1,b1,p1⟩:=Zj5 (R:=F41 k) (d:=d+1) (B:=1000*(d+1)) (v:=⟨kd,st,l,a,b⟩) (P:=fun x=>fs x≤d+1540∧dp x≤d) (by omega) (by omega) (by omega) (by show l.length≤_;omega) (fun x hx=>by
      obtain ⟨t,e,a1,b1,p1⟩:=Zmx d k x (by omega) (by omega)
      exact ⟨t,e,a1,b1,p1⟩) l (1+(st.length:Int)) 0 k rfl (by omega) (Nat.zero_le _) (by omega) (by omega)
    refine ⟨t,e,by omega,by omega,fun h=>?_⟩
    have hp:=p1 h
    have h1:fsL l≤d+1540:=by
      clear e a1 b1 p1 c1
      induction l with
      | nil=>simp [fsL]
      | cons x l ih=>
        simp only [fsL]
        have:=(hp x List.mem_cons_self).1
        have:=ih fun y hy=>hp y (List.mem_cons_of_mem _ hy)
        omega
    have h2:dpL l≤d:=Zfq.2 fun x hx=>(hp x hx).2
    simp only [fs,dp]
    omega
theorem Zo4 {k:Nat} (hk:350≤k) (r:Ze):∃t,F21 k r=some t∧(t=true→fs r≤1570):=by
  obtain ⟨t,e,a1,b1,p1⟩:=Zmx 30 k r (by omega) (by omega)
  have e':F41 k r 30=some t:=e
  unfold F21
  rw [e',Option.bind_some]
  exact ⟨_,rfl,fun h=>by have:=(p1 (of_decide_eq_true h)).1;omega⟩
end Go.Proofs.YthilboheomikjaaGreatDoor
end
section
namespace Go.Proofs.YthilboheomikjaaGreatDoor
open Go.AL
set_option maxRecDepth 100000
def Zfb (self2:(List Bool)→Int→Option (List Bool)) (v130:Int) (v140:List Bool):Option (List Bool):=
  self2 v140 (w64 (v130+1))
def Zg7 (k:Nat) (self2:(List Bool)→Int→Option (List Bool)) (v0:Ze) (v1:List Int) (v2:List Bool) (v128:List Bool) (v130:Int):Option (List Bool):=
  (cond (decide (v130<(v1.length:Int))) ((idxL v2 v130).bind fun y132=>cond y132 ((idxL v1 v130).bind fun y134=>(F68 k v0.f_Set y134).bind fun y135=>if (0:Int)≤(w64 (v130+1))∧(w64 (v130+1))<(v128.length:Int) then (idxL v128 (w64 (v130+1))).bind fun y137=>(Zfb self2 v130 (v128.set (Int.toNat (w64 (v130+1))) y135)) else none) (if (0:Int)≤(w64 (v130+1))∧(w64 (v130+1))<(v128.length:Int) then (idxL v128 (w64 (v130+1))).bind fun y139=>(Zfb self2 v130 (v128.set (Int.toNat (w64 (v130+1))) false)) else none)) (((some v128))))
def ZbX (k:Nat) (v0:Ze) (v1:List Int) (v2:List Bool):Nat→(List Bool)→Int→Option (List Bool)
  | 0,_,_=>none
  | m_+1,v128,v130=>Zg7 k (ZbX k v0 v1 v2 m_) v0 v1 v2 v128 v130
def ZdU (R45:Ze→(List Int)→(List Bool)→Option (List Bool)) (k:Nat) (self4:(List Bool)→Int→Option (List Bool)) (v0:Ze) (v1:List Int) (v2:List Bool) (v156:List Bool) (v158:Int):Option (List Bool):=
  (cond (decide (v158<(v0.f_L.length:Int))) ((idxL v0.f_L v158).bind fun y160=>(R45 y160 v1 v2).bind fun y161=>(F69 k v156 y161).bind fun y162=>if y162.2.length=v156.length then (self4 y162.2 (w64 (v158+1))) else none) (((some v156))))
def ZdW (R45:Ze→(List Int)→(List Bool)→Option (List Bool)) (k:Nat) (v0:Ze) (v1:List Int) (v2:List Bool):Nat→(List Bool)→Int→Option (List Bool)
  | 0,_,_=>none
  | m_+1,v156,v158=>ZdU R45 k (ZdW R45 k v0 v1 v2 m_) v0 v1 v2 v156 v158
def ZdV (R45:Ze→(List Int)→(List Bool)→Option (List Bool)) (self5:(List Bool)→Int→Option (List Bool)) (v0:Ze) (v1:List Int) (v2:List Bool) (v173:List Bool) (v174:Int):Option (List Bool):=
  (cond (decide (v174<(v0.f_L.length:Int))) ((idxL v0.f_L v174).bind fun y176=>(R45 y176 v1 v173).bind fun y177=>(self5 y177 (w64 (v174+1)))) ((if (0:Int)≤0∧0≤((List.replicate (Int.toNat (v2.length:Int)) false).length:Int) then if ((List.replicate (Int.toNat (v2.length:Int)) false).take (Int.toNat 0)).length+v173.length≤1073741824 then (some (((List.replicate (Int.toNat (v2.length:Int)) false).take (Int.toNat 0)) ++ v173)) else none else none)))
def ZdX (R45:Ze→(List Int)→(List Bool)→Option (List Bool)) (v0:Ze) (v1:List Int) (v2:List Bool):Nat→(List Bool)→Int→Option (List Bool)
  | 0,_,_=>none
  | m_+1,v173,v174=>ZdV R45 (ZdX R45 v0 v1 v2 m_) v0 v1 v2 v173 v174
def Zha (v222:List Bool):Option (List Bool):=
  (some v222)
def Zg9 (R45:Ze→(List Int)→(List Bool)→Option (List Bool)) (k:Nat) (self7:(List Bool)→(List Bool)→Int→Option (List Bool)) (v0:Ze) (v1:List Int) (v212:List Bool) (v214:List Bool) (v215:Int):Option (List Bool):=
  (cond (v215 != v0.f_Max) ((idxL v0.f_L 0).bind fun y217=>(R45 y217 v1 v214).bind fun y218=>(F69 k v212 y218).bind fun y219=>if y219.2.length=v212.length then (cond (!y219.1) ((Zha y219.2)) ((self7 y219.2 y218 (w64 (v215+1))))) else none) ((Zha v212)))
def ZdZ (R45:Ze→(List Int)→(List Bool)→Option (List Bool)) (k:Nat) (v0:Ze) (v1:List Int):Nat→(List Bool)→(List Bool)→Int→Option (List Bool)
  | 0,_,_,_=>none
  | m_+1,v212,v214,v215=>Zg9 R45 k (ZdZ R45 k v0 v1 m_) v0 v1 v212 v214 v215
def Zg8 (R45:Ze→(List Int)→(List Bool)→Option (List Bool)) (k:Nat) (self6:(List Bool)→Int→Option (List Bool)) (v0:Ze) (v1:List Int) (v2:List Bool) (v189:List Bool) (v190:Int):Option (List Bool):=
  (cond (decide (v190<v0.f_Min)) ((idxL v0.f_L 0).bind fun y192=>(R45 y192 v1 v189).bind fun y193=>(self6 y193 (w64 (v190+1)))) ((F69 k (List.replicate (Int.toNat (v2.length:Int)) false) v189).bind fun y194=>if y194.2.length=(List.replicate (Int.toNat (v2.length:Int)) false).length then ((ZdZ R45 k v0 v1 k y194.2 v189 v0.f_Min)) else none))
def ZdY (R45:Ze→(List Int)→(List Bool)→Option (List Bool)) (k:Nat) (v0:Ze) (v1:List Int) (v2:List Bool):Nat→(List Bool)→Int→Option (List Bool)
  | 0,_,_=>none
  | m_+1,v189,v190=>Zg8 R45 k (ZdY R45 k v0 v1 v2 m_) v0 v1 v2 v189 v190
def Zjl (R45:Ze→(List Int)→(List Bool)→Option (List Bool)) (k:Nat) (v0:Ze) (v1:List Int) (v2:List Bool):Option (List Bool):=
  (if (0:Int)≤(v2.length:Int)∧((v2.length:Int):Int)≤1073741824 then (((cond (v0.f_Kind == 1) ((ZbX k v0 v1 v2 k (List.replicate (Int.toNat (v2.length:Int)) false) 0)) ((cond (v0.f_Kind == 3) ((ZdW R45 k v0 v1 v2 k (List.replicate (Int.toNat (v2.length:Int)) false) 0)) ((cond (v0.f_Kind == 2) (((ZdX R45 v0 v1 v2 k v2 0))) ((if ([]:List Bool).length+v2.length≤1073741824 then ((ZdY R45 k v0 v1 v2 k (([]:List Bool) ++ v2) 0)) else none))))))))) else none)
theorem Zm8 (R45:Ze→(List Int)→(List Bool)→Option (List Bool)) (IH45:∀(v0:Ze) (v1:List Int) (v2:List Bool) (r:List Bool),R45 v0 v1 v2=some r→Sim Tryz.prog GL0 45 [.val true (pvL (Zc v0)),one (.sl (v1.map (eInt .i64))),one (.sl (v2.map Zl))] [] (one (.sl (r.map Zl))) []) (k:Nat) (v0:Ze) (v1:List Int) (v2:List Bool) (r:List Bool) (hF:Zjl R45 k v0 v1 v2=some r):Sim Tryz.prog GL0 45 [.val true (pvL (Zc v0)),one (.sl (v1.map (eInt .i64))),one (.sl (v2.map Zl))] [] (one (.sl (r.map Zl))) []:=by
 refine ZB [] Tryz.func45 rfl kr kr ?_
 show WA _ _ 127 _ _ _
 refine WA.seq ?_
 refine WA.reg [1,2,3] [103] [(0,.obj 103)] (env':=[(1,one (.sl (v1.map (eInt .i64)))),(2,one (.sl (v2.map Zl))),(3,.val false [.ptr 103 1 0 0])]) (os':=[(103,.box (pvL (Zc v0)))]) (O:=[]) kr (sound _ _) trivial ?_
 refine WA.seq ?_
 obtain ⟨hc101,hF⟩:=Zn hF
 refine WA.rm (α:=Int×(List (List PV))) (raw:=(((v2.map Zl).length:Int),(List.replicate (Int.toNat ((v2.map Zl).length:Int)) (Zl false)))) (can:=((v2.length:Int),((List.replicate (Int.toNat (v2.length:Int)) false).map Zl))) (fun m_=>([(1,one (.sl (v1.map (eInt .i64)))),(2,one (.sl (v2.map Zl))),(3,.val false [.ptr 103 1 0 0]),(7,.val false [.arr 117 (Int.toNat m_.1)])],[(103,.box (pvL (Zc v0))),(117,.arr 1 m_.2)],[(m_.1:Int)=m_.1,(0:Int)≤m_.1,(m_.1:Int)≤1073741824])) (ZE (by first | (simp only [zl,Zf];done) | (simp only [zl,Zf];omega) | omega) zm) [1,2,3,7] [103,117] [(2,.obj 117)] kr (sound _ _) ⟨rfl,hc101.1,hc101.2,trivial⟩ ?_
 refine WA.seq ?_
 refine WA.seq ?_
 refine WA.reg [1,2,3,7,19] [103,117] [] (env':=[(1,one (.sl (v1.map (eInt .i64)))),(2,one (.sl (v2.map Zl))),(3,.val false [.ptr 103 1 0 0]),(7,.val false [.arr 117 (Int.toNat (v2.length:Int))]),(19,one (.int .i64 v0.f_Kind))]) (os':=[(103,.box (pvL (Zc v0))),(117,.arr 1 ((List.replicate (Int.toNat (v2.length:Int)) false).map Zl))]) (O:=[]) kr (sound _ _) trivial ?_
 refine WA.block ?_
 refine WA.seq ?_
 refine WA.reg [1,2,3,7,19,20] [103,117] [] (env':=[(1,one (.sl (v1.map (eInt .i64)))),(2,one (.sl (v2.map Zl))),(3,.val false [.ptr 103 1 0 0]),(7,.val false [.arr 117 (Int.toNat (v2.length:Int))]),(19,one (.int .i64 v0.f_Kind)),(20,one (.bool (v0.f_Kind == 1)))]) (os':=[(103,.box (pvL (Zc v0))),(117,.arr 1 ((List.replicate (Int.toNat (v2.length:Int)) false).map Zl))]) (O:=[]) kr (sound _ _) trivial ?_
 refine WA.cond (b:=(v0.f_Kind == 1)) rfl (fun hb102=>?_) (fun hb102=>?_)
 {
 have hF:=Zi hF hb102
 refine WA.seq ?_
 refine WA.seq ?_
 refine WA.reg [1,2,3,7,8] [103,117] [] (env':=[(1,one (.sl (v1.map (eInt .i64)))),(2,one (.sl (v2.map Zl))),(3,.val false [.ptr 103 1 0 0]),(7,.val false [.arr 117 (Int.toNat (v2.length:Int))]),(8,one (.int .i64 0))]) (os':=[(103,.box (pvL (Zc v0))),(117,.arr 1 ((List.replicate (Int.toNat (v2.length:Int)) false).map Zl))]) (O:=[]) kr (sound _ _) trivial ?_
 refine WA.block ?_
 refine WA.loop (fun m s_=>∃(v128:List Bool) (v129:Nat) (v130:Int),Zj s_.env [1,2,3,7,8]=[(1,one (.sl (v1.map (eInt .i64)))),(2,one (.sl (v2.map Zl))),(3,.val false [.ptr 103 1 0 0]),(7,.val false [.arr 117 v129]),(8,one (.int .i64 v130))]∧Zj s_.os [103,117]=[(103,.box (pvL (Zc v0))),(117,.arr 1 (v128.map Zl))]∧v129=(v128:List _).length∧ZbX k v0 v1 v2 m v128 v130=some r) k ⟨(List.replicate (Int.toNat (v2.length:Int)) false),(Int.toNat (v2.length:Int)),0,kr,kr,zt,hF⟩ ?_
 clear hF
 rintro m2 s_ ⟨v128,v129,v130,he,ho,hn_v129,hF⟩
 refine WA.keep _ _ he ho ?_
 clear he ho
 cases m2 with
 | zero=>cases hF
 | succ m2=>
  obtain ⟨self2,hself2⟩:∃g,g=ZbX k v0 v1 v2 m2:=⟨_,rfl⟩
  have hF:Zg7 k self2 v0 v1 v2 v128 v130=some r:=by first | (rw [hself2];exact hF) | exact hF
  refine WA.seq ?_
  refine WA.seq ?_
  refine WA.rm (α:=Int) (raw:=((v1.map (eInt .i64)).length:Int)) (can:=(v1.length:Int)) (fun m_=>([(1,one (.sl (v1.map (eInt .i64)))),(2,one (.sl (v2.map Zl))),(3,.val false [.ptr 103 1 0 0]),(7,.val false [.arr 117 v129]),(8,one (.int .i64 v130)),(25,one (.bool (decide (v130<m_))))],[(103,.box (pvL (Zc v0))),(117,.arr 1 (v128.map Zl))],[])) ((by first | (simp only [zl,Zf];done) | (simp only [zl,Zf];omega) | omega)) [1,2,3,7,8,25] [103,117] [] kr (sound _ _) trivial ?_
  refine WA.cond (b:=(decide (v130<(v1.length:Int)))) rfl (fun hb131=>?_) (fun hb131=>?_)
  {
 have hF:=Zi hF hb131
 refine WA.skip ?_
 refine WA.join (fun s_=>∃(v140:List Bool) (v141:Nat),Zj s_.env [1,2,3,7,8]=[(1,one (.sl (v1.map (eInt .i64)))),(2,one (.sl (v2.map Zl))),(3,.val false [.ptr 103 1 0 0]),(7,.val false [.arr 117 v141]),(8,one (.int .i64 v130))]∧Zj s_.os [103,117]=[(103,.box (pvL (Zc v0))),(117,.arr 1 (v140.map Zl))]∧v141=(v140:List _).length∧Zfb self2 v130 v140=some r) ?_ ?_
 {
 rintro s_ ⟨v140,v141,he,ho,hn_v141,hF⟩
 refine WA.keep _ _ he ho ?_
 clear he ho
 refine WA.reg [1,2,3,7,8] [103,117] [] (env':=[(1,one (.sl (v1.map (eInt .i64)))),(2,one (.sl (v2.map Zl))),(3,.val false [.ptr 103 1 0 0]),(7,.val false [.arr 117 v141]),(8,one (.int .i64 (w64 (v130+1))))]) (os':=[(103,.box (pvL (Zc v0))),(117,.arr 1 (v140.map Zl))]) (O:=[]) kr (sound _ _) trivial ?_
 exact ⟨m2,Nat.lt_succ_self _,v140,v141,(w64 (v130+1)),kr,kr,zt,by rw [hself2] at hF;exact hF⟩ }
 {
 refine WA.block ?_
 obtain ⟨y132,hy132,hF⟩:=bind_some hF
 rcases Bool.eq_false_or_eq_true y132 with hb133 | hb133
 {
 have hF:=Zi hF hb133
 obtain ⟨y134,hy134,hF⟩:=bind_some hF
 obtain ⟨y135,hy135,hF⟩:=bind_some hF
 obtain ⟨hc136,hF⟩:=Zn hF
 obtain ⟨y137,hy137,hF⟩:=bind_some hF
 refine WA.rdm (α:=(List (List PV))) (raw:=((v128.map Zl).set (Int.toNat (w64 (v130+1))) (Zl y135))) (can:=((v128.set (Int.toNat (w64 (v130+1))) y135).map Zl)) (fun m_=>([(1,one (.sl (v1.map (eInt .i64)))),(2,one (.sl (v2.map Zl))),(3,.val false [.ptr 103 1 0 0]),(7,.val false [.arr 117 v129]),(8,one (.int .i64 v130))],[(103,.box (pvL (Zc v0))),(117,.arr 1 m_)],[idxL (v2.map Zl) v130=some [.bool y132],y132=true,idxL (v1.map (eInt .i64)) v130=some [.int .i64 y134],Sim Tryz.prog GL0 68 [one (.sl (v0.f_Set.map Za)),one (.int .i64 y134)] [] (one (.bool y135)) [],([]:List Nat).Nodup,v129=(v128.map Zl).length,(0:Int)≤(w64 (v130+1)),(w64 (v130+1))<((v129:Nat):Int),v129=(v128.map Zl).length,(v128.map Zl)[Int.toNat (w64 (v130+1))]?=some [.bool y137]])) (zm) [1,2,3,7,8] [103,117] [(5,.cells [.bool y132]),(7,.bool true),(12,.cells [.int .i64 y134]),(14,.callR [] (one (.bool y135))),(17,.cells [.bool y137])] kr kr kr (sound _ _) ⟨(Zr _ hy132),hb133,(Zr _ hy134),(Zo0 k _ _ _ hy135),(by decide),zt,hc136.1,(by have h_:=hc136.2;(try simp only [zl,Zf] at h_ ⊢);omega),zt,(Zp (Zr _ hy137)),trivial⟩ ?_
 exact ⟨(v128.set (Int.toNat (w64 (v130+1))) y135),v129,kr,kr,zt,hF⟩ }
 {
 have hF:=Zh hF hb133
 obtain ⟨hc138,hF⟩:=Zn hF
 obtain ⟨y139,hy139,hF⟩:=bind_some hF
 refine WA.rdm (α:=(List (List PV))) (raw:=((v128.map Zl).set (Int.toNat (w64 (v130+1))) (Zl false))) (can:=((v128.set (Int.toNat (w64 (v130+1))) false).map Zl)) (fun m_=>([(1,one (.sl (v1.map (eInt .i64)))),(2,one (.sl (v2.map Zl))),(3,.val false [.ptr 103 1 0 0]),(7,.val false [.arr 117 v129]),(8,one (.int .i64 v130))],[(103,.box (pvL (Zc v0))),(117,.arr 1 m_)],[idxL (v2.map Zl) v130=some [.bool y132],y132=false,v129=(v128.map Zl).length,(0:Int)≤(w64 (v130+1)),(w64 (v130+1))<((v129:Nat):Int),v129=(v128.map Zl).length,(v128.map Zl)[Int.toNat (w64 (v130+1))]?=some [.bool y139]])) (zm) [1,2,3,7,8] [103,117] [(5,.cells [.bool y132]),(7,.bool false),(17,.cells [.bool y139]),(14,.callR [] (.tup []))] kr kr kr (sound _ _) ⟨(Zr _ hy132),hb133,zt,hc138.1,(by have h_:=hc138.2;(try simp only [zl,Zf] at h_ ⊢);omega),zt,(Zp (Zr _ hy139)),trivial⟩ ?_
 exact ⟨(v128.set (Int.toNat (w64 (v130+1))) false),v129,kr,kr,zt,hF⟩ } } }
  {
 have hF:=Zh hF hb131
 refine WA.exit ?_
 refine WA.seq ?_
 refine WA.reg [6] [117] [] (env':=[(6,.val false [.arr 117 v129])]) (os':=[(117,.arr 1 (v128.map Zl))]) (O:=[]) kr (sound _ _) trivial ?_
 refine WA.freeze 117 6 (s:=1) (n:=v129) (els:=(v128.map Zl)) rfl rfl zt ?_
 refine WA.keep [6] [] (env':=[(6,one (.sl (v128.map Zl)))]) (os':=[]) kr kr ?_
 refine WA.ret ?_
 obtain rfl:=Option.some.inj hF
 exact Zq (one (.sl (v128.map Zl))) [] kr kr kr kr (by decide) rfl rfl } }
 {
 have hF:=Zh hF hb102
 refine WA.seq ?_
 refine WA.reg [1,2,3,7,19,46] [103,117] [] (env':=[(1,one (.sl (v1.map (eInt .i64)))),(2,one (.sl (v2.map Zl))),(3,.val false [.ptr 103 1 0 0]),(7,.val false [.arr 117 (Int.toNat (v2.length:Int))]),(19,one (.int .i64 v0.f_Kind)),(46,one (.bool (v0.f_Kind == 3)))]) (os':=[(103,.box (pvL (Zc v0))),(117,.arr 1 ((List.replicate (Int.toNat (v2.length:Int)) false).map Zl))]) (O:=[]) kr (sound _ _) trivial ?_
 refine WA.cond (b:=(v0.f_Kind == 3)) rfl (fun hb142=>?_) (fun hb142=>?_)
 {
 have hF:=Zi hF hb142
 refine WA.seq ?_
 refine WA.seq ?_
 refine WA.reg [1,2,3,7,9] [103,117] [] (env':=[(1,one (.sl (v1.map (eInt .i64)))),(2,one (.sl (v2.map Zl))),(3,.val false [.ptr 103 1 0 0]),(7,.val false [.arr 117 (Int.toNat (v2.length:Int))]),(9,one (.int .i64 0))]) (os':=[(103,.box (pvL (Zc v0))),(117,.arr 1 ((List.replicate (Int.toNat (v2.length:Int)) false).map Zl))]) (O:=[]) kr (sound _ _) trivial ?_
 refine WA.block ?_
 refine WA.loop (fun m s_=>∃(v156:List Bool) (v157:Nat) (v158:Int),Zj s_.env [1,2,3,7,9]=[(1,one (.sl (v1.map (eInt .i64)))),(2,one (.sl (v2.map Zl))),(3,.val false [.ptr 103 1 0 0]),(7,.val false [.arr 117 v157]),(9,one (.int .i64 v158))]∧Zj s_.os [103,117]=[(103,.box (pvL (Zc v0))),(117,.arr 1 (v156.map Zl))]∧v157=(v156:List _).length∧ZdW R45 k v0 v1 v2 m v156 v158=some r) k ⟨(List.replicate (Int.toNat (v2.length:Int)) false),(Int.toNat (v2.length:Int)),0,kr,kr,zt,hF⟩ ?_
 clear hF
 rintro m4 s_ ⟨v156,v157,v158,he,ho,hn_v157,hF⟩
 refine WA.keep _ _ he ho ?_
 clear he ho
 cases m4 with
 | zero=>cases hF
 | succ m4=>
  obtain ⟨self4,hself4⟩:∃g,g=ZdW R45 k v0 v1 v2 m4:=⟨_,rfl⟩
  have hF:ZdU R45 k self4 v0 v1 v2 v156 v158=some r:=by first | (rw [hself4];exact hF) | exact hF
  refine WA.seq ?_
  refine WA.seq ?_
  refine WA.rm (α:=Int) (raw:=((Zk v0.f_L).length:Int)) (can:=(v0.f_L.length:Int)) (fun m_=>([(1,one (.sl (v1.map (eInt .i64)))),(2,one (.sl (v2.map Zl))),(3,.val false [.ptr 103 1 0 0]),(7,.val false [.arr 117 v157]),(9,one (.int .i64 v158)),(52,one (.bool (decide (v158<m_))))],[(103,.box (pvL (Zc v0))),(117,.arr 1 (v156.map Zl))],[])) ((by first | (simp only [zl,Zf];done) | (simp only [zl,Zf];omega) | omega)) [1,2,3,7,9,52] [103,117] [] kr (sound _ _) trivial ?_
  refine WA.cond (b:=(decide (v158<(v0.f_L.length:Int)))) rfl (fun hb159=>?_) (fun hb159=>?_)
  {
 have hF:=Zi hF hb159
 refine WA.skip ?_
 refine WA.seq ?_
 refine WA.block ?_
 obtain ⟨y160,hy160,hF⟩:=bind_some hF
 obtain ⟨y161,hy161,hF⟩:=bind_some hF
 obtain ⟨y162,hy162,hF⟩:=bind_some hF
 obtain ⟨hl163,hF⟩:=Zn hF
 refine WA.reg [1,2,3,7,9] [103,117] [(4,.cells (Zc y160)),(8,.callR [] (one (.sl (y161.map Zl)))),(9,.call [117] (one (.bool y162.1)) [.arr 1 (y162.2.map Zl)] [])] (env':=[(1,one (.sl (v1.map (eInt .i64)))),(2,one (.sl (v2.map Zl))),(3,.val false [.ptr 103 1 0 0]),(7,.val false [.arr 117 v157]),(9,one (.int .i64 v158))]) (os':=[(103,.box (pvL (Zc v0))),(117,.arr 1 (y162.2.map Zl))]) (O:=[idxL (Zk v0.f_L) v158=some (Zc y160),Sim Tryz.prog GL0 45 [.val true (pvL (Zc y160)),one (.sl (v1.map (eInt .i64))),one (.sl (v2.map Zl))] [] (one (.sl (y161.map Zl))) [],([]:List Nat).Nodup,Sim Tryz.prog GL0 69 [.val false [.arr 0 v157],one (.sl (y161.map Zl))] [.arr 1 (v156.map Zl)] (one (.bool y162.1)) [.arr 1 (y162.2.map Zl)],([117]:List Nat).Nodup]) kr (sound _ _) ⟨(ZK hy160),(IH45 _ _ _ _ hy161),(by decide),(ZjF k _ _ _ hy162 (n0:=v157) zt),(by decide),trivial⟩ ?_
 refine WA.reg [1,2,3,7,9] [103,117] [] (env':=[(1,one (.sl (v1.map (eInt .i64)))),(2,one (.sl (v2.map Zl))),(3,.val false [.ptr 103 1 0 0]),(7,.val false [.arr 117 v157]),(9,one (.int .i64 (w64 (v158+1))))]) (os':=[(103,.box (pvL (Zc v0))),(117,.arr 1 (y162.2.map Zl))]) (O:=[]) kr (sound _ _) trivial ?_
 exact ⟨m4,Nat.lt_succ_self _,y162.2,v157,(w64 (v158+1)),kr,kr,zt,by rw [hself4] at hF;exact hF⟩ }
  {
 have hF:=Zh hF hb159
 refine WA.exit ?_
 refine WA.seq ?_
 refine WA.reg [6] [117] [] (env':=[(6,.val false [.arr 117 v157])]) (os':=[(117,.arr 1 (v156.map Zl))]) (O:=[]) kr (sound _ _) trivial ?_
 refine WA.freeze 117 6 (s:=1) (n:=v157) (els:=(v156.map Zl)) rfl rfl zt ?_
 refine WA.keep [6] [] (env':=[(6,one (.sl (v156.map Zl)))]) (os':=[]) kr kr ?_
 refine WA.ret ?_
 obtain rfl:=Option.some.inj hF
 exact Zq (one (.sl (v156.map Zl))) [] kr kr kr kr (by decide) rfl rfl } }
 {
 have hF:=Zh hF hb142
 refine WA.seq ?_
 refine WA.reg [1,2,3,7,66] [103,117] [] (env':=[(1,one (.sl (v1.map (eInt .i64)))),(2,one (.sl (v2.map Zl))),(3,.val false [.ptr 103 1 0 0]),(7,.val false [.arr 117 (Int.toNat (v2.length:Int))]),(66,one (.bool (v0.f_Kind == 2)))]) (os':=[(103,.box (pvL (Zc v0))),(117,.arr 1 ((List.replicate (Int.toNat (v2.length:Int)) false).map Zl))]) (O:=[]) kr (sound _ _) trivial ?_
 refine WA.cond (b:=(v0.f_Kind == 2)) rfl (fun hb164=>?_) (fun hb164=>?_)
 {
 have hF:=Zi hF hb164
 refine WA.seq ?_
 refine WA.reg [1,3,7,10] [103,117] [] (env':=[(1,one (.sl (v1.map (eInt .i64)))),(3,.val false [.ptr 103 1 0 0]),(7,.val false [.arr 117 (Int.toNat (v2.length:Int))]),(10,one (.sl (v2.map Zl)))]) (os':=[(103,.box (pvL (Zc v0))),(117,.arr 1 ((List.replicate (Int.toNat (v2.length:Int)) false).map Zl))]) (O:=[]) kr (sound _ _) trivial ?_
 refine WA.seq ?_
 refine WA.seq ?_
 refine WA.reg [1,3,7,10,11] [103,117] [] (env':=[(1,one (.sl (v1.map (eInt .i64)))),(3,.val false [.ptr 103 1 0 0]),(7,.val false [.arr 117 (Int.toNat (v2.length:Int))]),(10,one (.sl (v2.map Zl))),(11,one (.int .i64 0))]) (os':=[(103,.box (pvL (Zc v0))),(117,.arr 1 ((List.replicate (Int.toNat (v2.length:Int)) false).map Zl))]) (O:=[]) kr (sound _ _) trivial ?_
 refine WA.block ?_
 refine WA.loop (fun m s_=>∃(v173:List Bool) (v174:Int),Zj s_.env [1,3,7,10,11]=[(1,one (.sl (v1.map (eInt .i64)))),(3,.val false [.ptr 103 1 0 0]),(7,.val false [.arr 117 (Int.toNat (v2.length:Int))]),(10,one (.sl (v173.map Zl))),(11,one (.int .i64 v174))]∧Zj s_.os [103,117]=[(103,.box (pvL (Zc v0))),(117,.arr 1 ((List.replicate (Int.toNat (v2.length:Int)) false).map Zl))]∧ZdX R45 v0 v1 v2 m v173 v174=some r) k ⟨v2,0,kr,kr,hF⟩ ?_
 clear hF
 rintro m5 s_ ⟨v173,v174,he,ho,hF⟩
 refine WA.keep _ _ he ho ?_
 clear he ho
 cases m5 with
 | zero=>cases hF
 | succ m5=>
  obtain ⟨self5,hself5⟩:∃g,g=ZdX R45 v0 v1 v2 m5:=⟨_,rfl⟩
  have hF:ZdV R45 self5 v0 v1 v2 v173 v174=some r:=by first | (rw [hself5];exact hF) | exact hF
  refine WA.seq ?_
  refine WA.seq ?_
  refine WA.rm (α:=Int) (raw:=((Zk v0.f_L).length:Int)) (can:=(v0.f_L.length:Int)) (fun m_=>([(1,one (.sl (v1.map (eInt .i64)))),(3,.val false [.ptr 103 1 0 0]),(7,.val false [.arr 117 (Int.toNat (v2.length:Int))]),(10,one (.sl (v173.map Zl))),(11,one (.int .i64 v174)),(73,one (.bool (decide (v174<m_))))],[(103,.box (pvL (Zc v0))),(117,.arr 1 ((List.replicate (Int.toNat (v2.length:Int)) false).map Zl))],[])) ((by first | (simp only [zl,Zf];done) | (simp only [zl,Zf];omega) | omega)) [1,3,7,10,11,73] [103,117] [] kr (sound _ _) trivial ?_
  refine WA.cond (b:=(decide (v174<(v0.f_L.length:Int)))) rfl (fun hb175=>?_) (fun hb175=>?_)
  {
 have hF:=Zi hF hb175
 refine WA.skip ?_
 refine WA.seq ?_
 refine WA.block ?_
 obtain ⟨y176,hy176,hF⟩:=bind_some hF
 obtain ⟨y177,hy177,hF⟩:=bind_some hF
 refine WA.reg [1,3,7,10,11] [103,117] [(3,.cells (Zc y176)),(7,.callR [] (one (.sl (y177.map Zl))))] (env':=[(1,one (.sl (v1.map (eInt .i64)))),(3,.val false [.ptr 103 1 0 0]),(7,.val false [.arr 117 (Int.toNat (v2.length:Int))]),(10,one (.sl (y177.map Zl))),(11,one (.int .i64 v174))]) (os':=[(103,.box (pvL (Zc v0))),(117,.arr 1 ((List.replicate (Int.toNat (v2.length:Int)) false).map Zl))]) (O:=[idxL (Zk v0.f_L) v174=some (Zc y176),Sim Tryz.prog GL0 45 [.val true (pvL (Zc y176)),one (.sl (v1.map (eInt .i64))),one (.sl (v173.map Zl))] [] (one (.sl (y177.map Zl))) [],([]:List Nat).Nodup]) kr (sound _ _) ⟨(ZK hy176),(IH45 _ _ _ _ hy177),(by decide),trivial⟩ ?_
 refine WA.reg [1,3,7,10,11] [103,117] [] (env':=[(1,one (.sl (v1.map (eInt .i64)))),(3,.val false [.ptr 103 1 0 0]),(7,.val false [.arr 117 (Int.toNat (v2.length:Int))]),(10,one (.sl (y177.map Zl))),(11,one (.int .i64 (w64 (v174+1))))]) (os':=[(103,.box (pvL (Zc v0))),(117,.arr 1 ((List.replicate (Int.toNat (v2.length:Int)) false).map Zl))]) (O:=[]) kr (sound _ _) trivial ?_
 exact ⟨m5,Nat.lt_succ_self _,y177,(w64 (v174+1)),kr,kr,by rw [hself5] at hF;exact hF⟩ }
  {
 have hF:=Zh hF hb175
 refine WA.exit ?_
 refine WA.seq ?_
 obtain ⟨hc178,hF⟩:=Zn hF
 obtain ⟨hc179,hF⟩:=Zn hF
 refine WA.rm (α:=Nat×(List (List PV))×(List (List PV))) (raw:=(((Int.toNat 0)+(v173.map Zl).length),((((List.replicate (Int.toNat (v2.length:Int)) false).map Zl).take (Int.toNat 0)) ++ (v173.map Zl)),(((List.replicate (Int.toNat (v2.length:Int)) false).map Zl).take (Int.toNat 0)))) (can:=(((Int.toNat 0)+v173.length),((((List.replicate (Int.toNat (v2.length:Int)) false).take (Int.toNat 0)) ++ v173).map Zl),(((List.replicate (Int.toNat (v2.length:Int)) false).take (Int.toNat 0)).map Zl))) (fun m_=>([(6,.val false [.arr 185 m_.1])],[(185,.arr 1 m_.2.1)],[(Int.toNat (v2.length:Int))=((List.replicate (Int.toNat (v2.length:Int)) false).map Zl).length,(0:Int)≤0,0≤(((Int.toNat (v2.length:Int)):Nat):Int),(Int.toNat 0)=m_.2.2.length,m_.2.2.length+(v173.map Zl).length≤1073741824,∀es,es∈(v173.map Zl)→es.length=1])) (ZE (by first | (simp only [zl,Zf];done) | (simp only [zl,Zf];omega) | omega) (ZE zm zm)) [6] [185] [(1,.obj 185)] kr (sound _ _) ⟨zt,hc178.1,(by have h_:=hc178.2;(try simp only [zl,Zf] at h_ ⊢);omega),zt,(by first | exact hc179 | (simp only [List.length_map,Zf];exact hc179)),(Zcd _ _ _ (fun _=>rfl)),trivial⟩ ?_
 refine WA.freeze 185 6 (s:=1) (n:=((Int.toNat 0)+v173.length)) (els:=((((List.replicate (Int.toNat (v2.length:Int)) false).take (Int.toNat 0)) ++ v173).map Zl)) rfl rfl zt ?_
 refine WA.keep [6] [] (env':=[(6,one (.sl ((((List.replicate (Int.toNat (v2.length:Int)) false).take (Int.toNat 0)) ++ v173).map Zl)))]) (os':=[]) kr kr ?_
 refine WA.ret ?_
 obtain rfl:=Option.some.inj hF
 exact Zq (one (.sl ((((List.replicate (Int.toNat (v2.length:Int)) false).take (Int.toNat 0)) ++ v173).map Zl))) [] kr kr kr kr (by decide) rfl rfl } }
 {
 have hF:=Zh hF hb164
 refine WA.skip ?_
 refine WA.seq ?_
 obtain ⟨hc180,hF⟩:=Zn hF
 refine WA.rm (α:=Nat×(List (List PV))) (raw:=((0+(v2.map Zl).length),((([]:List Bool).map Zl) ++ (v2.map Zl)))) (can:=((0+v2.length),((([]:List Bool) ++ v2).map Zl))) (fun m_=>([(1,one (.sl (v1.map (eInt .i64)))),(3,.val false [.ptr 103 1 0 0]),(7,.val false [.arr 117 (Int.toNat (v2.length:Int))]),(12,.val false [.arr 188 m_.1])],[(103,.box (pvL (Zc v0))),(117,.arr 1 ((List.replicate (Int.toNat (v2.length:Int)) false).map Zl)),(188,.arr 1 m_.2)],[0=(([]:List Bool).map Zl).length,(([]:List Bool).map Zl).length+(v2.map Zl).length≤1073741824,∀es,es∈(v2.map Zl)→es.length=1])) (ZE (by first | (simp only [zl,Zf];done) | (simp only [zl,Zf];omega) | omega) zm) [1,3,7,12] [103,117,188] [(0,.obj 188)] kr (sound _ _) ⟨zt,(by first | exact hc180 | (simp only [List.length_map,Zf];exact hc180)),(Zcd _ _ _ (fun _=>rfl)),trivial⟩ ?_
 refine WA.seq ?_
 refine WA.seq ?_
 refine WA.freeze 188 12 (s:=1) (n:=(0+v2.length)) (els:=((([]:List Bool) ++ v2).map Zl)) rfl rfl zt ?_
 refine WA.keep [1,3,7,12] [103,117] (env':=[(1,one (.sl (v1.map (eInt .i64)))),(3,.val false [.ptr 103 1 0 0]),(7,.val false [.arr 117 (Int.toNat (v2.length:Int))]),(12,one (.sl ((([]:List Bool) ++ v2).map Zl)))]) (os':=[(103,.box (pvL (Zc v0))),(117,.arr 1 ((List.replicate (Int.toNat (v2.length:Int)) false).map Zl))]) kr kr ?_
 refine WA.reg [1,3,7,12,13] [103,117] [] (env':=[(1,one (.sl (v1.map (eInt .i64)))),(3,.val false [.ptr 103 1 0 0]),(7,.val false [.arr 117 (Int.toNat (v2.length:Int))]),(12,one (.sl ((([]:List Bool) ++ v2).map Zl))),(13,one (.int .i64 0))]) (os':=[(103,.box (pvL (Zc v0))),(117,.arr 1 ((List.replicate (Int.toNat (v2.length:Int)) false).map Zl))]) (O:=[]) kr (sound _ _) trivial ?_
 refine WA.block ?_
 refine WA.loop (fun m s_=>∃(v189:List Bool) (v190:Int),Zj s_.env [1,3,7,12,13]=[(1,one (.sl (v1.map (eInt .i64)))),(3,.val false [.ptr 103 1 0 0]),(7,.val false [.arr 117 (Int.toNat (v2.length:Int))]),(12,one (.sl (v189.map Zl))),(13,one (.int .i64 v190))]∧Zj s_.os [103,117]=[(103,.box (pvL (Zc v0))),(117,.arr 1 ((List.replicate (Int.toNat (v2.length:Int)) false).map Zl))]∧ZdY R45 k v0 v1 v2 m v189 v190=some r) k ⟨(([]:List Bool) ++ v2),0,kr,kr,hF⟩ ?_
 clear hF
 rintro m6 s_ ⟨v189,v190,he,ho,hF⟩
 refine WA.keep _ _ he ho ?_
 clear he ho
 cases m6 with
 | zero=>cases hF
 | succ m6=>
  obtain ⟨self6,hself6⟩:∃g,g=ZdY R45 k v0 v1 v2 m6:=⟨_,rfl⟩
  have hF:Zg8 R45 k self6 v0 v1 v2 v189 v190=some r:=by first | (rw [hself6];exact hF) | exact hF
  refine WA.seq ?_
  refine WA.seq ?_
  refine WA.reg [1,3,7,12,13,94] [103,117] [] (env':=[(1,one (.sl (v1.map (eInt .i64)))),(3,.val false [.ptr 103 1 0 0]),(7,.val false [.arr 117 (Int.toNat (v2.length:Int))]),(12,one (.sl (v189.map Zl))),(13,one (.int .i64 v190)),(94,one (.bool (decide (v190<v0.f_Min))))]) (os':=[(103,.box (pvL (Zc v0))),(117,.arr 1 ((List.replicate (Int.toNat (v2.length:Int)) false).map Zl))]) (O:=[]) kr (sound _ _) trivial ?_
  refine WA.cond (b:=(decide (v190<v0.f_Min))) rfl (fun hb191=>?_) (fun hb191=>?_)
  {
 have hF:=Zi hF hb191
 refine WA.skip ?_
 refine WA.seq ?_
 refine WA.block ?_
 obtain ⟨y192,hy192,hF⟩:=bind_some hF
 obtain ⟨y193,hy193,hF⟩:=bind_some hF
 refine WA.reg [1,3,7,12,13] [103,117] [(2,.cells (Zc y192)),(6,.callR [] (one (.sl (y193.map Zl))))] (env':=[(1,one (.sl (v1.map (eInt .i64)))),(3,.val false [.ptr 103 1 0 0]),(7,.val false [.arr 117 (Int.toNat (v2.length:Int))]),(12,one (.sl (y193.map Zl))),(13,one (.int .i64 v190))]) (os':=[(103,.box (pvL (Zc v0))),(117,.arr 1 ((List.replicate (Int.toNat (v2.length:Int)) false).map Zl))]) (O:=[idxL (Zk v0.f_L) 0=some (Zc y192),Sim Tryz.prog GL0 45 [.val true (pvL (Zc y192)),one (.sl (v1.map (eInt .i64))),one (.sl (v189.map Zl))] [] (one (.sl (y193.map Zl))) [],([]:List Nat).Nodup]) kr (sound _ _) ⟨(ZK hy192),(IH45 _ _ _ _ hy193),(by decide),trivial⟩ ?_
 refine WA.reg [1,3,7,12,13] [103,117] [] (env':=[(1,one (.sl (v1.map (eInt .i64)))),(3,.val false [.ptr 103 1 0 0]),(7,.val false [.arr 117 (Int.toNat (v2.length:Int))]),(12,one (.sl (y193.map Zl))),(13,one (.int .i64 (w64 (v190+1))))]) (os':=[(103,.box (pvL (Zc v0))),(117,.arr 1 ((List.replicate (Int.toNat (v2.length:Int)) false).map Zl))]) (O:=[]) kr (sound _ _) trivial ?_
 exact ⟨m6,Nat.lt_succ_self _,y193,(w64 (v190+1)),kr,kr,by rw [hself6] at hF;exact hF⟩ }
  {
 have hF:=Zh hF hb191
 refine WA.exit ?_
 refine WA.seq ?_
 obtain ⟨y194,hy194,hF⟩:=bind_some hF
 obtain ⟨hl195,hF⟩:=Zn hF
 refine WA.reg [1,3,7,12] [103,117] [(2,.call [117] (one (.bool y194.1)) [.arr 1 (y194.2.map Zl)] [])] (env':=[(1,one (.sl (v1.map (eInt .i64)))),(3,.val false [.ptr 103 1 0 0]),(7,.val false [.arr 117 (Int.toNat (v2.length:Int))]),(12,one (.sl (v189.map Zl)))]) (os':=[(103,.box (pvL (Zc v0))),(117,.arr 1 (y194.2.map Zl))]) (O:=[Sim Tryz.prog GL0 69 [.val false [.arr 0 (Int.toNat (v2.length:Int))],one (.sl (v189.map Zl))] [.arr 1 ((List.replicate (Int.toNat (v2.length:Int)) false).map Zl)] (one (.bool y194.1)) [.arr 1 (y194.2.map Zl)],([117]:List Nat).Nodup]) kr (sound _ _) ⟨(ZjF k _ _ _ hy194 (n0:=(Int.toNat (v2.length:Int))) zt),(by decide),trivial⟩ ?_
 refine WA.join (fun s_=>∃(v222:List Bool) (v223:Nat),Zj s_.env [7]=[(7,.val false [.arr 117 v223])]∧Zj s_.os [117]=[(117,.arr 1 (v222.map Zl))]∧v223=(v222:List _).length∧Zha v222=some r) ?_ ?_
 {
 rintro s_ ⟨v222,v223,he,ho,hn_v223,hF⟩
 refine WA.keep _ _ he ho ?_
 clear he ho
 refine WA.seq ?_
 refine WA.reg [6] [117] [] (env':=[(6,.val false [.arr 117 v223])]) (os':=[(117,.arr 1 (v222.map Zl))]) (O:=[]) kr (sound _ _) trivial ?_
 refine WA.freeze 117 6 (s:=1) (n:=v223) (els:=(v222.map Zl)) rfl rfl zt ?_
 refine WA.keep [6] [] (env':=[(6,one (.sl (v222.map Zl)))]) (os':=[]) kr kr ?_
 refine WA.ret ?_
 obtain rfl:=Option.some.inj hF
 exact Zq (one (.sl (v222.map Zl))) [] kr kr kr kr (by decide) rfl rfl }
 {
 refine WA.seq ?_
 refine WA.reg [1,3,7,12,14] [103,117] [] (env':=[(1,one (.sl (v1.map (eInt .i64)))),(3,.val false [.ptr 103 1 0 0]),(7,.val false [.arr 117 (Int.toNat (v2.length:Int))]),(12,one (.sl (v189.map Zl))),(14,one (.int .i64 v0.f_Min))]) (os':=[(103,.box (pvL (Zc v0))),(117,.arr 1 (y194.2.map Zl))]) (O:=[]) kr (sound _ _) trivial ?_
 refine WA.block ?_
 refine WA.loop (fun m s_=>∃(v212:List Bool) (v213:Nat) (v214:List Bool) (v215:Int),Zj s_.env [1,3,7,12,14]=[(1,one (.sl (v1.map (eInt .i64)))),(3,.val false [.ptr 103 1 0 0]),(7,.val false [.arr 117 v213]),(12,one (.sl (v214.map Zl))),(14,one (.int .i64 v215))]∧Zj s_.os [103,117]=[(103,.box (pvL (Zc v0))),(117,.arr 1 (v212.map Zl))]∧v213=(v212:List _).length∧ZdZ R45 k v0 v1 m v212 v214 v215=some r) k ⟨y194.2,(Int.toNat (v2.length:Int)),v189,v0.f_Min,kr,kr,zt,hF⟩ ?_
 clear hF
 rintro m7 s_ ⟨v212,v213,v214,v215,he,ho,hn_v213,hF⟩
 refine WA.keep _ _ he ho ?_
 clear he ho
 cases m7 with
 | zero=>cases hF
 | succ m7=>
  obtain ⟨self7,hself7⟩:∃g,g=ZdZ R45 k v0 v1 m7:=⟨_,rfl⟩
  have hF:Zg9 R45 k self7 v0 v1 v212 v214 v215=some r:=by first | (rw [hself7];exact hF) | exact hF
  refine WA.seq ?_
  refine WA.seq ?_
  refine WA.reg [1,3,7,12,14,112] [103,117] [] (env':=[(1,one (.sl (v1.map (eInt .i64)))),(3,.val false [.ptr 103 1 0 0]),(7,.val false [.arr 117 v213]),(12,one (.sl (v214.map Zl))),(14,one (.int .i64 v215)),(112,one (.bool (v215 != v0.f_Max)))]) (os':=[(103,.box (pvL (Zc v0))),(117,.arr 1 (v212.map Zl))]) (O:=[]) kr (sound _ _) trivial ?_
  refine WA.cond (b:=(v215 != v0.f_Max)) rfl (fun hb216=>?_) (fun hb216=>?_)
  {
 have hF:=Zi hF hb216
 refine WA.skip ?_
 refine WA.seq ?_
 refine WA.block ?_
 refine WA.seq ?_
 obtain ⟨y217,hy217,hF⟩:=bind_some hF
 obtain ⟨y218,hy218,hF⟩:=bind_some hF
 refine WA.reg [1,3,7,12,14] [103,117] [(2,.cells (Zc y217)),(6,.callR [] (one (.sl (y218.map Zl))))] (env':=[(1,one (.sl (v1.map (eInt .i64)))),(3,.val false [.ptr 103 1 0 0]),(7,.val false [.arr 117 v213]),(12,one (.sl (y218.map Zl))),(14,one (.int .i64 v215))]) (os':=[(103,.box (pvL (Zc v0))),(117,.arr 1 (v212.map Zl))]) (O:=[idxL (Zk v0.f_L) 0=some (Zc y217),Sim Tryz.prog GL0 45 [.val true (pvL (Zc y217)),one (.sl (v1.map (eInt .i64))),one (.sl (v214.map Zl))] [] (one (.sl (y218.map Zl))) [],([]:List Nat).Nodup]) kr (sound _ _) ⟨(ZK hy217),(IH45 _ _ _ _ hy218),(by decide),trivial⟩ ?_
 refine WA.seq ?_
 obtain ⟨y219,hy219,hF⟩:=bind_some hF
 obtain ⟨hl220,hF⟩:=Zn hF
 refine WA.reg [1,3,7,12,14,125] [103,117] [(2,.call [117] (one (.bool y219.1)) [.arr 1 (y219.2.map Zl)] [])] (env':=[(1,one (.sl (v1.map (eInt .i64)))),(3,.val false [.ptr 103 1 0 0]),(7,.val false [.arr 117 v213]),(12,one (.sl (y218.map Zl))),(14,one (.int .i64 v215)),(125,one (.bool (!y219.1)))]) (os':=[(103,.box (pvL (Zc v0))),(117,.arr 1 (y219.2.map Zl))]) (O:=[Sim Tryz.prog GL0 69 [.val false [.arr 0 v213],one (.sl (y218.map Zl))] [.arr 1 (v212.map Zl)] (one (.bool y219.1)) [.arr 1 (y219.2.map Zl)],([117]:List Nat).Nodup]) kr (sound _ _) ⟨(ZjF k _ _ _ hy219 (n0:=v213) zt),(by decide),trivial⟩ ?_
 refine WA.cond (b:=(!y219.1)) rfl (fun hb221=>?_) (fun hb221=>?_)
 {
 have hF:=Zi hF hb221
 refine WA.exit ?_
 exact ⟨y219.2,v213,kr,kr,zt,hF⟩ }
 {
 have hF:=Zh hF hb221
 refine WA.skip ?_
 refine WA.reg [1,3,7,12,14] [103,117] [] (env':=[(1,one (.sl (v1.map (eInt .i64)))),(3,.val false [.ptr 103 1 0 0]),(7,.val false [.arr 117 v213]),(12,one (.sl (y218.map Zl))),(14,one (.int .i64 (w64 (v215+1))))]) (os':=[(103,.box (pvL (Zc v0))),(117,.arr 1 (y219.2.map Zl))]) (O:=[]) kr (sound _ _) trivial ?_
 exact ⟨m7,Nat.lt_succ_self _,y219.2,v213,y218,(w64 (v215+1)),kr,kr,zt,by rw [hself7] at hF;exact hF⟩ } }
  {
 have hF:=Zh hF hb216
 refine WA.exit ?_
 exact ⟨v212,v213,kr,kr,zt,hF⟩ } } } } } }
def F45:Nat→Ze→(List Int)→(List Bool)→Option (List Bool)
  | 0,_,_,_=>none
  | k+1,v0,v1,v2=>Zjl (F45 k) k v0 v1 v2
theorem Zma:∀(k:Nat),∀(v0:Ze) (v1:List Int) (v2:List Bool) (r:List Bool),F45 k v0 v1 v2=some r→Sim Tryz.prog GL0 45 [.val true (pvL (Zc v0)),one (.sl (v1.map (eInt .i64))),one (.sl (v2.map Zl))] [] (one (.sl (r.map Zl))) []
  | 0=>fun _ _ _ _ hF=>by cases hF
  | k+1=>fun v0 v1 v2 r hF=>Zm8 (F45 k) (Zma k) k v0 v1 v2 r hF
def ZdH (k:Nat) (v0:Ze) (v1:List UInt8) (v104:Bool):Option Bool:=
  cond v104 ((some false)) ((F44 k v1).bind fun y106=>(if (0:Int)≤(w64 ((y106.length:Int)+1))∧((w64 ((y106.length:Int)+1)):Int)≤1073741824 then (if (0:Int)≤0∧0<((List.replicate (Int.toNat (w64 ((y106.length:Int)+1))) false).length:Int) then (idxL (List.replicate (Int.toNat (w64 ((y106.length:Int)+1))) false) 0).bind fun y109=>(F45 k v0 y106 ((List.replicate (Int.toNat (w64 ((y106.length:Int)+1))) false).set (Int.toNat 0) true)).bind fun y110=>(idxL y110 (y106.length:Int)).bind fun y111=>(some y111) else none) else none))
def F23 (k:Nat) (v0:Ze) (v1:List UInt8):Option Bool:=
  (F22 k v0).bind fun y101=>cond (!y101) ((ZdH k v0 v1 true)) ((F25 k v1).bind fun y103=>(ZdH k v0 v1 (!y103)))
theorem ZoT (k:Nat) (v0:Ze) (v1:List UInt8) (r:Bool) (hF:F23 k v0 v1=some r):Sim Tryz.prog GL0 23 [.val true (pvL (Zc v0)),one (.str v1)] [] (one (.bool r)) []:=by
 refine ZB [] Tryz.func23 rfl kr kr ?_
 show WA _ _ 31 _ _ _
 refine WA.seq ?_
 refine WA.reg [1,2] [102] [(0,.obj 102)] (env':=[(1,one (.str v1)),(2,.val false [.ptr 102 1 0 0])]) (os':=[(102,.box (pvL (Zc v0)))]) (O:=[]) kr (sound _ _) trivial ?_
 refine WA.seq ?_
 refine WA.join (fun s_=>∃(v104:Bool),Zj s_.env [1,2,14]=[(1,one (.str v1)),(2,.val false [.ptr 102 1 0 0]),(14,one (.bool v104))]∧Zj s_.os [102]=[(102,.box (pvL (Zc v0)))]∧ZdH k v0 v1 v104=some r) ?_ ?_
 {
 rintro s_ ⟨v104,he,ho,hF⟩
 refine WA.keep _ _ he ho ?_
 clear he ho
 refine WA.cond (b:=v104) rfl (fun hb105=>?_) (fun hb105=>?_)
 {
 have hF:=Zi hF hb105
 refine WA.seq ?_
 refine WA.reg [4] [] [] (env':=[(4,one (.bool false))]) (os':=[]) (O:=[]) kr (sound _ _) trivial ?_
 refine WA.ret ?_
 obtain rfl:=Option.some.inj hF
 exact Zq (one (.bool false)) [] kr kr kr kr (by decide) rfl rfl }
 {
 have hF:=Zh hF hb105
 refine WA.skip ?_
 refine WA.seq ?_
 obtain ⟨y106,hy106,hF⟩:=bind_some hF
 refine WA.reg [2,5] [102] [(1,.callR [] (one (.sl (y106.map (eInt .i64)))))] (env':=[(2,.val false [.ptr 102 1 0 0]),(5,one (.sl (y106.map (eInt .i64))))]) (os':=[(102,.box (pvL (Zc v0)))]) (O:=[Sim Tryz.prog GL0 44 [one (.str v1)] [] (one (.sl (y106.map (eInt .i64)))) [],([]:List Nat).Nodup]) kr (sound _ _) ⟨(ZoV k _ _ hy106),(by decide),trivial⟩ ?_
 refine WA.seq ?_
 obtain ⟨hc107,hF⟩:=Zn hF
 refine WA.rm (α:=Int×(List (List PV))) (raw:=(((y106.map (eInt .i64)).length:Int),(List.replicate (Int.toNat (w64 (((y106.map (eInt .i64)).length:Int)+1))) (Zl false)))) (can:=((y106.length:Int),((List.replicate (Int.toNat (w64 ((y106.length:Int)+1))) false).map Zl))) (fun m_=>([(2,.val false [.ptr 102 1 0 0]),(5,one (.sl (y106.map (eInt .i64)))),(6,.val false [.arr 120 (Int.toNat (w64 (m_.1+1)))])],[(102,.box (pvL (Zc v0))),(120,.arr 1 m_.2)],[((w64 (m_.1+1)):Int)=(w64 (m_.1+1)),(0:Int)≤(w64 (m_.1+1)),((w64 (m_.1+1)):Int)≤1073741824])) (ZE (by first | (simp only [zl,Zf];done) | (simp only [zl,Zf];omega) | omega) zm) [2,5,6] [102,120] [(3,.obj 120)] kr (sound _ _) ⟨rfl,hc107.1,hc107.2,trivial⟩ ?_
 refine WA.seq ?_
 obtain ⟨hc108,hF⟩:=Zn hF
 obtain ⟨y109,hy109,hF⟩:=bind_some hF
 refine WA.rm (α:=(List (List PV))) (raw:=(((List.replicate (Int.toNat (w64 ((y106.length:Int)+1))) false).map Zl).set (Int.toNat 0) (Zl true))) (can:=(((List.replicate (Int.toNat (w64 ((y106.length:Int)+1))) false).set (Int.toNat 0) true).map Zl)) (fun m_=>([(2,.val false [.ptr 102 1 0 0]),(5,one (.sl (y106.map (eInt .i64)))),(6,.val false [.arr 120 (Int.toNat (w64 ((y106.length:Int)+1)))])],[(102,.box (pvL (Zc v0))),(120,.arr 1 m_)],[(Int.toNat (w64 ((y106.length:Int)+1)))=((List.replicate (Int.toNat (w64 ((y106.length:Int)+1))) false).map Zl).length,(0:Int)≤0,0<(((Int.toNat (w64 ((y106.length:Int)+1))):Nat):Int),(Int.toNat (w64 ((y106.length:Int)+1)))=((List.replicate (Int.toNat (w64 ((y106.length:Int)+1))) false).map Zl).length,((List.replicate (Int.toNat (w64 ((y106.length:Int)+1))) false).map Zl)[Int.toNat 0]?=some [.bool y109]])) (zm) [2,5,6] [102,120] [(2,.cells [.bool y109])] kr (sound _ _) ⟨zt,hc108.1,(by have h_:=hc108.2;(try simp only [zl,Zf] at h_ ⊢);omega),zt,(Zp (Zr _ hy109)),trivial⟩ ?_
 refine WA.seq ?_
 refine WA.freeze 120 6 (s:=1) (n:=(Int.toNat (w64 ((y106.length:Int)+1)))) (els:=(((List.replicate (Int.toNat (w64 ((y106.length:Int)+1))) false).set (Int.toNat 0) true).map Zl)) rfl rfl zt ?_
 refine WA.keep [2,5,6] [102] (env':=[(2,.val false [.ptr 102 1 0 0]),(5,one (.sl (y106.map (eInt .i64)))),(6,one (.sl (((List.replicate (Int.toNat (w64 ((y106.length:Int)+1))) false).set (Int.toNat 0) true).map Zl)))]) (os':=[(102,.box (pvL (Zc v0)))]) kr kr ?_
 obtain ⟨y110,hy110,hF⟩:=bind_some hF
 obtain ⟨y111,hy111,hF⟩:=bind_some hF
 refine WA.rm (α:=Int) (raw:=((y106.map (eInt .i64)).length:Int)) (can:=(y106.length:Int)) (fun m_=>([(4,one (.bool y111))],[],[Sim Tryz.prog GL0 45 [.val true (pvL (Zc v0)),one (.sl (y106.map (eInt .i64))),one (.sl (((List.replicate (Int.toNat (w64 ((y106.length:Int)+1))) false).set (Int.toNat 0) true).map Zl))] [] (one (.sl (y110.map Zl))) [],([]:List Nat).Nodup,idxL (y110.map Zl) m_=some [.bool y111]])) ((by first | (simp only [zl,Zf];done) | (simp only [zl,Zf];omega) | omega)) [4] [] [(3,.callR [] (one (.sl (y110.map Zl)))),(6,.cells [.bool y111])] kr (sound _ _) ⟨(Zma k _ _ _ _ hy110),(by decide),(Zr _ hy111),trivial⟩ ?_
 refine WA.ret ?_
 obtain rfl:=Option.some.inj hF
 exact Zq (one (.bool y111)) [] kr kr kr kr (by decide) rfl rfl } }
 {
 obtain ⟨y101,hy101,hF⟩:=bind_some hF
 rcases Bool.eq_false_or_eq_true (!y101) with hb102 | hb102
 {
 have hF:=Zi hF hb102
 refine WA.reg [1,2,14] [102] [(1,.callR [] (one (.bool y101))),(3,.bool true)] (env':=[(1,one (.str v1)),(2,.val false [.ptr 102 1 0 0]),(14,one (.bool true))]) (os':=[(102,.box (pvL (Zc v0)))]) (O:=[Sim Tryz.prog GL0 22 [.val true (pvL (Zc v0))] [] (one (.bool y101)) [],([]:List Nat).Nodup,(!y101)=true]) kr (sound _ _) ⟨(Zjv k _ _ hy101),(by decide),hb102,trivial⟩ ?_
 exact ⟨true,kr,kr,hF⟩ }
 {
 have hF:=Zh hF hb102
 obtain ⟨y103,hy103,hF⟩:=bind_some hF
 refine WA.reg [1,2,14] [102] [(1,.callR [] (one (.bool y101))),(3,.bool false),(5,.callR [] (one (.bool y103)))] (env':=[(1,one (.str v1)),(2,.val false [.ptr 102 1 0 0]),(14,one (.bool (!y103)))]) (os':=[(102,.box (pvL (Zc v0)))]) (O:=[Sim Tryz.prog GL0 22 [.val true (pvL (Zc v0))] [] (one (.bool y101)) [],([]:List Nat).Nodup,(!y101)=false,Sim Tryz.prog GL0 25 [one (.str v1)] [] (one (.bool y103)) [],([]:List Nat).Nodup]) kr (sound _ _) ⟨(Zjv k _ _ hy101),(by decide),hb102,(Zg0 k _ _ hy103),(by decide),trivial⟩ ?_
 exact ⟨(!y103),kr,kr,hF⟩ } }
end Go.Proofs.YthilboheomikjaaGreatDoor
end
section
namespace Go.Proofs.YthilboheomikjaaGreatDoor
open Go.AL Go.RowKit
def badV:Value:=.iface 70 (.agg #[])
def F141 (k:Nat) (s:List UInt8) (r:Int):Option Bool:=if 0≤r∧r<128 then some (decide (0≤Lib.indexByte s r.toNat.toUInt8)) else none
theorem ZkT (k:Nat) (v0:List UInt8) (v1:Int) (r:Bool) (hF:F141 k v0 v1=some r):Sim Tryz.prog GL0 141 [one (.str v0),one (.int .i32 v1)] [] (one (.bool r)) []:=by
  obtain ⟨hl,hF⟩:=Zn hF
  obtain rfl:=Option.some.inj hF
  refine Zbn fun w I G vs hs ha=>?_
  obtain ⟨vs,rfl,hb⟩:=Zc1 ha;clear ha;have ha:=hb;clear hb
  obtain ⟨vs,rfl,hb⟩:=ZjO ha;clear ha;have ha:=hb;clear hb
  obtain rfl:=Zc0 ha
  refine Calls.imp (Any.strings_ContainsRune_ascii Tryz.lays151 ⟨v0.toArray⟩ v1 w hl.1 hl.2) ?_
  rintro e w' ⟨rfl,rfl⟩
  exact ⟨_,rfl,fun _ _ _ _=>⟨_,rfl,.bool _⟩,.refl _ _⟩
end Go.Proofs.YthilboheomikjaaGreatDoor
end
section
namespace Go.Proofs.YthilboheomikjaaGreatDoor
open Go.AL
set_option maxRecDepth 100000
structure Zg where
  f_s:List UInt8
  f_at:Int
  f_over:Bool
def Zd (x:Zg):List PV:=[.str x.f_s,.int .i64 x.f_at,.bool x.f_over]
theorem Zox (l:List Zg):∀es,es∈l.map Zd→es.length=3:=fun es h=>by obtain ⟨y,_,rfl⟩:=List.mem_map.1 h;rfl
def F97 (k:Nat) (v0:Zg) (v1:List UInt8):Option Bool:=
  (if (0:Int)≤v0.f_at∧(v0.f_at:Int)≤(v0.f_s.length:Int)∧(v0.f_s.length:Int)≤(v0.f_s.length:Int) then (F116 k ((v0.f_s.take (Int.toNat (v0.f_s.length:Int))).drop (Int.toNat v0.f_at)) v1).bind fun y102=>(some y102) else none)
theorem ZcY (k:Nat) (v0:Zg) (v1:List UInt8) (r:Bool) (hF:F97 k v0 v1=some r):Sim Tryz.prog GL0 97 [.val false [.ptr 0 1 0 0],one (.str v1)] [.box (pvL (Zd v0))] (one (.bool r)) [.box (pvL (Zd v0))]:=by
 refine ZB [0] Tryz.func97 rfl kr kr ?_
 show WA _ _ 16 _ _ _
 refine WA.seq ?_
 refine WA.reg [0,1] [0] [] (env':=[(0,.val false [.ptr 0 1 0 0]),(1,one (.str v1))]) (os':=[(0,.box (pvL (Zd v0)))]) (O:=[]) kr (sound _ _) trivial ?_
 refine WA.seq ?_
 obtain ⟨hc101,hF⟩:=Zn hF
 obtain ⟨y102,hy102,hF⟩:=bind_some hF
 refine WA.regD kr [4] [0] [(10,.callR [] (one (.bool y102)))] (env':=[(4,one (.bool y102))]) (os':=[(0,.box (pvL (Zd v0)))]) (O:=[(0:Int)≤v0.f_at,(v0.f_at:Int)≤(v0.f_s.length:Int),(v0.f_s.length:Int)≤(v0.f_s.length:Int),Sim Tryz.prog GL0 116 [one (.str ((v0.f_s.take (Int.toNat (v0.f_s.length:Int))).drop (Int.toNat v0.f_at))),one (.str v1)] [] (one (.bool y102)) [],([]:List Nat).Nodup]) kr kr (sound _ _) ⟨hc101.1,hc101.2.1,hc101.2.2,(Zn7 k _ _ _ hy102),(by decide),trivial⟩ ?_
 refine WA.ret ?_
 obtain rfl:=Option.some.inj hF
 exact Zq (one (.bool y102)) [.box (pvL (Zd v0))] kr kr kr kr (by decide) rfl rfl
def F71 (k:Nat) (v0:Zg) (v1:List UInt8):Option (Bool×Zg):=
  (F97 k v0 v1).bind fun y101=>(cond (!y101) ((some (false,v0))) ((((some (true,({ v0 with f_at:=(w64 (v0.f_at+(v1.length:Int))) }:Zg)))))))
theorem Zar (k:Nat) (v0:Zg) (v1:List UInt8) (r:Bool×Zg) (hF:F71 k v0 v1=some r):Sim Tryz.prog GL0 71 [.val false [.ptr 0 1 0 0],one (.str v1)] [.box (pvL (Zd v0))] (one (.bool r.1)) [.box (pvL (Zd r.2))]:=by
 refine ZB [0] Tryz.func71 rfl kr kr ?_
 show WA _ _ 19 _ _ _
 refine WA.seq ?_
 refine WA.reg [0,1] [0] [] (env':=[(0,.val false [.ptr 0 1 0 0]),(1,one (.str v1))]) (os':=[(0,.box (pvL (Zd v0)))]) (O:=[]) kr (sound _ _) trivial ?_
 refine WA.seq ?_
 refine WA.seq ?_
 obtain ⟨y101,hy101,hF⟩:=bind_some hF
 refine WA.reg [0,1,8] [0] [(2,.callR [0] (one (.bool y101)))] (env':=[(0,.val false [.ptr 0 1 0 0]),(1,one (.str v1)),(8,one (.bool (!y101)))]) (os':=[(0,.box (pvL (Zd v0)))]) (O:=[Sim Tryz.prog GL0 97 [.val false [.ptr 0 1 0 0],one (.str v1)] [.box (pvL (Zd v0))] (one (.bool y101)) [.box (pvL (Zd v0))],([0]:List Nat).Nodup]) kr (sound _ _) ⟨(ZcY k _ _ _ hy101),(by decide),trivial⟩ ?_
 refine WA.cond (b:=(!y101)) rfl (fun hb102=>?_) (fun hb102=>?_)
 {
 have hF:=Zi hF hb102
 refine WA.seq ?_
 refine WA.reg [4] [0] [] (env':=[(4,one (.bool false))]) (os':=[(0,.box (pvL (Zd v0)))]) (O:=[]) kr (sound _ _) trivial ?_
 refine WA.ret ?_
 obtain rfl:=Option.some.inj hF
 exact Zq (one (.bool false)) [.box (pvL (Zd v0))] kr kr kr kr (by decide) rfl rfl }
 {
 have hF:=Zh hF hb102
 refine WA.skip ?_
 refine WA.seq ?_
 refine WA.reg [] [0] [] (env':=[]) (os':=[(0,.box (pvL (Zd ({ v0 with f_at:=(w64 (v0.f_at+(v1.length:Int))) }:Zg))))]) (O:=[]) kr (sound _ _) trivial ?_
 refine WA.seq ?_
 refine WA.reg [4] [0] [] (env':=[(4,one (.bool true))]) (os':=[(0,.box (pvL (Zd ({ v0 with f_at:=(w64 (v0.f_at+(v1.length:Int))) }:Zg))))]) (O:=[]) kr (sound _ _) trivial ?_
 refine WA.ret ?_
 obtain rfl:=Option.some.inj hF
 exact Zq (one (.bool true)) [.box (pvL (Zd ({ v0 with f_at:=(w64 (v0.f_at+(v1.length:Int))) }:Zg)))] kr kr kr kr (by decide) rfl rfl }
def Zh6 (v0:Zg) (y101:Int×Int) (v103:Bool):Option (Option (Int×Zg)):=
  cond v103 (some none) ((((some (some (y101.1,({ v0 with f_at:=(w64 (v0.f_at+y101.2)) }:Zg)))))))
def F140 (k:Nat) (v0:Zg):Option (Option (Int×Zg)):=
  (F55 k v0.f_s v0.f_at).bind fun y101=>(cond (y101.2 == 0) ((Zh6 v0 y101 true)) ((Zh6 v0 y101 (decide (y101.1<0)))))
theorem Zcy (k:Nat) (v0:Zg) (r:Option (Int×Zg)) (hF:F140 k v0=some r):SimP Tryz.prog GL0 badV 140 [.val false [.ptr 0 1 0 0]] [.box (pvL (Zd v0))] (r.map fun r=>(one (.int .i64 r.1),[.box (pvL (Zd r.2))])):=by
 refine Zbb [0] Tryz.func140 rfl kr kr ?_
 show WA _ _ 35 _ _ _
 refine WA.seq ?_
 refine WA.reg [0] [0] [] (env':=[(0,.val false [.ptr 0 1 0 0])]) (os':=[(0,.box (pvL (Zd v0)))]) (O:=[]) kr (sound _ _) trivial ?_
 refine WA.seq ?_
 obtain ⟨y101,hy101,hF⟩:=bind_some hF
 refine WA.regD kr [0,3,4] [0] [(8,.callR [] (.tup [(false,[.pv (.int .i64 y101.1)]),(false,[.pv (.int .i64 y101.2)])]))] (env':=[(0,.val false [.ptr 0 1 0 0]),(3,one (.int .i64 y101.1)),(4,one (.int .i64 y101.2))]) (os':=[(0,.box (pvL (Zd v0)))]) (O:=[Sim Tryz.prog GL0 55 [one (.str v0.f_s),one (.int .i64 v0.f_at)] [] (.tup [(false,[.pv (.int .i64 y101.1)]),(false,[.pv (.int .i64 y101.2)])]) [],([]:List Nat).Nodup]) kr kr (sound _ _) ⟨(ZjC k _ _ _ hy101),(by decide),trivial⟩ ?_
 refine WA.seq ?_
 refine WA.join (fun s_=>∃(v103:Bool),Zj s_.env [0,3,4,22]=[(0,.val false [.ptr 0 1 0 0]),(3,one (.int .i64 y101.1)),(4,one (.int .i64 y101.2)),(22,one (.bool v103))]∧Zj s_.os [0]=[(0,.box (pvL (Zd v0)))]∧Zh6 v0 y101 v103=some r) ?_ ?_
 {
 rintro s_ ⟨v103,he,ho,hF⟩
 refine WA.keep _ _ he ho ?_
 clear he ho
 refine WA.cond (b:=v103) rfl (fun hb104=>?_) (fun hb104=>?_)
 {
 have hF:=Zi hF hb104
 refine WA.bad [] (t:=70) (env1:=[]) (os1:=[(0,.box (pvL (Zd v0)))]) (O:=[]) kr (sound _ _) trivial ?_
 obtain rfl:=Option.some.inj hF
 exact ⟨rfl,[(Zd v0)],kr,rfl⟩ }
 {
 have hF:=Zh hF hb104
 refine WA.skip ?_
 refine WA.seq ?_
 refine WA.reg [3] [0] [] (env':=[(3,one (.int .i64 y101.1))]) (os':=[(0,.box (pvL (Zd ({ v0 with f_at:=(w64 (v0.f_at+y101.2)) }:Zg))))]) (O:=[]) kr (sound _ _) trivial ?_
 refine WA.seq ?_
 refine WA.reg [2] [0] [] (env':=[(2,one (.int .i64 y101.1))]) (os':=[(0,.box (pvL (Zd ({ v0 with f_at:=(w64 (v0.f_at+y101.2)) }:Zg))))]) (O:=[]) kr (sound _ _) trivial ?_
 refine WA.ret ?_
 obtain rfl:=Option.some.inj hF
 exact Zq (one (.int .i64 y101.1)) [.box (pvL (Zd ({ v0 with f_at:=(w64 (v0.f_at+y101.2)) }:Zg)))] kr kr kr kr (by decide) rfl rfl } }
 {
 rcases Bool.eq_false_or_eq_true (y101.2 == 0) with hb102 | hb102
 {
 have hF:=Zi hF hb102
 refine WA.reg [0,3,4,22] [0] [(2,.bool true)] (env':=[(0,.val false [.ptr 0 1 0 0]),(3,one (.int .i64 y101.1)),(4,one (.int .i64 y101.2)),(22,one (.bool true))]) (os':=[(0,.box (pvL (Zd v0)))]) (O:=[(y101.2 == 0)=true]) kr (sound _ _) ⟨hb102,trivial⟩ ?_
 exact ⟨true,kr,kr,hF⟩ }
 {
 have hF:=Zh hF hb102
 refine WA.reg [0,3,4,22] [0] [(2,.bool false)] (env':=[(0,.val false [.ptr 0 1 0 0]),(3,one (.int .i64 y101.1)),(4,one (.int .i64 y101.2)),(22,one (.bool (decide (y101.1<0))))]) (os':=[(0,.box (pvL (Zd v0)))]) (O:=[(y101.2 == 0)=false]) kr (sound _ _) ⟨hb102,trivial⟩ ?_
 exact ⟨(decide (y101.1<0)),kr,kr,hF⟩ } }
def Zh8 (y128:Int) (v130:Zg):Option (Option (Int×Zg)):=
  (some (some (y128,v130)))
def Zh7 (k:Nat) (v0:Zg) (v116:Zg) (v125:Bool):Option (Option (Int×Zg)):=
  cond v125 (some none) ((if (0:Int)≤v0.f_at∧(v0.f_at:Int)≤v116.f_at∧v116.f_at≤(v116.f_s.length:Int) then (F172 k ((v116.f_s.take (Int.toNat v116.f_at)).drop (Int.toNat v0.f_at))).bind fun y128=>(cond v116.f_over ((Zh8 y128 ({ v116 with f_over:=true }:Zg))) ((Zh8 y128 ({ v116 with f_over:=(decide (y128 > 20)) }:Zg)))) else none))
def ZdA (k:Nat) (self2:Zg→Option (Option (Int×Zg))) (v0:Zg) (v116:Zg) (v122:Bool):Option (Option (Int×Zg)):=
  cond v122 ((self2 ({ v116 with f_at:=(w64 (v116.f_at+1)) }:Zg))) ((cond (v116.f_at == v0.f_at) ((Zh7 k v0 v116 true)) ((Zh7 k v0 v116 (decide (v116.f_at > (w64 (v0.f_at+3))))))))
def ZkU (k:Nat) (self2:Zg→Option (Option (Int×Zg))) (v0:Zg) (v116:Zg):Option (Option (Int×Zg)):=
  cond (decide (v116.f_at<(v116.f_s.length:Int))) (cond (decide (v116.f_at<(w64 (v0.f_at+4)))) ((idxL v116.f_s v116.f_at).bind fun y119=>cond (decide ((y119.toNat:Int)≥48)) ((idxL v116.f_s v116.f_at).bind fun y121=>(ZdA k self2 v0 v116 (decide ((y121.toNat:Int)≤57)))) ((ZdA k self2 v0 v116 false))) ((ZdA k self2 v0 v116 false))) ((ZdA k self2 v0 v116 false))
def ZfY (k:Nat) (v0:Zg):Nat→Zg→Option (Option (Int×Zg))
  | 0,_=>none
  | m_+1,v116=>ZkU k (ZfY k v0 m_) v0 v116
def F142 (k:Nat) (v0:Zg):Option (Option (Int×Zg)):=
  ((ZfY k v0 k v0))
theorem ZfZ (k:Nat) (v0:Zg) (r:Option (Int×Zg)) (hF:F142 k v0=some r):SimP Tryz.prog GL0 badV 142 [.val false [.ptr 0 1 0 0]] [.box (pvL (Zd v0))] (r.map fun r=>(one (.int .i64 r.1),[.box (pvL (Zd r.2))])):=by
 refine Zbb [0] Tryz.func142 rfl kr kr ?_
 show WA _ _ 103 _ _ _
 refine WA.seq ?_
 refine WA.reg [0] [0] [] (env':=[(0,.val false [.ptr 0 1 0 0])]) (os':=[(0,.box (pvL (Zd v0)))]) (O:=[]) kr (sound _ _) trivial ?_
 refine WA.seq ?_
 refine WA.reg [0,3] [0] [] (env':=[(0,.val false [.ptr 0 1 0 0]),(3,one (.int .i64 v0.f_at))]) (os':=[(0,.box (pvL (Zd v0)))]) (O:=[]) kr (sound _ _) trivial ?_
 refine WA.seq ?_
 refine WA.block ?_
 refine WA.loop (fun m s_=>∃(v116:Zg),Zj s_.env [0,3]=[(0,.val false [.ptr 0 1 0 0]),(3,one (.int .i64 v0.f_at))]∧Zj s_.os [0]=[(0,.box (pvL (Zd v116)))]∧ZfY k v0 m v116=some r) k ⟨v0,kr,kr,hF⟩ ?_
 clear hF
 rintro m2 s_ ⟨v116,he,ho,hF⟩
 refine WA.keep _ _ he ho ?_
 clear he ho
 cases m2 with
 | zero=>cases hF
 | succ m2=>
  obtain ⟨self2,hself2⟩:∃g,g=ZfY k v0 m2:=⟨_,rfl⟩
  have hF:ZkU k self2 v0 v116=some r:=by first | (rw [hself2];exact hF) | exact hF
  refine WA.seq ?_
  refine WA.join (fun s_=>∃(v122:Bool),Zj s_.env [0,3,52]=[(0,.val false [.ptr 0 1 0 0]),(3,one (.int .i64 v0.f_at)),(52,one (.bool v122))]∧Zj s_.os [0]=[(0,.box (pvL (Zd v116)))]∧ZdA k self2 v0 v116 v122=some r) ?_ ?_
  {
 rintro s_ ⟨v122,he,ho,hF⟩
 refine WA.keep _ _ he ho ?_
 clear he ho
 refine WA.cond (b:=v122) rfl (fun hb123=>?_) (fun hb123=>?_)
 {
 have hF:=Zi hF hb123
 refine WA.skip ?_
 refine WA.block ?_
 refine WA.reg [0,3] [0] [] (env':=[(0,.val false [.ptr 0 1 0 0]),(3,one (.int .i64 v0.f_at))]) (os':=[(0,.box (pvL (Zd ({ v116 with f_at:=(w64 (v116.f_at+1)) }:Zg))))]) (O:=[]) kr (sound _ _) trivial ?_
 exact ⟨m2,Nat.lt_succ_self _,({ v116 with f_at:=(w64 (v116.f_at+1)) }:Zg),kr,kr,by rw [hself2] at hF;exact hF⟩ }
 {
 have hF:=Zh hF hb123
 refine WA.exit ?_
 refine WA.seq ?_
 refine WA.join (fun s_=>∃(v125:Bool),Zj s_.env [0,3,74]=[(0,.val false [.ptr 0 1 0 0]),(3,one (.int .i64 v0.f_at)),(74,one (.bool v125))]∧Zj s_.os [0]=[(0,.box (pvL (Zd v116)))]∧Zh7 k v0 v116 v125=some r) ?_ ?_
 {
 rintro s_ ⟨v125,he,ho,hF⟩
 refine WA.keep _ _ he ho ?_
 clear he ho
 refine WA.cond (b:=v125) rfl (fun hb126=>?_) (fun hb126=>?_)
 {
 have hF:=Zi hF hb126
 refine WA.bad [] (t:=70) (env1:=[]) (os1:=[(0,.box (pvL (Zd v116)))]) (O:=[]) kr (sound _ _) trivial ?_
 obtain rfl:=Option.some.inj hF
 exact ⟨rfl,[(Zd v116)],kr,rfl⟩ }
 {
 have hF:=Zh hF hb126
 refine WA.skip ?_
 refine WA.seq ?_
 obtain ⟨hc127,hF⟩:=Zn hF
 obtain ⟨y128,hy128,hF⟩:=bind_some hF
 refine WA.regD kr [0,4] [0] [(10,.callR [] (.tup [(false,[.pv (.int .i64 y128)]),(false,[.pv .nilif])]))] (env':=[(0,.val false [.ptr 0 1 0 0]),(4,one (.int .i64 y128))]) (os':=[(0,.box (pvL (Zd v116)))]) (O:=[(0:Int)≤v0.f_at,(v0.f_at:Int)≤v116.f_at,v116.f_at≤(v116.f_s.length:Int),Sim Tryz.prog GL0 172 [one (.str ((v116.f_s.take (Int.toNat v116.f_at)).drop (Int.toNat v0.f_at)))] [] (.tup [(false,[.pv (.int .i64 y128)]),(false,[.pv .nilif])]) [],([]:List Nat).Nodup]) kr kr (sound _ _) ⟨hc127.1,hc127.2.1,hc127.2.2,(Zok k _ _ hy128),(by decide),trivial⟩ ?_
 refine WA.join (fun s_=>∃(v130:Zg),Zj s_.env [4]=[(4,one (.int .i64 y128))]∧Zj s_.os [0]=[(0,.box (pvL (Zd v130)))]∧Zh8 y128 v130=some r) ?_ ?_
 {
 rintro s_ ⟨v130,he,ho,hF⟩
 refine WA.keep _ _ he ho ?_
 clear he ho
 refine WA.seq ?_
 refine WA.reg [2] [0] [] (env':=[(2,one (.int .i64 y128))]) (os':=[(0,.box (pvL (Zd v130)))]) (O:=[]) kr (sound _ _) trivial ?_
 refine WA.ret ?_
 obtain rfl:=Option.some.inj hF
 exact Zq (one (.int .i64 y128)) [.box (pvL (Zd v130))] kr kr kr kr (by decide) rfl rfl }
 {
 rcases Bool.eq_false_or_eq_true v116.f_over with hb129 | hb129
 {
 have hF:=Zi hF hb129
 refine WA.reg [4] [0] [(5,.bool true)] (env':=[(4,one (.int .i64 y128))]) (os':=[(0,.box (pvL (Zd ({ v116 with f_over:=true }:Zg))))]) (O:=[v116.f_over=true]) kr (sound _ _) ⟨hb129,trivial⟩ ?_
 exact ⟨({ v116 with f_over:=true }:Zg),kr,kr,hF⟩ }
 {
 have hF:=Zh hF hb129
 refine WA.reg [4] [0] [(5,.bool false)] (env':=[(4,one (.int .i64 y128))]) (os':=[(0,.box (pvL (Zd ({ v116 with f_over:=(decide (y128 > 20)) }:Zg))))]) (O:=[v116.f_over=false]) kr (sound _ _) ⟨hb129,trivial⟩ ?_
 exact ⟨({ v116 with f_over:=(decide (y128 > 20)) }:Zg),kr,kr,hF⟩ } } } }
 {
 rcases Bool.eq_false_or_eq_true (v116.f_at == v0.f_at) with hb124 | hb124
 {
 have hF:=Zi hF hb124
 refine WA.reg [0,3,74] [0] [(6,.bool true)] (env':=[(0,.val false [.ptr 0 1 0 0]),(3,one (.int .i64 v0.f_at)),(74,one (.bool true))]) (os':=[(0,.box (pvL (Zd v116)))]) (O:=[(v116.f_at == v0.f_at)=true]) kr (sound _ _) ⟨hb124,trivial⟩ ?_
 exact ⟨true,kr,kr,hF⟩ }
 {
 have hF:=Zh hF hb124
 refine WA.reg [0,3,74] [0] [(6,.bool false)] (env':=[(0,.val false [.ptr 0 1 0 0]),(3,one (.int .i64 v0.f_at)),(74,one (.bool (decide (v116.f_at > (w64 (v0.f_at+3))))))]) (os':=[(0,.box (pvL (Zd v116)))]) (O:=[(v116.f_at == v0.f_at)=false]) kr (sound _ _) ⟨hb124,trivial⟩ ?_
 exact ⟨(decide (v116.f_at > (w64 (v0.f_at+3)))),kr,kr,hF⟩ } } } }
  {
 rcases Bool.eq_false_or_eq_true (decide (v116.f_at<(v116.f_s.length:Int))) with hb117 | hb117
 {
 have hF:=Zi hF hb117
 rcases Bool.eq_false_or_eq_true (decide (v116.f_at<(w64 (v0.f_at+4)))) with hb118 | hb118
 {
 have hF:=Zi hF hb118
 obtain ⟨y119,hy119,hF⟩:=bind_some hF
 rcases Bool.eq_false_or_eq_true (decide ((y119.toNat:Int)≥48)) with hb120 | hb120
 {
 have hF:=Zi hF hb120
 obtain ⟨y121,hy121,hF⟩:=bind_some hF
 refine WA.regD kr [0,3,52] [0] [(10,.bool true),(19,.bool true),(28,.num (y119.toNat:Int)),(31,.bool true),(40,.num (y121.toNat:Int))] (env':=[(0,.val false [.ptr 0 1 0 0]),(3,one (.int .i64 v0.f_at)),(52,one (.bool (decide ((y121.toNat:Int)≤57))))]) (os':=[(0,.box (pvL (Zd v116)))]) (O:=[(decide (v116.f_at<(v116.f_s.length:Int)))=true,(decide (v116.f_at<(w64 (v0.f_at+4))))=true,(idxL v116.f_s v116.f_at).map (fun b=>(b.toNat:Int))=some (y119.toNat:Int),(decide ((y119.toNat:Int)≥48))=true,(idxL v116.f_s v116.f_at).map (fun b=>(b.toNat:Int))=some (y121.toNat:Int)]) kr kr (sound _ _) ⟨hb117,hb118,(by rw [hy119];rfl),hb120,(by rw [hy121];rfl),trivial⟩ ?_
 exact ⟨(decide ((y121.toNat:Int)≤57)),kr,kr,hF⟩ }
 {
 have hF:=Zh hF hb120
 refine WA.regD kr [0,3,52] [0] [(10,.bool true),(19,.bool true),(28,.num (y119.toNat:Int)),(31,.bool false)] (env':=[(0,.val false [.ptr 0 1 0 0]),(3,one (.int .i64 v0.f_at)),(52,one (.bool false))]) (os':=[(0,.box (pvL (Zd v116)))]) (O:=[(decide (v116.f_at<(v116.f_s.length:Int)))=true,(decide (v116.f_at<(w64 (v0.f_at+4))))=true,(idxL v116.f_s v116.f_at).map (fun b=>(b.toNat:Int))=some (y119.toNat:Int),(decide ((y119.toNat:Int)≥48))=false]) kr kr (sound _ _) ⟨hb117,hb118,(by rw [hy119];rfl),hb120,trivial⟩ ?_
 exact ⟨false,kr,kr,hF⟩ } }
 {
 have hF:=Zh hF hb118
 refine WA.regD kr [0,3,52] [0] [(10,.bool true),(19,.bool false)] (env':=[(0,.val false [.ptr 0 1 0 0]),(3,one (.int .i64 v0.f_at)),(52,one (.bool false))]) (os':=[(0,.box (pvL (Zd v116)))]) (O:=[(decide (v116.f_at<(v116.f_s.length:Int)))=true,(decide (v116.f_at<(w64 (v0.f_at+4))))=false]) kr kr (sound _ _) ⟨hb117,hb118,trivial⟩ ?_
 exact ⟨false,kr,kr,hF⟩ } }
 {
 have hF:=Zh hF hb117
 refine WA.regD kr [0,3,52] [0] [(10,.bool false)] (env':=[(0,.val false [.ptr 0 1 0 0]),(3,one (.int .i64 v0.f_at)),(52,one (.bool false))]) (os':=[(0,.box (pvL (Zd v116)))]) (O:=[(decide (v116.f_at<(v116.f_s.length:Int)))=false]) kr kr (sound _ _) ⟨hb117,trivial⟩ ?_
 exact ⟨false,kr,kr,hF⟩ } }
def Zdz (k:Nat) (y101:Int×Zg) (v108:Zg) (v109:Int):Option (Option (Int×Int×Zg)):=
  (F71 k v108 ([125]:List UInt8)).bind fun y110=>(cond (!y110.1) (some none) (((some (some (y101.1,v109,y110.2))))))
def F118 (k:Nat) (v0:Zg):Option (Option (Int×Int×Zg)):=
  (orP (F142 k v0) fun y101=>((F71 k y101.2 ([44]:List UInt8)).bind fun y102=>(cond y102.1 ((F97 k y102.2 ([125]:List UInt8)).bind fun y104=>(cond (!y104) (orP (F142 k y102.2) fun y106=>(cond y106.2.f_over ((Zdz k y101 ({ y106.2 with f_over:=true }:Zg) y106.1)) ((Zdz k y101 ({ y106.2 with f_over:=(decide (y106.1<y101.1)) }:Zg) y106.1)))) ((Zdz k y101 y102.2 (-1))))) ((Zdz k y101 y102.2 y101.1)))))
theorem ZkP (k:Nat) (v0:Zg) (r:Option (Int×Int×Zg)) (hF:F118 k v0=some r):SimP Tryz.prog GL0 badV 118 [.val false [.ptr 0 1 0 0]] [.box (pvL (Zd v0))] (r.map fun r=>(.tup [(false,[.pv (.int .i64 r.1)]),(false,[.pv (.int .i64 r.2.1)])],[.box (pvL (Zd r.2.2))])):=by
 refine Zbb [0] Tryz.func118 rfl kr kr ?_
 show WA _ _ 35 _ _ _
 refine WA.seq ?_
 refine WA.reg [0] [0] [] (env':=[(0,.val false [.ptr 0 1 0 0])]) (os':=[(0,.box (pvL (Zd v0)))]) (O:=[]) kr (sound _ _) trivial ?_
 refine WA.seq ?_
 rcases Z7 hF with ⟨hz,hr⟩ | ⟨y101,hy101,hF⟩
 {
 subst hr
 refine WA.regP 1 [0] [] [] badV (f:=142) (args:=[.val false [.ptr 0 1 0 0]]) (os:=[.box (pvL (Zd v0))]) (env1:=[]) (os1:=[(0,.box (pvL (Zd v0)))]) (O:=[]) kr (sound _ _) trivial (by decide) (ZfZ k _ _ hz) (fun psl hpsl=>?_)
 obtain ⟨ps,rfl⟩:=ZT hpsl
 exact ⟨rfl,[ps],kr,rfl⟩ }
 {
 refine WA.reg [0,4] [0] [(1,.call [0] (one (.int .i64 y101.1)) [.box (pvL (Zd y101.2))] [])] (env':=[(0,.val false [.ptr 0 1 0 0]),(4,one (.int .i64 y101.1))]) (os':=[(0,.box (pvL (Zd y101.2)))]) (O:=[Sim Tryz.prog GL0 142 [.val false [.ptr 0 1 0 0]] [.box (pvL (Zd v0))] (one (.int .i64 y101.1)) [.box (pvL (Zd y101.2))],([0]:List Nat).Nodup]) kr (sound _ _) ⟨(ZfZ k _ _ hy101),(by decide),trivial⟩ ?_
 refine WA.seq ?_
 refine WA.reg [0,4,5] [0] [] (env':=[(0,.val false [.ptr 0 1 0 0]),(4,one (.int .i64 y101.1)),(5,one (.int .i64 y101.1))]) (os':=[(0,.box (pvL (Zd y101.2)))]) (O:=[]) kr (sound _ _) trivial ?_
 refine WA.join (fun s_=>∃(v108:Zg) (v109:Int),Zj s_.env [0,4,5]=[(0,.val false [.ptr 0 1 0 0]),(4,one (.int .i64 y101.1)),(5,one (.int .i64 v109))]∧Zj s_.os [0]=[(0,.box (pvL (Zd v108)))]∧Zdz k y101 v108 v109=some r) ?_ ?_
 {
 rintro s_ ⟨v108,v109,he,ho,hF⟩
 refine WA.keep _ _ he ho ?_
 clear he ho
 refine WA.seq ?_
 refine WA.seq ?_
 obtain ⟨y110,hy110,hF⟩:=bind_some hF
 refine WA.reg [4,5,30] [0] [(1,.call [0] (one (.bool y110.1)) [.box (pvL (Zd y110.2))] [])] (env':=[(4,one (.int .i64 y101.1)),(5,one (.int .i64 v109)),(30,one (.bool (!y110.1)))]) (os':=[(0,.box (pvL (Zd y110.2)))]) (O:=[Sim Tryz.prog GL0 71 [.val false [.ptr 0 1 0 0],one (.str ([125]:List UInt8))] [.box (pvL (Zd v108))] (one (.bool y110.1)) [.box (pvL (Zd y110.2))],([0]:List Nat).Nodup]) kr (sound _ _) ⟨(Zar k _ _ _ hy110),(by decide),trivial⟩ ?_
 refine WA.cond (b:=(!y110.1)) rfl (fun hb111=>?_) (fun hb111=>?_)
 {
 have hF:=Zi hF hb111
 refine WA.bad [] (t:=70) (env1:=[]) (os1:=[(0,.box (pvL (Zd y110.2)))]) (O:=[]) kr (sound _ _) trivial ?_
 obtain rfl:=Option.some.inj hF
 exact ⟨rfl,[(Zd y110.2)],kr,rfl⟩ }
 {
 have hF:=Zh hF hb111
 refine WA.skip ?_
 refine WA.seq ?_
 refine WA.reg [2,3] [0] [] (env':=[(2,one (.int .i64 y101.1)),(3,one (.int .i64 v109))]) (os':=[(0,.box (pvL (Zd y110.2)))]) (O:=[]) kr (sound _ _) trivial ?_
 refine WA.ret ?_
 obtain rfl:=Option.some.inj hF
 exact Zq (.tup [(false,[.pv (.int .i64 y101.1)]),(false,[.pv (.int .i64 v109)])]) [.box (pvL (Zd y110.2))] kr kr kr kr (by decide) rfl rfl } }
 {
 refine WA.seq ?_
 obtain ⟨y102,hy102,hF⟩:=bind_some hF
 refine WA.reg [0,4,5,10] [0] [(1,.call [0] (one (.bool y102.1)) [.box (pvL (Zd y102.2))] [])] (env':=[(0,.val false [.ptr 0 1 0 0]),(4,one (.int .i64 y101.1)),(5,one (.int .i64 y101.1)),(10,one (.bool y102.1))]) (os':=[(0,.box (pvL (Zd y102.2)))]) (O:=[Sim Tryz.prog GL0 71 [.val false [.ptr 0 1 0 0],one (.str ([44]:List UInt8))] [.box (pvL (Zd y101.2))] (one (.bool y102.1)) [.box (pvL (Zd y102.2))],([0]:List Nat).Nodup]) kr (sound _ _) ⟨(Zar k _ _ _ hy102),(by decide),trivial⟩ ?_
 refine WA.cond (b:=y102.1) rfl (fun hb103=>?_) (fun hb103=>?_)
 {
 have hF:=Zi hF hb103
 refine WA.seq ?_
 refine WA.reg [0,4,5] [0] [] (env':=[(0,.val false [.ptr 0 1 0 0]),(4,one (.int .i64 y101.1)),(5,one (.int .i64 (-1)))]) (os':=[(0,.box (pvL (Zd y102.2)))]) (O:=[]) kr (sound _ _) trivial ?_
 refine WA.seq ?_
 obtain ⟨y104,hy104,hF⟩:=bind_some hF
 refine WA.reg [0,4,5,13] [0] [(1,.callR [0] (one (.bool y104)))] (env':=[(0,.val false [.ptr 0 1 0 0]),(4,one (.int .i64 y101.1)),(5,one (.int .i64 (-1))),(13,one (.bool (!y104)))]) (os':=[(0,.box (pvL (Zd y102.2)))]) (O:=[Sim Tryz.prog GL0 97 [.val false [.ptr 0 1 0 0],one (.str ([125]:List UInt8))] [.box (pvL (Zd y102.2))] (one (.bool y104)) [.box (pvL (Zd y102.2))],([0]:List Nat).Nodup]) kr (sound _ _) ⟨(ZcY k _ _ _ hy104),(by decide),trivial⟩ ?_
 refine WA.cond (b:=(!y104)) rfl (fun hb105=>?_) (fun hb105=>?_)
 {
 have hF:=Zi hF hb105
 refine WA.seq ?_
 rcases Z7 hF with ⟨hz,hr⟩ | ⟨y106,hy106,hF⟩
 {
 subst hr
 refine WA.regP 1 [0] [] [] badV (f:=142) (args:=[.val false [.ptr 0 1 0 0]]) (os:=[.box (pvL (Zd y102.2))]) (env1:=[]) (os1:=[(0,.box (pvL (Zd y102.2)))]) (O:=[]) kr (sound _ _) trivial (by decide) (ZfZ k _ _ hz) (fun psl hpsl=>?_)
 obtain ⟨ps,rfl⟩:=ZT hpsl
 exact ⟨rfl,[ps],kr,rfl⟩ }
 {
 refine WA.reg [0,4,5] [0] [(1,.call [0] (one (.int .i64 y106.1)) [.box (pvL (Zd y106.2))] [])] (env':=[(0,.val false [.ptr 0 1 0 0]),(4,one (.int .i64 y101.1)),(5,one (.int .i64 y106.1))]) (os':=[(0,.box (pvL (Zd y106.2)))]) (O:=[Sim Tryz.prog GL0 142 [.val false [.ptr 0 1 0 0]] [.box (pvL (Zd y102.2))] (one (.int .i64 y106.1)) [.box (pvL (Zd y106.2))],([0]:List Nat).Nodup]) kr (sound _ _) ⟨(ZfZ k _ _ hy106),(by decide),trivial⟩ ?_
 rcases Bool.eq_false_or_eq_true y106.2.f_over with hb107 | hb107
 {
 have hF:=Zi hF hb107
 refine WA.reg [0,4,5] [0] [(5,.bool true)] (env':=[(0,.val false [.ptr 0 1 0 0]),(4,one (.int .i64 y101.1)),(5,one (.int .i64 y106.1))]) (os':=[(0,.box (pvL (Zd ({ y106.2 with f_over:=true }:Zg))))]) (O:=[y106.2.f_over=true]) kr (sound _ _) ⟨hb107,trivial⟩ ?_
 exact ⟨({ y106.2 with f_over:=true }:Zg),y106.1,kr,kr,hF⟩ }
 {
 have hF:=Zh hF hb107
 refine WA.reg [0,4,5] [0] [(5,.bool false)] (env':=[(0,.val false [.ptr 0 1 0 0]),(4,one (.int .i64 y101.1)),(5,one (.int .i64 y106.1))]) (os':=[(0,.box (pvL (Zd ({ y106.2 with f_over:=(decide (y106.1<y101.1)) }:Zg))))]) (O:=[y106.2.f_over=false]) kr (sound _ _) ⟨hb107,trivial⟩ ?_
 exact ⟨({ y106.2 with f_over:=(decide (y106.1<y101.1)) }:Zg),y106.1,kr,kr,hF⟩ } } }
 {
 have hF:=Zh hF hb105
 refine WA.skip ?_
 exact ⟨y102.2,(-1),kr,kr,hF⟩ } }
 {
 have hF:=Zh hF hb103
 refine WA.skip ?_
 exact ⟨y102.2,y101.1,kr,kr,hF⟩ } } }
def ZfW (y101:Int×Zg) (v109:Int):Option (Option ((List Zb)×Zg)):=
  (some (some (([(⟨v109,v109⟩:Zb)]:List Zb),y101.2)))
def Zh5 (y101:Int×Zg) (v107:Bool):Option (Option ((List Zb)×Zg)):=
  cond v107 (some none) ((ZfW y101 y101.1))
def F139 (k:Nat) (v0:Zg) (v1:List UInt8):Option (Option ((List Zb)×Zg)):=
  (orP (F140 k v0) fun y101=>((cond (y101.1 == 100) ((some (some (([(⟨48,57⟩:Zb)]:List Zb),y101.2)))) ((cond (y101.1 == 110) ((ZfW y101 10)) ((cond (y101.1 == 116) ((ZfW y101 9)) (cond (decide (y101.1 > 126)) ((Zh5 y101 true)) ((F170 k v1 (IntKind.wrap .u8 y101.1)).bind fun y106=>(Zh5 y101 (decide (y106<0))))))))))))
theorem ZfX (k:Nat) (v0:Zg) (v1:List UInt8) (r:Option ((List Zb)×Zg)) (hF:F139 k v0 v1=some r):SimP Tryz.prog GL0 badV 139 [.val false [.ptr 0 1 0 0],one (.str v1)] [.box (pvL (Zd v0))] (r.map fun r=>(.val false [.arr 1 r.1.length],[.box (pvL (Zd r.2)),.arr 2 (r.1.map Za)])):=by
 refine Zbb [0,900] Tryz.func139 rfl kr kr ?_
 show WA _ _ 35 _ _ _
 refine WA.seq ?_
 refine WA.reg [0,1] [0] [(0,.obj 900)] (env':=[(0,.val false [.ptr 0 1 0 0]),(1,one (.str v1))]) (os':=[(0,.box (pvL (Zd v0)))]) (O:=[]) kr (sound _ _) trivial ?_
 refine WA.seq ?_
 rcases Z7 hF with ⟨hz,hr⟩ | ⟨y101,hy101,hF⟩
 {
 subst hr
 refine WA.regP 1 [0] [] [] badV (f:=140) (args:=[.val false [.ptr 0 1 0 0]]) (os:=[.box (pvL (Zd v0))]) (env1:=[]) (os1:=[(0,.box (pvL (Zd v0)))]) (O:=[]) kr (sound _ _) trivial (by decide) (Zcy k _ _ hz) (fun psl hpsl=>?_)
 obtain ⟨ps,rfl⟩:=ZT hpsl
 exact ⟨rfl,[ps],kr,rfl⟩ }
 {
 refine WA.reg [1,5] [0] [(1,.call [0] (one (.int .i64 y101.1)) [.box (pvL (Zd y101.2))] [])] (env':=[(1,one (.str v1)),(5,one (.int .i64 y101.1))]) (os':=[(0,.box (pvL (Zd y101.2)))]) (O:=[Sim Tryz.prog GL0 140 [.val false [.ptr 0 1 0 0]] [.box (pvL (Zd v0))] (one (.int .i64 y101.1)) [.box (pvL (Zd y101.2))],([0]:List Nat).Nodup]) kr (sound _ _) ⟨(Zcy k _ _ hy101),(by decide),trivial⟩ ?_
 refine WA.join (fun s_=>∃(v109:Int),Zj s_.env [5]=[(5,one (.int .i64 v109))]∧Zj s_.os [0]=[(0,.box (pvL (Zd y101.2)))]∧ZfW y101 v109=some r) ?_ ?_
 {
 rintro s_ ⟨v109,he,ho,hF⟩
 refine WA.keep _ _ he ho ?_
 clear he ho
 refine WA.seq ?_
 refine WA.reg [4] [0,900] [(3,.obj 900)] (env':=[(4,.val false [.arr 900 1])]) (os':=[(0,.box (pvL (Zd y101.2))),(900,.arr 2 (([(⟨v109,v109⟩:Zb)]:List Zb).map Za))]) (O:=[]) kr (sound _ _) trivial ?_
 refine WA.ret ?_
 obtain rfl:=Option.some.inj hF
 exact Zq (.val false [.arr 900 1]) [.box (pvL (Zd y101.2)),.arr 2 (([(⟨v109,v109⟩:Zb)]:List Zb).map Za)] kr (by have h0_:1=(([(⟨v109,v109⟩:Zb)]:List Zb):List _).length:=zt;rw [h0_] <;> rfl) kr kr (by decide) rfl rfl }
 {
 refine WA.block ?_
 refine WA.seq ?_
 refine WA.reg [1,5,8] [0] [] (env':=[(1,one (.str v1)),(5,one (.int .i64 y101.1)),(8,one (.bool (y101.1 == 100)))]) (os':=[(0,.box (pvL (Zd y101.2)))]) (O:=[]) kr (sound _ _) trivial ?_
 refine WA.cond (b:=(y101.1 == 100)) rfl (fun hb102=>?_) (fun hb102=>?_)
 {
 have hF:=Zi hF hb102
 refine WA.seq ?_
 refine WA.reg [4] [0,900] [(1,.obj 900)] (env':=[(4,.val false [.arr 900 1])]) (os':=[(0,.box (pvL (Zd y101.2))),(900,.arr 2 (([(⟨48,57⟩:Zb)]:List Zb).map Za))]) (O:=[]) kr (sound _ _) trivial ?_
 refine WA.ret ?_
 obtain rfl:=Option.some.inj hF
 exact Zq (.val false [.arr 900 1]) [.box (pvL (Zd y101.2)),.arr 2 (([(⟨48,57⟩:Zb)]:List Zb).map Za)] kr (by have h0_:1=(([(⟨48,57⟩:Zb)]:List Zb):List _).length:=zt;rw [h0_] <;> rfl) kr kr (by decide) rfl rfl }
 {
 have hF:=Zh hF hb102
 refine WA.seq ?_
 refine WA.reg [1,5,13] [0] [] (env':=[(1,one (.str v1)),(5,one (.int .i64 y101.1)),(13,one (.bool (y101.1 == 110)))]) (os':=[(0,.box (pvL (Zd y101.2)))]) (O:=[]) kr (sound _ _) trivial ?_
 refine WA.cond (b:=(y101.1 == 110)) rfl (fun hb103=>?_) (fun hb103=>?_)
 {
 have hF:=Zi hF hb103
 refine WA.reg [5] [0] [] (env':=[(5,one (.int .i64 10))]) (os':=[(0,.box (pvL (Zd y101.2)))]) (O:=[]) kr (sound _ _) trivial ?_
 exact ⟨10,kr,kr,hF⟩ }
 {
 have hF:=Zh hF hb103
 refine WA.seq ?_
 refine WA.reg [1,5,16] [0] [] (env':=[(1,one (.str v1)),(5,one (.int .i64 y101.1)),(16,one (.bool (y101.1 == 116)))]) (os':=[(0,.box (pvL (Zd y101.2)))]) (O:=[]) kr (sound _ _) trivial ?_
 refine WA.cond (b:=(y101.1 == 116)) rfl (fun hb104=>?_) (fun hb104=>?_)
 {
 have hF:=Zi hF hb104
 refine WA.reg [5] [0] [] (env':=[(5,one (.int .i64 9))]) (os':=[(0,.box (pvL (Zd y101.2)))]) (O:=[]) kr (sound _ _) trivial ?_
 exact ⟨9,kr,kr,hF⟩ }
 {
 have hF:=Zh hF hb104
 refine WA.join (fun s_=>∃(v107:Bool),Zj s_.env [5,19]=[(5,one (.int .i64 y101.1)),(19,one (.bool v107))]∧Zj s_.os [0]=[(0,.box (pvL (Zd y101.2)))]∧Zh5 y101 v107=some r) ?_ ?_
 {
 rintro s_ ⟨v107,he,ho,hF⟩
 refine WA.keep _ _ he ho ?_
 clear he ho
 refine WA.cond (b:=v107) rfl (fun hb108=>?_) (fun hb108=>?_)
 {
 have hF:=Zi hF hb108
 refine WA.bad [] (t:=70) (env1:=[]) (os1:=[(0,.box (pvL (Zd y101.2)))]) (O:=[]) kr (sound _ _) trivial ?_
 obtain rfl:=Option.some.inj hF
 exact ⟨rfl,[(Zd y101.2)],kr,rfl⟩ }
 {
 have hF:=Zh hF hb108
 refine WA.skip ?_
 exact ⟨y101.1,kr,kr,hF⟩ } }
 {
 rcases Bool.eq_false_or_eq_true (decide (y101.1 > 126)) with hb105 | hb105
 {
 have hF:=Zi hF hb105
 refine WA.reg [5,19] [0] [(2,.bool true)] (env':=[(5,one (.int .i64 y101.1)),(19,one (.bool true))]) (os':=[(0,.box (pvL (Zd y101.2)))]) (O:=[(decide (y101.1 > 126))=true]) kr (sound _ _) ⟨hb105,trivial⟩ ?_
 exact ⟨true,kr,kr,hF⟩ }
 {
 have hF:=Zh hF hb105
 obtain ⟨y106,hy106,hF⟩:=bind_some hF
 refine WA.reg [5,19] [0] [(2,.bool false),(6,.callR [] (one (.int .i64 y106)))] (env':=[(5,one (.int .i64 y101.1)),(19,one (.bool (decide (y106<0))))]) (os':=[(0,.box (pvL (Zd y101.2)))]) (O:=[(decide (y101.1 > 126))=false,Sim Tryz.prog GL0 170 [one (.str v1),one (.int .u8 (IntKind.wrap .u8 y101.1))] [] (one (.int .i64 y106)) [],([]:List Nat).Nodup]) kr (sound _ _) ⟨hb105,(Zoj k _ _ _ hy106),(by decide),trivial⟩ ?_
 exact ⟨(decide (y106<0)),kr,kr,hF⟩ } } } } } } }
def F169 (k:Nat) (v0:Zg):Option (Option ((List Zb)×Zg)):=
  (F71 k v0 ([92]:List UInt8)).bind fun y101=>(cond y101.1 (orP (F139 k y101.2 ([92,46,91,93,40,41,123,125,42,43,63,124,94,36,45,47]:List UInt8)) fun y103=>(some (some (y103.1,y103.2)))) ((orP (F140 k y101.2) fun y104=>(F141 k ([92,91,93,94,45]:List UInt8) (IntKind.wrap .i32 y104.1)).bind fun y105=>(cond y105 (some none) (((some (some (([(⟨y104.1,y104.1⟩:Zb)]:List Zb),y104.2)))))))))
theorem Zf4 (k:Nat) (v0:Zg) (r:Option ((List Zb)×Zg)) (hF:F169 k v0=some r):SimP Tryz.prog GL0 badV 169 [.val false [.ptr 0 1 0 0]] [.box (pvL (Zd v0))] (r.map fun r=>(.val false [.arr 1 r.1.length],[.box (pvL (Zd r.2)),.arr 2 (r.1.map Za)])):=by
 refine Zbb [0,900] Tryz.func169 rfl kr kr ?_
 show WA _ _ 19 _ _ _
 refine WA.seq ?_
 refine WA.reg [0] [0] [(0,.obj 900)] (env':=[(0,.val false [.ptr 0 1 0 0])]) (os':=[(0,.box (pvL (Zd v0)))]) (O:=[]) kr (sound _ _) trivial ?_
 refine WA.seq ?_
 refine WA.seq ?_
 obtain ⟨y101,hy101,hF⟩:=bind_some hF
 refine WA.reg [0,5] [0] [(1,.call [0] (one (.bool y101.1)) [.box (pvL (Zd y101.2))] [])] (env':=[(0,.val false [.ptr 0 1 0 0]),(5,one (.bool y101.1))]) (os':=[(0,.box (pvL (Zd y101.2)))]) (O:=[Sim Tryz.prog GL0 71 [.val false [.ptr 0 1 0 0],one (.str ([92]:List UInt8))] [.box (pvL (Zd v0))] (one (.bool y101.1)) [.box (pvL (Zd y101.2))],([0]:List Nat).Nodup]) kr (sound _ _) ⟨(Zar k _ _ _ hy101),(by decide),trivial⟩ ?_
 refine WA.cond (b:=y101.1) rfl (fun hb102=>?_) (fun hb102=>?_)
 {
 have hF:=Zi hF hb102
 refine WA.seq ?_
 rcases Z7 hF with ⟨hz,hr⟩ | ⟨y103,hy103,hF⟩
 {
 subst hr
 refine WA.regP 1 [0] [] [] badV (f:=139) (args:=[.val false [.ptr 0 1 0 0],one (.str ([92,46,91,93,40,41,123,125,42,43,63,124,94,36,45,47]:List UInt8))]) (os:=[.box (pvL (Zd y101.2))]) (env1:=[]) (os1:=[(0,.box (pvL (Zd y101.2)))]) (O:=[]) kr (sound _ _) trivial (by decide) (ZfX k _ _ _ hz) (fun psl hpsl=>?_)
 obtain ⟨ps,rfl⟩:=ZT hpsl
 exact ⟨rfl,[ps],kr,rfl⟩ }
 {
 refine WA.reg [2] [0,900] [(1,.call [0] (.val false [.arr 1 y103.1.length]) [.box (pvL (Zd y103.2)),.arr 2 (y103.1.map Za)] [900])] (env':=[(2,.val false [.arr 900 y103.1.length])]) (os':=[(0,.box (pvL (Zd y103.2))),(900,.arr 2 (y103.1.map Za))]) (O:=[Sim Tryz.prog GL0 139 [.val false [.ptr 0 1 0 0],one (.str ([92,46,91,93,40,41,123,125,42,43,63,124,94,36,45,47]:List UInt8))] [.box (pvL (Zd y101.2))] (.val false [.arr 1 y103.1.length]) [.box (pvL (Zd y103.2)),.arr 2 (y103.1.map Za)],([0]:List Nat).Nodup]) kr (sound _ _) ⟨(ZfX k _ _ _ hy103),(by decide),trivial⟩ ?_
 refine WA.ret ?_
 obtain rfl:=Option.some.inj hF
 exact Zq (.val false [.arr 900 y103.1.length]) [.box (pvL (Zd y103.2)),.arr 2 (y103.1.map Za)] kr kr kr kr (by decide) rfl rfl } }
 {
 have hF:=Zh hF hb102
 refine WA.skip ?_
 refine WA.seq ?_
 rcases Z7 hF with ⟨hz,hr⟩ | ⟨y104,hy104,hF⟩
 {
 subst hr
 refine WA.regP 1 [0] [] [] badV (f:=140) (args:=[.val false [.ptr 0 1 0 0]]) (os:=[.box (pvL (Zd y101.2))]) (env1:=[]) (os1:=[(0,.box (pvL (Zd y101.2)))]) (O:=[]) kr (sound _ _) trivial (by decide) (Zcy k _ _ hz) (fun psl hpsl=>?_)
 obtain ⟨ps,rfl⟩:=ZT hpsl
 exact ⟨rfl,[ps],kr,rfl⟩ }
 {
 refine WA.reg [3] [0] [(1,.call [0] (one (.int .i64 y104.1)) [.box (pvL (Zd y104.2))] [])] (env':=[(3,one (.int .i64 y104.1))]) (os':=[(0,.box (pvL (Zd y104.2)))]) (O:=[Sim Tryz.prog GL0 140 [.val false [.ptr 0 1 0 0]] [.box (pvL (Zd y101.2))] (one (.int .i64 y104.1)) [.box (pvL (Zd y104.2))],([0]:List Nat).Nodup]) kr (sound _ _) ⟨(Zcy k _ _ hy104),(by decide),trivial⟩ ?_
 refine WA.seq ?_
 refine WA.seq ?_
 obtain ⟨y105,hy105,hF⟩:=bind_some hF
 refine WA.reg [3,12] [0] [(2,.callR [] (one (.bool y105)))] (env':=[(3,one (.int .i64 y104.1)),(12,one (.bool y105))]) (os':=[(0,.box (pvL (Zd y104.2)))]) (O:=[Sim Tryz.prog GL0 141 [one (.str ([92,91,93,94,45]:List UInt8)),one (.int .i32 (IntKind.wrap .i32 y104.1))] [] (one (.bool y105)) [],([]:List Nat).Nodup]) kr (sound _ _) ⟨(ZkT k _ _ _ hy105),(by decide),trivial⟩ ?_
 refine WA.cond (b:=y105) rfl (fun hb106=>?_) (fun hb106=>?_)
 {
 have hF:=Zi hF hb106
 refine WA.bad [] (t:=70) (env1:=[]) (os1:=[(0,.box (pvL (Zd y104.2)))]) (O:=[]) kr (sound _ _) trivial ?_
 obtain rfl:=Option.some.inj hF
 exact ⟨rfl,[(Zd y104.2)],kr,rfl⟩ }
 {
 have hF:=Zh hF hb106
 refine WA.skip ?_
 refine WA.seq ?_
 refine WA.reg [2] [0,900] [(3,.obj 900)] (env':=[(2,.val false [.arr 900 1])]) (os':=[(0,.box (pvL (Zd y104.2))),(900,.arr 2 (([(⟨y104.1,y104.1⟩:Zb)]:List Zb).map Za))]) (O:=[]) kr (sound _ _) trivial ?_
 refine WA.ret ?_
 obtain rfl:=Option.some.inj hF
 exact Zq (.val false [.arr 900 1]) [.box (pvL (Zd y104.2)),.arr 2 (([(⟨y104.1,y104.1⟩:Zb)]:List Zb).map Za)] kr (by have h0_:1=(([(⟨y104.1,y104.1⟩:Zb)]:List Zb):List _).length:=zt;rw [h0_] <;> rfl) kr kr (by decide) rfl rfl } } }
end Go.Proofs.YthilboheomikjaaGreatDoor
end
section
namespace Go.Proofs.YthilboheomikjaaGreatDoor
open Go.AL
set_option maxRecDepth 100000
def Zh3 (self5:Zg→(List Zb)→Bool→Option (Option (Ze×Zg))) (v153:List Zb) (v177:Zg) (v178:List Zb):Option (Option (Ze×Zg)):=
  if v153.length+v178.length≤1073741824 then (self5 v177 (v153 ++ v178) false) else none
def ZfU (self5:Zg→(List Zb)→Bool→Option (Option (Ze×Zg))) (v153:List Zb) (y162:(List Zb)×Zg) (y166:(List Zb)×Zg) (v172:Bool):Option (Option (Ze×Zg)):=
  cond v172 (some none) ((idxL y166.1 0).bind fun y174=>if (0:Int)≤0∧0<(y162.1.length:Int) then (idxL y162.1 0).bind fun y176=>(Zh3 self5 v153 y166.2 (y162.1.set (Int.toNat 0) ({ y176 with f_Hi:=y174.f_Lo }:Zb))) else none)
def Zh4 (k:Nat) (v158:Zg) (v186:List Zb):Option (Option (Ze×Zg)):=
  (F58 k v186).bind fun y187=>(some (some (y187,v158)))
def Zh2 (k:Nat) (self5:Zg→(List Zb)→Bool→Option (Option (Ze×Zg))) (y101:Bool×Zg) (v153:List Zb) (v158:Zg) (v159:Bool):Option (Option (Ze×Zg)):=
  cond v159 ((F97 k v158 ([92,100]:List UInt8)).bind fun y161=>(orP (F169 k v158) fun y162=>(F71 k y162.2 ([45]:List UInt8)).bind fun y163=>(cond y163.1 ((F97 k y163.2 ([92,100]:List UInt8)).bind fun y165=>(orP (F169 k y163.2) fun y166=>(cond y161 ((ZfU self5 v153 y162 y166 true)) (cond y165 ((ZfU self5 v153 y162 y166 true)) ((idxL y166.1 0).bind fun y169=>if (0:Int)≤0∧0<(y162.1.length:Int) then (idxL y162.1 0).bind fun y171=>(ZfU self5 v153 y162 y166 (decide (y169.f_Lo<y171.f_Lo))) else none))))) ((Zh3 self5 v153 y163.2 y162.1))))) ((F77 k v153).bind fun y181=>(F59 k).bind fun y182=>(F76 k y181 y182).bind fun y183=>((cond y101.1 ((F109 k y183).bind fun y185=>(Zh4 k v158 y185)) ((Zh4 k v158 y183)))))
def ZkR (k:Nat) (self5:Zg→(List Zb)→Bool→Option (Option (Ze×Zg))) (y101:Bool×Zg) (v152:Zg) (v153:List Zb) (v155:Bool):Option (Option (Ze×Zg)):=
  cond v155 ((Zh2 k self5 y101 v153 v152 true)) ((F71 k v152 ([93]:List UInt8)).bind fun y157=>(Zh2 k self5 y101 v153 y157.2 (!y157.1)))
def ZfV (k:Nat) (y101:Bool×Zg):Nat→Zg→(List Zb)→Bool→Option (Option (Ze×Zg))
  | 0,_,_,_=>none
  | m_+1,v152,v153,v155=>ZkR k (ZfV k y101 m_) y101 v152 v153 v155
def F138 (k:Nat) (v0:Zg):Option (Option (Ze×Zg)):=
  (F71 k v0 ([94]:List UInt8)).bind fun y101=>(((ZfV k y101 k y101.2 ([]:List Zb) true)))
theorem ZkS (k:Nat) (v0:Zg) (r:Option (Ze×Zg)) (hF:F138 k v0=some r):SimP Tryz.prog GL0 badV 138 [.val false [.ptr 0 1 0 0]] [.box (pvL (Zd v0))] (r.map fun r=>(.val true (pvL (Zc r.1)),[.box (pvL (Zd r.2))])):=by
 refine Zbb [0] Tryz.func138 rfl kr kr ?_
 show WA _ _ 64 _ _ _
 refine WA.seq ?_
 refine WA.reg [0,2] [0,102] [(0,.obj 102)] (env':=[(0,.val false [.ptr 0 1 0 0]),(2,.val false [.ptr 102 1 0 0])]) (os':=[(0,.box (pvL (Zd v0))),(102,.box (pvL (Zc (⟨0,([]:List Zb),([]:List Ze),0,0⟩:Ze))))]) (O:=[]) kr (sound _ _) trivial ?_
 refine WA.seq ?_
 obtain ⟨y101,hy101,hF⟩:=bind_some hF
 refine WA.reg [0,2,3] [0,102] [(1,.call [0] (one (.bool y101.1)) [.box (pvL (Zd y101.2))] [])] (env':=[(0,.val false [.ptr 0 1 0 0]),(2,.val false [.ptr 102 1 0 0]),(3,one (.bool y101.1))]) (os':=[(0,.box (pvL (Zd y101.2))),(102,.box (pvL (Zc (⟨0,([]:List Zb),([]:List Ze),0,0⟩:Ze))))]) (O:=[Sim Tryz.prog GL0 71 [.val false [.ptr 0 1 0 0],one (.str ([94]:List UInt8))] [.box (pvL (Zd v0))] (one (.bool y101.1)) [.box (pvL (Zd y101.2))],([0]:List Nat).Nodup]) kr (sound _ _) ⟨(Zar k _ _ _ hy101),(by decide),trivial⟩ ?_
 refine WA.seq ?_
 refine WA.reg [0,2,3,4] [0,102,104] [(0,.obj 104)] (env':=[(0,.val false [.ptr 0 1 0 0]),(2,.val false [.ptr 102 1 0 0]),(3,one (.bool y101.1)),(4,.val false [.arr 104 0])]) (os':=[(0,.box (pvL (Zd y101.2))),(102,.box (pvL (Zc (⟨0,([]:List Zb),([]:List Ze),0,0⟩:Ze)))),(104,.arr 2 (([]:List Zb).map Za))]) (O:=[]) kr (sound _ _) trivial ?_
 refine WA.seq ?_
 refine WA.seq ?_
 refine WA.reg [0,2,3,4,5] [0,102,104] [] (env':=[(0,.val false [.ptr 0 1 0 0]),(2,.val false [.ptr 102 1 0 0]),(3,one (.bool y101.1)),(4,.val false [.arr 104 0]),(5,one (.bool true))]) (os':=[(0,.box (pvL (Zd y101.2))),(102,.box (pvL (Zc (⟨0,([]:List Zb),([]:List Ze),0,0⟩:Ze)))),(104,.arr 2 (([]:List Zb).map Za))]) (O:=[]) kr (sound _ _) trivial ?_
 refine WA.block ?_
 refine WA.loop (fun m s_=>∃(v152:Zg) (v153:List Zb) (v154:Nat) (v155:Bool),Zj s_.env [0,2,3,4,5]=[(0,.val false [.ptr 0 1 0 0]),(2,.val false [.ptr 102 1 0 0]),(3,one (.bool y101.1)),(4,.val false [.arr 104 v154]),(5,one (.bool v155))]∧Zj s_.os [0,102,104]=[(0,.box (pvL (Zd v152))),(102,.box (pvL (Zc (⟨0,([]:List Zb),([]:List Ze),0,0⟩:Ze)))),(104,.arr 2 (v153.map Za))]∧v154=(v153:List _).length∧ZfV k y101 m v152 v153 v155=some r) k ⟨y101.2,([]:List Zb),0,true,kr,kr,zt,hF⟩ ?_
 clear hF
 rintro m5 s_ ⟨v152,v153,v154,v155,he,ho,hn_v154,hF⟩
 refine WA.keep _ _ he ho ?_
 clear he ho
 cases m5 with
 | zero=>cases hF
 | succ m5=>
  obtain ⟨self5,hself5⟩:∃g,g=ZfV k y101 m5:=⟨_,rfl⟩
  have hF:ZkR k self5 y101 v152 v153 v155=some r:=by first | (rw [hself5];exact hF) | exact hF
  refine WA.seq ?_
  refine WA.join (fun s_=>∃(v158:Zg) (v159:Bool),Zj s_.env [0,2,3,4,17]=[(0,.val false [.ptr 0 1 0 0]),(2,.val false [.ptr 102 1 0 0]),(3,one (.bool y101.1)),(4,.val false [.arr 104 v154]),(17,one (.bool v159))]∧Zj s_.os [0,102,104]=[(0,.box (pvL (Zd v158))),(102,.box (pvL (Zc (⟨0,([]:List Zb),([]:List Ze),0,0⟩:Ze)))),(104,.arr 2 (v153.map Za))]∧Zh2 k self5 y101 v153 v158 v159=some r) ?_ ?_
  {
 rintro s_ ⟨v158,v159,he,ho,hF⟩
 refine WA.keep _ _ he ho ?_
 clear he ho
 refine WA.cond (b:=v159) rfl (fun hb160=>?_) (fun hb160=>?_)
 {
 have hF:=Zi hF hb160
 refine WA.skip ?_
 refine WA.seq ?_
 refine WA.block ?_
 refine WA.seq ?_
 obtain ⟨y161,hy161,hF⟩:=bind_some hF
 refine WA.reg [0,2,3,4,6] [0,102,104] [(1,.callR [0] (one (.bool y161)))] (env':=[(0,.val false [.ptr 0 1 0 0]),(2,.val false [.ptr 102 1 0 0]),(3,one (.bool y101.1)),(4,.val false [.arr 104 v154]),(6,one (.bool y161))]) (os':=[(0,.box (pvL (Zd v158))),(102,.box (pvL (Zc (⟨0,([]:List Zb),([]:List Ze),0,0⟩:Ze)))),(104,.arr 2 (v153.map Za))]) (O:=[Sim Tryz.prog GL0 97 [.val false [.ptr 0 1 0 0],one (.str ([92,100]:List UInt8))] [.box (pvL (Zd v158))] (one (.bool y161)) [.box (pvL (Zd v158))],([0]:List Nat).Nodup]) kr (sound _ _) ⟨(ZcY k _ _ _ hy161),(by decide),trivial⟩ ?_
 refine WA.seq ?_
 rcases Z7 hF with ⟨hz,hr⟩ | ⟨y162,hy162,hF⟩
 {
 subst hr
 refine WA.regP 1 [0] [] [] badV (f:=169) (args:=[.val false [.ptr 0 1 0 0]]) (os:=[.box (pvL (Zd v158))]) (env1:=[]) (os1:=[(0,.box (pvL (Zd v158))),(102,.box (pvL (Zc (⟨0,([]:List Zb),([]:List Ze),0,0⟩:Ze)))),(104,.arr 2 (v153.map Za))]) (O:=[]) kr (sound _ _) trivial (by decide) (Zf4 k _ _ hz) (fun psl hpsl=>?_)
 obtain ⟨ps,rfl⟩:=ZT hpsl
 exact ⟨rfl,[ps],kr,rfl⟩ }
 {
 refine WA.reg [0,2,3,4,6,7] [0,102,104,121] [(1,.call [0] (.val false [.arr 1 y162.1.length]) [.box (pvL (Zd y162.2)),.arr 2 (y162.1.map Za)] [121])] (env':=[(0,.val false [.ptr 0 1 0 0]),(2,.val false [.ptr 102 1 0 0]),(3,one (.bool y101.1)),(4,.val false [.arr 104 v154]),(6,one (.bool y161)),(7,.val false [.arr 121 y162.1.length])]) (os':=[(0,.box (pvL (Zd y162.2))),(102,.box (pvL (Zc (⟨0,([]:List Zb),([]:List Ze),0,0⟩:Ze)))),(104,.arr 2 (v153.map Za)),(121,.arr 2 (y162.1.map Za))]) (O:=[Sim Tryz.prog GL0 169 [.val false [.ptr 0 1 0 0]] [.box (pvL (Zd v158))] (.val false [.arr 1 y162.1.length]) [.box (pvL (Zd y162.2)),.arr 2 (y162.1.map Za)],([0]:List Nat).Nodup]) kr (sound _ _) ⟨(Zf4 k _ _ hy162),(by decide),trivial⟩ ?_
 refine WA.join (fun s_=>∃(v177:Zg) (v178:List Zb) (v179:Nat),Zj s_.env [0,2,3,4,7]=[(0,.val false [.ptr 0 1 0 0]),(2,.val false [.ptr 102 1 0 0]),(3,one (.bool y101.1)),(4,.val false [.arr 104 v154]),(7,.val false [.arr 121 v179])]∧Zj s_.os [0,102,104,121]=[(0,.box (pvL (Zd v177))),(102,.box (pvL (Zc (⟨0,([]:List Zb),([]:List Ze),0,0⟩:Ze)))),(104,.arr 2 (v153.map Za)),(121,.arr 2 (v178.map Za))]∧v179=(v178:List _).length∧Zh3 self5 v153 v177 v178=some r) ?_ ?_
 {
 rintro s_ ⟨v177,v178,v179,he,ho,hn_v179,hF⟩
 refine WA.keep _ _ he ho ?_
 clear he ho
 refine WA.freeze 121 7 (s:=2) (n:=v179) (els:=(v178.map Za)) rfl rfl zt ?_
 refine WA.keep [0,2,3,4,7] [0,102,104] (env':=[(0,.val false [.ptr 0 1 0 0]),(2,.val false [.ptr 102 1 0 0]),(3,one (.bool y101.1)),(4,.val false [.arr 104 v154]),(7,one (.sl (v178.map Za)))]) (os':=[(0,.box (pvL (Zd v177))),(102,.box (pvL (Zc (⟨0,([]:List Zb),([]:List Ze),0,0⟩:Ze)))),(104,.arr 2 (v153.map Za))]) kr kr ?_
 obtain ⟨hc180,hF⟩:=Zn hF
 refine WA.rm (α:=Nat×(List (List PV))) (raw:=((v154+(v178.map Za).length),((v153.map Za) ++ (v178.map Za)))) (can:=((v154+v178.length),((v153 ++ v178).map Za))) (fun m_=>([(0,.val false [.ptr 0 1 0 0]),(2,.val false [.ptr 102 1 0 0]),(3,one (.bool y101.1)),(4,.val false [.arr 104 m_.1])],[(0,.box (pvL (Zd v177))),(102,.box (pvL (Zc (⟨0,([]:List Zb),([]:List Ze),0,0⟩:Ze)))),(104,.arr 2 m_.2)],[v154=(v153.map Za).length,(v153.map Za).length+(v178.map Za).length≤1073741824,∀es,es∈(v178.map Za)→es.length=2])) (ZE (by first | (simp only [zl,Zf];done) | (simp only [zl,Zf];omega) | omega) zm) [0,2,3,4] [0,102,104] [] kr (sound _ _) ⟨zt,(by first | exact hc180 | (simp only [List.length_map,Zf];exact hc180)),(Z8 v178),trivial⟩ ?_
 refine WA.reg [0,2,3,4,5] [0,102,104] [] (env':=[(0,.val false [.ptr 0 1 0 0]),(2,.val false [.ptr 102 1 0 0]),(3,one (.bool y101.1)),(4,.val false [.arr 104 (v154+v178.length)]),(5,one (.bool false))]) (os':=[(0,.box (pvL (Zd v177))),(102,.box (pvL (Zc (⟨0,([]:List Zb),([]:List Ze),0,0⟩:Ze)))),(104,.arr 2 ((v153 ++ v178).map Za))]) (O:=[]) kr (sound _ _) trivial ?_
 exact ⟨m5,Nat.lt_succ_self _,v177,(v153 ++ v178),(v154+v178.length),false,kr,kr,zt,by rw [hself5] at hF;exact hF⟩ }
 {
 refine WA.seq ?_
 obtain ⟨y163,hy163,hF⟩:=bind_some hF
 refine WA.reg [0,2,3,4,6,7,23] [0,102,104,121] [(1,.call [0] (one (.bool y163.1)) [.box (pvL (Zd y163.2))] [])] (env':=[(0,.val false [.ptr 0 1 0 0]),(2,.val false [.ptr 102 1 0 0]),(3,one (.bool y101.1)),(4,.val false [.arr 104 v154]),(6,one (.bool y161)),(7,.val false [.arr 121 y162.1.length]),(23,one (.bool y163.1))]) (os':=[(0,.box (pvL (Zd y163.2))),(102,.box (pvL (Zc (⟨0,([]:List Zb),([]:List Ze),0,0⟩:Ze)))),(104,.arr 2 (v153.map Za)),(121,.arr 2 (y162.1.map Za))]) (O:=[Sim Tryz.prog GL0 71 [.val false [.ptr 0 1 0 0],one (.str ([45]:List UInt8))] [.box (pvL (Zd y162.2))] (one (.bool y163.1)) [.box (pvL (Zd y163.2))],([0]:List Nat).Nodup]) kr (sound _ _) ⟨(Zar k _ _ _ hy163),(by decide),trivial⟩ ?_
 refine WA.cond (b:=y163.1) rfl (fun hb164=>?_) (fun hb164=>?_)
 {
 have hF:=Zi hF hb164
 refine WA.seq ?_
 obtain ⟨y165,hy165,hF⟩:=bind_some hF
 refine WA.reg [0,2,3,4,6,7,8] [0,102,104,121] [(1,.callR [0] (one (.bool y165)))] (env':=[(0,.val false [.ptr 0 1 0 0]),(2,.val false [.ptr 102 1 0 0]),(3,one (.bool y101.1)),(4,.val false [.arr 104 v154]),(6,one (.bool y161)),(7,.val false [.arr 121 y162.1.length]),(8,one (.bool y165))]) (os':=[(0,.box (pvL (Zd y163.2))),(102,.box (pvL (Zc (⟨0,([]:List Zb),([]:List Ze),0,0⟩:Ze)))),(104,.arr 2 (v153.map Za)),(121,.arr 2 (y162.1.map Za))]) (O:=[Sim Tryz.prog GL0 97 [.val false [.ptr 0 1 0 0],one (.str ([92,100]:List UInt8))] [.box (pvL (Zd y163.2))] (one (.bool y165)) [.box (pvL (Zd y163.2))],([0]:List Nat).Nodup]) kr (sound _ _) ⟨(ZcY k _ _ _ hy165),(by decide),trivial⟩ ?_
 refine WA.seq ?_
 rcases Z7 hF with ⟨hz,hr⟩ | ⟨y166,hy166,hF⟩
 {
 subst hr
 refine WA.regP 1 [0] [] [] badV (f:=169) (args:=[.val false [.ptr 0 1 0 0]]) (os:=[.box (pvL (Zd y163.2))]) (env1:=[]) (os1:=[(0,.box (pvL (Zd y163.2))),(102,.box (pvL (Zc (⟨0,([]:List Zb),([]:List Ze),0,0⟩:Ze)))),(104,.arr 2 (v153.map Za)),(121,.arr 2 (y162.1.map Za))]) (O:=[]) kr (sound _ _) trivial (by decide) (Zf4 k _ _ hz) (fun psl hpsl=>?_)
 obtain ⟨ps,rfl⟩:=ZT hpsl
 exact ⟨rfl,[ps],kr,rfl⟩ }
 {
 refine WA.reg [0,2,3,4,6,7,8,9] [0,102,104,121] [(1,.call [0] (one (.sl (y166.1.map Za))) [.box (pvL (Zd y166.2))] [])] (env':=[(0,.val false [.ptr 0 1 0 0]),(2,.val false [.ptr 102 1 0 0]),(3,one (.bool y101.1)),(4,.val false [.arr 104 v154]),(6,one (.bool y161)),(7,.val false [.arr 121 y162.1.length]),(8,one (.bool y165)),(9,one (.sl (y166.1.map Za)))]) (os':=[(0,.box (pvL (Zd y166.2))),(102,.box (pvL (Zc (⟨0,([]:List Zb),([]:List Ze),0,0⟩:Ze)))),(104,.arr 2 (v153.map Za)),(121,.arr 2 (y162.1.map Za))]) (O:=[Sim Tryz.prog GL0 169 [.val false [.ptr 0 1 0 0]] [.box (pvL (Zd y163.2))] (one (.sl (y166.1.map Za))) [.box (pvL (Zd y166.2))],([0]:List Nat).Nodup]) kr (sound _ _) ⟨(Zlu (os':=[.box (pvL (Zd y166.2))]) (m:=1) rfl (Nat.le_refl _) (List.length_map _).symm (Zf4 k _ _ hy166)),(by decide),trivial⟩ ?_
 refine WA.seq ?_
 refine WA.join (fun s_=>∃(v172:Bool),Zj s_.env [0,2,3,4,7,9,42]=[(0,.val false [.ptr 0 1 0 0]),(2,.val false [.ptr 102 1 0 0]),(3,one (.bool y101.1)),(4,.val false [.arr 104 v154]),(7,.val false [.arr 121 y162.1.length]),(9,one (.sl (y166.1.map Za))),(42,one (.bool v172))]∧Zj s_.os [0,102,104,121]=[(0,.box (pvL (Zd y166.2))),(102,.box (pvL (Zc (⟨0,([]:List Zb),([]:List Ze),0,0⟩:Ze)))),(104,.arr 2 (v153.map Za)),(121,.arr 2 (y162.1.map Za))]∧ZfU self5 v153 y162 y166 v172=some r) ?_ ?_
 {
 rintro s_ ⟨v172,he,ho,hF⟩
 refine WA.keep _ _ he ho ?_
 clear he ho
 refine WA.cond (b:=v172) rfl (fun hb173=>?_) (fun hb173=>?_)
 {
 have hF:=Zi hF hb173
 refine WA.bad [] (t:=70) (env1:=[]) (os1:=[(0,.box (pvL (Zd y166.2))),(102,.box (pvL (Zc (⟨0,([]:List Zb),([]:List Ze),0,0⟩:Ze)))),(104,.arr 2 (v153.map Za)),(121,.arr 2 (y162.1.map Za))]) (O:=[]) kr (sound _ _) trivial ?_
 obtain rfl:=Option.some.inj hF
 exact ⟨rfl,[(Zd y166.2)],kr,rfl⟩ }
 {
 have hF:=Zh hF hb173
 refine WA.skip ?_
 obtain ⟨y174,hy174,hF⟩:=bind_some hF
 obtain ⟨hc175,hF⟩:=Zn hF
 obtain ⟨y176,hy176,hF⟩:=bind_some hF
 refine WA.rm (α:=(List (List PV))) (raw:=((y162.1.map Za).set (Int.toNat 0) (Za ({ y176 with f_Hi:=y174.f_Lo }:Zb)))) (can:=((y162.1.set (Int.toNat 0) ({ y176 with f_Hi:=y174.f_Lo }:Zb)).map Za)) (fun m_=>([(0,.val false [.ptr 0 1 0 0]),(2,.val false [.ptr 102 1 0 0]),(3,one (.bool y101.1)),(4,.val false [.arr 104 v154]),(7,.val false [.arr 121 y162.1.length])],[(0,.box (pvL (Zd y166.2))),(102,.box (pvL (Zc (⟨0,([]:List Zb),([]:List Ze),0,0⟩:Ze)))),(104,.arr 2 (v153.map Za)),(121,.arr 2 m_)],[idxL (y166.1.map Za) 0=some (Za y174),y162.1.length=(y162.1.map Za).length,(0:Int)≤0,0<((y162.1.length:Nat):Int),y162.1.length=(y162.1.map Za).length,0<y162.1.length,y162.1.length=(y162.1.map Za).length,(y162.1.map Za)[Int.toNat 0]?=some (Za y176)])) (zm) [0,2,3,4,7] [0,102,104,121] [(2,.cells (Za y174)),(7,.cells (Za y176))] kr (sound _ _) ⟨(Zr _ hy174),zt,hc175.1,(by have h_:=hc175.2;(try simp only [zl,Zf] at h_ ⊢);omega),zt,(by omega),zt,(Zp (Zr _ hy176)),trivial⟩ ?_
 exact ⟨y166.2,(y162.1.set (Int.toNat 0) ({ y176 with f_Hi:=y174.f_Lo }:Zb)),y162.1.length,kr,kr,zt,hF⟩ } }
 {
 rcases Bool.eq_false_or_eq_true y161 with hb167 | hb167
 {
 have hF:=Zi hF hb167
 refine WA.regD kr [0,2,3,4,7,9,42] [0,102,104,121] [(1,.bool true)] (env':=[(0,.val false [.ptr 0 1 0 0]),(2,.val false [.ptr 102 1 0 0]),(3,one (.bool y101.1)),(4,.val false [.arr 104 v154]),(7,.val false [.arr 121 y162.1.length]),(9,one (.sl (y166.1.map Za))),(42,one (.bool true))]) (os':=[(0,.box (pvL (Zd y166.2))),(102,.box (pvL (Zc (⟨0,([]:List Zb),([]:List Ze),0,0⟩:Ze)))),(104,.arr 2 (v153.map Za)),(121,.arr 2 (y162.1.map Za))]) (O:=[y161=true]) kr kr (sound _ _) ⟨hb167,trivial⟩ ?_
 exact ⟨true,kr,kr,hF⟩ }
 {
 have hF:=Zh hF hb167
 rcases Bool.eq_false_or_eq_true y165 with hb168 | hb168
 {
 have hF:=Zi hF hb168
 refine WA.regD kr [0,2,3,4,7,9,42] [0,102,104,121] [(1,.bool false),(4,.bool true)] (env':=[(0,.val false [.ptr 0 1 0 0]),(2,.val false [.ptr 102 1 0 0]),(3,one (.bool y101.1)),(4,.val false [.arr 104 v154]),(7,.val false [.arr 121 y162.1.length]),(9,one (.sl (y166.1.map Za))),(42,one (.bool true))]) (os':=[(0,.box (pvL (Zd y166.2))),(102,.box (pvL (Zc (⟨0,([]:List Zb),([]:List Ze),0,0⟩:Ze)))),(104,.arr 2 (v153.map Za)),(121,.arr 2 (y162.1.map Za))]) (O:=[y161=false,y165=true]) kr kr (sound _ _) ⟨hb167,hb168,trivial⟩ ?_
 exact ⟨true,kr,kr,hF⟩ }
 {
 have hF:=Zh hF hb168
 obtain ⟨y169,hy169,hF⟩:=bind_some hF
 obtain ⟨hc170,hF⟩:=Zn hF
 obtain ⟨y171,hy171,hF⟩:=bind_some hF
 refine WA.regD kr [0,2,3,4,7,9,42] [0,102,104,121] [(1,.bool false),(4,.bool false),(6,.cells (Za y169)),(12,.cells (Za y171))] (env':=[(0,.val false [.ptr 0 1 0 0]),(2,.val false [.ptr 102 1 0 0]),(3,one (.bool y101.1)),(4,.val false [.arr 104 v154]),(7,.val false [.arr 121 y162.1.length]),(9,one (.sl (y166.1.map Za))),(42,one (.bool (decide (y169.f_Lo<y171.f_Lo))))]) (os':=[(0,.box (pvL (Zd y166.2))),(102,.box (pvL (Zc (⟨0,([]:List Zb),([]:List Ze),0,0⟩:Ze)))),(104,.arr 2 (v153.map Za)),(121,.arr 2 (y162.1.map Za))]) (O:=[y161=false,y165=false,idxL (y166.1.map Za) 0=some (Za y169),y162.1.length=(y162.1.map Za).length,(0:Int)≤0,0<((y162.1.length:Nat):Int),y162.1.length=(y162.1.map Za).length,0<y162.1.length,y162.1.length=(y162.1.map Za).length,(y162.1.map Za)[Int.toNat 0]?=some (Za y171)]) kr kr (sound _ _) ⟨hb167,hb168,(Zr _ hy169),zt,hc170.1,(by have h_:=hc170.2;(try simp only [zl,Zf] at h_ ⊢);omega),zt,(by omega),zt,(Zp (Zr _ hy171)),trivial⟩ ?_
 exact ⟨(decide (y169.f_Lo<y171.f_Lo)),kr,kr,hF⟩ } } } } }
 {
 have hF:=Zh hF hb164
 refine WA.skip ?_
 exact ⟨y163.2,y162.1,y162.1.length,kr,kr,zt,hF⟩ } } } }
 {
 have hF:=Zh hF hb160
 refine WA.exit ?_
 refine WA.seq ?_
 refine WA.freeze 104 4 (s:=2) (n:=v154) (els:=(v153.map Za)) rfl rfl zt ?_
 refine WA.keep [2,3,4] [0,102] (env':=[(2,.val false [.ptr 102 1 0 0]),(3,one (.bool y101.1)),(4,one (.sl (v153.map Za)))]) (os':=[(0,.box (pvL (Zd v158))),(102,.box (pvL (Zc (⟨0,([]:List Zb),([]:List Ze),0,0⟩:Ze))))]) kr kr ?_
 obtain ⟨y181,hy181,hF⟩:=bind_some hF
 obtain ⟨y182,hy182,hF⟩:=bind_some hF
 obtain ⟨y183,hy183,hF⟩:=bind_some hF
 refine WA.reg [2,3,4] [0,102] [(1,.callR [] (one (.sl (y181.map Za)))),(2,.callR [] (one (.sl (y182.map Za)))),(3,.callR [] (one (.sl (y183.map Za))))] (env':=[(2,.val false [.ptr 102 1 0 0]),(3,one (.bool y101.1)),(4,one (.sl (y183.map Za)))]) (os':=[(0,.box (pvL (Zd v158))),(102,.box (pvL (Zc (⟨0,([]:List Zb),([]:List Ze),0,0⟩:Ze))))]) (O:=[Sim Tryz.prog GL0 77 [one (.sl (v153.map Za))] [] (one (.sl (y181.map Za))) [],([]:List Nat).Nodup,Sim Tryz.prog GL0 59 [] [] (one (.sl (y182.map Za))) [],([]:List Nat).Nodup,Sim Tryz.prog GL0 76 [one (.sl (y181.map Za)),one (.sl (y182.map Za))] [] (one (.sl (y183.map Za))) [],([]:List Nat).Nodup]) kr (sound _ _) ⟨(Zhr k _ _ hy181),(by decide),(Zff k _ hy182),(by decide),(ZjG k _ _ _ hy183),(by decide),trivial⟩ ?_
 refine WA.join (fun s_=>∃(v186:List Zb),Zj s_.env [2,4]=[(2,.val false [.ptr 102 1 0 0]),(4,one (.sl (v186.map Za)))]∧Zj s_.os [0,102]=[(0,.box (pvL (Zd v158))),(102,.box (pvL (Zc (⟨0,([]:List Zb),([]:List Ze),0,0⟩:Ze))))]∧Zh4 k v158 v186=some r) ?_ ?_
 {
 rintro s_ ⟨v186,he,ho,hF⟩
 refine WA.keep _ _ he ho ?_
 clear he ho
 refine WA.seq ?_
 obtain ⟨y187,hy187,hF⟩:=bind_some hF
 refine WA.reg [2] [0,102] [(1,.callR [] (.val true (pvL (Zc y187))))] (env':=[(2,.val false [.ptr 102 1 0 0])]) (os':=[(0,.box (pvL (Zd v158))),(102,.box (pvL (Zc y187)))]) (O:=[Sim Tryz.prog GL0 58 [one (.sl (v186.map Za))] [] (.val true (pvL (Zc y187))) [],([]:List Nat).Nodup]) kr (sound _ _) ⟨(Zd4 k _ _ hy187),(by decide),trivial⟩ ?_
 refine WA.ret ?_
 obtain rfl:=Option.some.inj hF
 exact Zq (.val true (pvL (Zc y187))) [.box (pvL (Zd v158))] kr kr kr kr (by decide) rfl rfl }
 {
 refine WA.seq ?_
 refine WA.reg [2,4,59] [0,102] [] (env':=[(2,.val false [.ptr 102 1 0 0]),(4,one (.sl (y183.map Za))),(59,one (.bool y101.1))]) (os':=[(0,.box (pvL (Zd v158))),(102,.box (pvL (Zc (⟨0,([]:List Zb),([]:List Ze),0,0⟩:Ze))))]) (O:=[]) kr (sound _ _) trivial ?_
 refine WA.cond (b:=y101.1) rfl (fun hb184=>?_) (fun hb184=>?_)
 {
 have hF:=Zi hF hb184
 obtain ⟨y185,hy185,hF⟩:=bind_some hF
 refine WA.reg [2,4] [0,102] [(1,.callR [] (one (.sl (y185.map Za))))] (env':=[(2,.val false [.ptr 102 1 0 0]),(4,one (.sl (y185.map Za)))]) (os':=[(0,.box (pvL (Zd v158))),(102,.box (pvL (Zc (⟨0,([]:List Zb),([]:List Ze),0,0⟩:Ze))))]) (O:=[Sim Tryz.prog GL0 109 [one (.sl (y183.map Za))] [] (one (.sl (y185.map Za))) [],([]:List Nat).Nodup]) kr (sound _ _) ⟨(Zn6 k _ _ hy185),(by decide),trivial⟩ ?_
 exact ⟨y185,kr,kr,hF⟩ }
 {
 have hF:=Zh hF hb184
 refine WA.skip ?_
 exact ⟨y183,kr,kr,hF⟩ } } } }
  {
 rcases Bool.eq_false_or_eq_true v155 with hb156 | hb156
 {
 have hF:=Zi hF hb156
 refine WA.reg [0,2,3,4,17] [0,102,104] [(1,.bool true)] (env':=[(0,.val false [.ptr 0 1 0 0]),(2,.val false [.ptr 102 1 0 0]),(3,one (.bool y101.1)),(4,.val false [.arr 104 v154]),(17,one (.bool true))]) (os':=[(0,.box (pvL (Zd v152))),(102,.box (pvL (Zc (⟨0,([]:List Zb),([]:List Ze),0,0⟩:Ze)))),(104,.arr 2 (v153.map Za))]) (O:=[v155=true]) kr (sound _ _) ⟨hb156,trivial⟩ ?_
 exact ⟨v152,true,kr,kr,hF⟩ }
 {
 have hF:=Zh hF hb156
 obtain ⟨y157,hy157,hF⟩:=bind_some hF
 refine WA.reg [0,2,3,4,17] [0,102,104] [(1,.bool false),(3,.call [0] (one (.bool y157.1)) [.box (pvL (Zd y157.2))] [])] (env':=[(0,.val false [.ptr 0 1 0 0]),(2,.val false [.ptr 102 1 0 0]),(3,one (.bool y101.1)),(4,.val false [.arr 104 v154]),(17,one (.bool (!y157.1)))]) (os':=[(0,.box (pvL (Zd y157.2))),(102,.box (pvL (Zc (⟨0,([]:List Zb),([]:List Ze),0,0⟩:Ze)))),(104,.arr 2 (v153.map Za))]) (O:=[v155=false,Sim Tryz.prog GL0 71 [.val false [.ptr 0 1 0 0],one (.str ([93]:List UInt8))] [.box (pvL (Zd v152))] (one (.bool y157.1)) [.box (pvL (Zd y157.2))],([0]:List Nat).Nodup]) kr (sound _ _) ⟨hb156,(Zar k _ _ _ hy157),(by decide),trivial⟩ ?_
 exact ⟨y157.2,(!y157.1),kr,kr,hF⟩ } }
def F117 (R48:Zg→Option (Option (Ze×Zg))) (k:Nat) (v0:Zg):Option (Option (Ze×Zg)):=
  (F71 k v0 ([40]:List UInt8)).bind fun y101=>(cond y101.1 (orP (R48 y101.2) fun y103=>(F71 k y103.2 ([41]:List UInt8)).bind fun y104=>(cond (!y104.1) (some none) (((some (some (y103.1,y104.2))))))) ((F71 k y101.2 ([91]:List UInt8)).bind fun y106=>(cond y106.1 (orP (F138 k y106.2) fun y108=>(some (some (y108.1,y108.2)))) ((F71 k y106.2 ([46]:List UInt8)).bind fun y109=>(cond y109.1 ((F59 k).bind fun y111=>(F58 k y111).bind fun y112=>(some (some (y112,y109.2)))) ((F71 k y109.2 ([92]:List UInt8)).bind fun y113=>(cond y113.1 (orP (F139 k y113.2 ([92,46,91,93,40,41,123,125,42,43,63,124,94,36,45,47]:List UInt8)) fun y115=>(F58 k y115.1).bind fun y116=>(some (some (y116,y115.2)))) ((orP (F140 k y113.2) fun y117=>(F141 k ([92,46,91,93,40,41,123,125,42,43,63,124,94,36]:List UInt8) (IntKind.wrap .i32 y117.1)).bind fun y118=>(cond y118 (some none) ((F58 k ([(⟨y117.1,y117.1⟩:Zb)]:List Zb)).bind fun y120=>(some (some (y120,y117.2))))))))))))))
theorem ZkO (R48:Zg→Option (Option (Ze×Zg))) (IH48:∀(v0:Zg) (r:Option (Ze×Zg)),R48 v0=some r→SimP Tryz.prog GL0 badV 48 [.val false [.ptr 0 1 0 0]] [.box (pvL (Zd v0))] (r.map fun r=>(.val true (pvL (Zc r.1)),[.box (pvL (Zd r.2))]))) (k:Nat) (v0:Zg) (r:Option (Ze×Zg)) (hF:F117 R48 k v0=some r):SimP Tryz.prog GL0 badV 117 [.val false [.ptr 0 1 0 0]] [.box (pvL (Zd v0))] (r.map fun r=>(.val true (pvL (Zc r.1)),[.box (pvL (Zd r.2))])):=by
 refine Zbb [0] Tryz.func117 rfl kr kr ?_
 show WA _ _ 44 _ _ _
 refine WA.seq ?_
 refine WA.reg [0,2] [0,102] [(0,.obj 102)] (env':=[(0,.val false [.ptr 0 1 0 0]),(2,.val false [.ptr 102 1 0 0])]) (os':=[(0,.box (pvL (Zd v0))),(102,.box (pvL (Zc (⟨0,([]:List Zb),([]:List Ze),0,0⟩:Ze))))]) (O:=[]) kr (sound _ _) trivial ?_
 refine WA.seq ?_
 refine WA.block ?_
 refine WA.seq ?_
 obtain ⟨y101,hy101,hF⟩:=bind_some hF
 refine WA.reg [0,2,5] [0,102] [(1,.call [0] (one (.bool y101.1)) [.box (pvL (Zd y101.2))] [])] (env':=[(0,.val false [.ptr 0 1 0 0]),(2,.val false [.ptr 102 1 0 0]),(5,one (.bool y101.1))]) (os':=[(0,.box (pvL (Zd y101.2))),(102,.box (pvL (Zc (⟨0,([]:List Zb),([]:List Ze),0,0⟩:Ze))))]) (O:=[Sim Tryz.prog GL0 71 [.val false [.ptr 0 1 0 0],one (.str ([40]:List UInt8))] [.box (pvL (Zd v0))] (one (.bool y101.1)) [.box (pvL (Zd y101.2))],([0]:List Nat).Nodup]) kr (sound _ _) ⟨(Zar k _ _ _ hy101),(by decide),trivial⟩ ?_
 refine WA.cond (b:=y101.1) rfl (fun hb102=>?_) (fun hb102=>?_)
 {
 have hF:=Zi hF hb102
 refine WA.seq ?_
 rcases Z7 hF with ⟨hz,hr⟩ | ⟨y103,hy103,hF⟩
 {
 subst hr
 refine WA.regP 1 [0] [] [] badV (f:=48) (args:=[.val false [.ptr 0 1 0 0]]) (os:=[.box (pvL (Zd y101.2))]) (env1:=[]) (os1:=[(0,.box (pvL (Zd y101.2))),(102,.box (pvL (Zc (⟨0,([]:List Zb),([]:List Ze),0,0⟩:Ze))))]) (O:=[]) kr (sound _ _) trivial (by decide) (IH48 _ _ hz) (fun psl hpsl=>?_)
 obtain ⟨ps,rfl⟩:=ZT hpsl
 exact ⟨rfl,[ps],kr,rfl⟩ }
 {
 refine WA.reg [0,2,3] [0,102,103] [(1,.call [0] (.val true (pvL (Zc y103.1))) [.box (pvL (Zd y103.2))] []),(2,.obj 103)] (env':=[(0,.val false [.ptr 0 1 0 0]),(2,.val false [.ptr 102 1 0 0]),(3,.val false [.ptr 103 1 0 0])]) (os':=[(0,.box (pvL (Zd y103.2))),(102,.box (pvL (Zc (⟨0,([]:List Zb),([]:List Ze),0,0⟩:Ze)))),(103,.box (pvL (Zc y103.1)))]) (O:=[Sim Tryz.prog GL0 48 [.val false [.ptr 0 1 0 0]] [.box (pvL (Zd y101.2))] (.val true (pvL (Zc y103.1))) [.box (pvL (Zd y103.2))],([0]:List Nat).Nodup]) kr (sound _ _) ⟨(IH48 _ _ hy103),(by decide),trivial⟩ ?_
 refine WA.seq ?_
 refine WA.seq ?_
 obtain ⟨y104,hy104,hF⟩:=bind_some hF
 refine WA.reg [2,3,12] [0,102,103] [(1,.call [0] (one (.bool y104.1)) [.box (pvL (Zd y104.2))] [])] (env':=[(2,.val false [.ptr 102 1 0 0]),(3,.val false [.ptr 103 1 0 0]),(12,one (.bool (!y104.1)))]) (os':=[(0,.box (pvL (Zd y104.2))),(102,.box (pvL (Zc (⟨0,([]:List Zb),([]:List Ze),0,0⟩:Ze)))),(103,.box (pvL (Zc y103.1)))]) (O:=[Sim Tryz.prog GL0 71 [.val false [.ptr 0 1 0 0],one (.str ([41]:List UInt8))] [.box (pvL (Zd y103.2))] (one (.bool y104.1)) [.box (pvL (Zd y104.2))],([0]:List Nat).Nodup]) kr (sound _ _) ⟨(Zar k _ _ _ hy104),(by decide),trivial⟩ ?_
 refine WA.cond (b:=(!y104.1)) rfl (fun hb105=>?_) (fun hb105=>?_)
 {
 have hF:=Zi hF hb105
 refine WA.bad [] (t:=70) (env1:=[]) (os1:=[(0,.box (pvL (Zd y104.2))),(102,.box (pvL (Zc (⟨0,([]:List Zb),([]:List Ze),0,0⟩:Ze)))),(103,.box (pvL (Zc y103.1)))]) (O:=[]) kr (sound _ _) trivial ?_
 obtain rfl:=Option.some.inj hF
 exact ⟨rfl,[(Zd y104.2)],kr,rfl⟩ }
 {
 have hF:=Zh hF hb105
 refine WA.skip ?_
 refine WA.seq ?_
 refine WA.reg [2] [0,102] [] (env':=[(2,.val false [.ptr 102 1 0 0])]) (os':=[(0,.box (pvL (Zd y104.2))),(102,.box (pvL (Zc y103.1)))]) (O:=[]) kr (sound _ _) trivial ?_
 refine WA.ret ?_
 obtain rfl:=Option.some.inj hF
 exact Zq (.val true (pvL (Zc y103.1))) [.box (pvL (Zd y104.2))] kr kr kr kr (by decide) rfl rfl } } }
 {
 have hF:=Zh hF hb102
 refine WA.seq ?_
 obtain ⟨y106,hy106,hF⟩:=bind_some hF
 refine WA.reg [0,2,16] [0,102] [(1,.call [0] (one (.bool y106.1)) [.box (pvL (Zd y106.2))] [])] (env':=[(0,.val false [.ptr 0 1 0 0]),(2,.val false [.ptr 102 1 0 0]),(16,one (.bool y106.1))]) (os':=[(0,.box (pvL (Zd y106.2))),(102,.box (pvL (Zc (⟨0,([]:List Zb),([]:List Ze),0,0⟩:Ze))))]) (O:=[Sim Tryz.prog GL0 71 [.val false [.ptr 0 1 0 0],one (.str ([91]:List UInt8))] [.box (pvL (Zd y101.2))] (one (.bool y106.1)) [.box (pvL (Zd y106.2))],([0]:List Nat).Nodup]) kr (sound _ _) ⟨(Zar k _ _ _ hy106),(by decide),trivial⟩ ?_
 refine WA.cond (b:=y106.1) rfl (fun hb107=>?_) (fun hb107=>?_)
 {
 have hF:=Zi hF hb107
 refine WA.seq ?_
 rcases Z7 hF with ⟨hz,hr⟩ | ⟨y108,hy108,hF⟩
 {
 subst hr
 refine WA.regP 1 [0] [] [] badV (f:=138) (args:=[.val false [.ptr 0 1 0 0]]) (os:=[.box (pvL (Zd y106.2))]) (env1:=[]) (os1:=[(0,.box (pvL (Zd y106.2))),(102,.box (pvL (Zc (⟨0,([]:List Zb),([]:List Ze),0,0⟩:Ze))))]) (O:=[]) kr (sound _ _) trivial (by decide) (ZkS k _ _ hz) (fun psl hpsl=>?_)
 obtain ⟨ps,rfl⟩:=ZT hpsl
 exact ⟨rfl,[ps],kr,rfl⟩ }
 {
 refine WA.reg [2] [0,102] [(1,.call [0] (.val true (pvL (Zc y108.1))) [.box (pvL (Zd y108.2))] [])] (env':=[(2,.val false [.ptr 102 1 0 0])]) (os':=[(0,.box (pvL (Zd y108.2))),(102,.box (pvL (Zc y108.1)))]) (O:=[Sim Tryz.prog GL0 138 [.val false [.ptr 0 1 0 0]] [.box (pvL (Zd y106.2))] (.val true (pvL (Zc y108.1))) [.box (pvL (Zd y108.2))],([0]:List Nat).Nodup]) kr (sound _ _) ⟨(ZkS k _ _ hy108),(by decide),trivial⟩ ?_
 refine WA.ret ?_
 obtain rfl:=Option.some.inj hF
 exact Zq (.val true (pvL (Zc y108.1))) [.box (pvL (Zd y108.2))] kr kr kr kr (by decide) rfl rfl } }
 {
 have hF:=Zh hF hb107
 refine WA.seq ?_
 obtain ⟨y109,hy109,hF⟩:=bind_some hF
 refine WA.reg [0,2,21] [0,102] [(1,.call [0] (one (.bool y109.1)) [.box (pvL (Zd y109.2))] [])] (env':=[(0,.val false [.ptr 0 1 0 0]),(2,.val false [.ptr 102 1 0 0]),(21,one (.bool y109.1))]) (os':=[(0,.box (pvL (Zd y109.2))),(102,.box (pvL (Zc (⟨0,([]:List Zb),([]:List Ze),0,0⟩:Ze))))]) (O:=[Sim Tryz.prog GL0 71 [.val false [.ptr 0 1 0 0],one (.str ([46]:List UInt8))] [.box (pvL (Zd y106.2))] (one (.bool y109.1)) [.box (pvL (Zd y109.2))],([0]:List Nat).Nodup]) kr (sound _ _) ⟨(Zar k _ _ _ hy109),(by decide),trivial⟩ ?_
 refine WA.cond (b:=y109.1) rfl (fun hb110=>?_) (fun hb110=>?_)
 {
 have hF:=Zi hF hb110
 refine WA.seq ?_
 obtain ⟨y111,hy111,hF⟩:=bind_some hF
 obtain ⟨y112,hy112,hF⟩:=bind_some hF
 refine WA.reg [2] [0,102] [(0,.callR [] (one (.sl (y111.map Za)))),(1,.callR [] (.val true (pvL (Zc y112))))] (env':=[(2,.val false [.ptr 102 1 0 0])]) (os':=[(0,.box (pvL (Zd y109.2))),(102,.box (pvL (Zc y112)))]) (O:=[Sim Tryz.prog GL0 59 [] [] (one (.sl (y111.map Za))) [],([]:List Nat).Nodup,Sim Tryz.prog GL0 58 [one (.sl (y111.map Za))] [] (.val true (pvL (Zc y112))) [],([]:List Nat).Nodup]) kr (sound _ _) ⟨(Zff k _ hy111),(by decide),(Zd4 k _ _ hy112),(by decide),trivial⟩ ?_
 refine WA.ret ?_
 obtain rfl:=Option.some.inj hF
 exact Zq (.val true (pvL (Zc y112))) [.box (pvL (Zd y109.2))] kr kr kr kr (by decide) rfl rfl }
 {
 have hF:=Zh hF hb110
 refine WA.seq ?_
 obtain ⟨y113,hy113,hF⟩:=bind_some hF
 refine WA.reg [0,2,26] [0,102] [(1,.call [0] (one (.bool y113.1)) [.box (pvL (Zd y113.2))] [])] (env':=[(0,.val false [.ptr 0 1 0 0]),(2,.val false [.ptr 102 1 0 0]),(26,one (.bool y113.1))]) (os':=[(0,.box (pvL (Zd y113.2))),(102,.box (pvL (Zc (⟨0,([]:List Zb),([]:List Ze),0,0⟩:Ze))))]) (O:=[Sim Tryz.prog GL0 71 [.val false [.ptr 0 1 0 0],one (.str ([92]:List UInt8))] [.box (pvL (Zd y109.2))] (one (.bool y113.1)) [.box (pvL (Zd y113.2))],([0]:List Nat).Nodup]) kr (sound _ _) ⟨(Zar k _ _ _ hy113),(by decide),trivial⟩ ?_
 refine WA.cond (b:=y113.1) rfl (fun hb114=>?_) (fun hb114=>?_)
 {
 have hF:=Zi hF hb114
 refine WA.seq ?_
 rcases Z7 hF with ⟨hz,hr⟩ | ⟨y115,hy115,hF⟩
 {
 subst hr
 refine WA.regP 1 [0] [] [] badV (f:=139) (args:=[.val false [.ptr 0 1 0 0],one (.str ([92,46,91,93,40,41,123,125,42,43,63,124,94,36,45,47]:List UInt8))]) (os:=[.box (pvL (Zd y113.2))]) (env1:=[]) (os1:=[(0,.box (pvL (Zd y113.2))),(102,.box (pvL (Zc (⟨0,([]:List Zb),([]:List Ze),0,0⟩:Ze))))]) (O:=[]) kr (sound _ _) trivial (by decide) (ZfX k _ _ _ hz) (fun psl hpsl=>?_)
 obtain ⟨ps,rfl⟩:=ZT hpsl
 exact ⟨rfl,[ps],kr,rfl⟩ }
 {
 obtain ⟨y116,hy116,hF⟩:=bind_some hF
 refine WA.reg [2] [0,102] [(1,.call [0] (one (.sl (y115.1.map Za))) [.box (pvL (Zd y115.2))] []),(2,.callR [] (.val true (pvL (Zc y116))))] (env':=[(2,.val false [.ptr 102 1 0 0])]) (os':=[(0,.box (pvL (Zd y115.2))),(102,.box (pvL (Zc y116)))]) (O:=[Sim Tryz.prog GL0 139 [.val false [.ptr 0 1 0 0],one (.str ([92,46,91,93,40,41,123,125,42,43,63,124,94,36,45,47]:List UInt8))] [.box (pvL (Zd y113.2))] (one (.sl (y115.1.map Za))) [.box (pvL (Zd y115.2))],([0]:List Nat).Nodup,Sim Tryz.prog GL0 58 [one (.sl (y115.1.map Za))] [] (.val true (pvL (Zc y116))) [],([]:List Nat).Nodup]) kr (sound _ _) ⟨(Zlu (os':=[.box (pvL (Zd y115.2))]) (m:=1) rfl (Nat.le_refl _) (List.length_map _).symm (ZfX k _ _ _ hy115)),(by decide),(Zd4 k _ _ hy116),(by decide),trivial⟩ ?_
 refine WA.ret ?_
 obtain rfl:=Option.some.inj hF
 exact Zq (.val true (pvL (Zc y116))) [.box (pvL (Zd y115.2))] kr kr kr kr (by decide) rfl rfl } }
 {
 have hF:=Zh hF hb114
 refine WA.skip ?_
 refine WA.seq ?_
 rcases Z7 hF with ⟨hz,hr⟩ | ⟨y117,hy117,hF⟩
 {
 subst hr
 refine WA.regP 1 [0] [] [] badV (f:=140) (args:=[.val false [.ptr 0 1 0 0]]) (os:=[.box (pvL (Zd y113.2))]) (env1:=[]) (os1:=[(0,.box (pvL (Zd y113.2))),(102,.box (pvL (Zc (⟨0,([]:List Zb),([]:List Ze),0,0⟩:Ze))))]) (O:=[]) kr (sound _ _) trivial (by decide) (Zcy k _ _ hz) (fun psl hpsl=>?_)
 obtain ⟨ps,rfl⟩:=ZT hpsl
 exact ⟨rfl,[ps],kr,rfl⟩ }
 {
 refine WA.reg [2,4] [0,102] [(1,.call [0] (one (.int .i64 y117.1)) [.box (pvL (Zd y117.2))] [])] (env':=[(2,.val false [.ptr 102 1 0 0]),(4,one (.int .i64 y117.1))]) (os':=[(0,.box (pvL (Zd y117.2))),(102,.box (pvL (Zc (⟨0,([]:List Zb),([]:List Ze),0,0⟩:Ze))))]) (O:=[Sim Tryz.prog GL0 140 [.val false [.ptr 0 1 0 0]] [.box (pvL (Zd y113.2))] (one (.int .i64 y117.1)) [.box (pvL (Zd y117.2))],([0]:List Nat).Nodup]) kr (sound _ _) ⟨(Zcy k _ _ hy117),(by decide),trivial⟩ ?_
 refine WA.seq ?_
 refine WA.seq ?_
 obtain ⟨y118,hy118,hF⟩:=bind_some hF
 refine WA.reg [2,4,36] [0,102] [(2,.callR [] (one (.bool y118)))] (env':=[(2,.val false [.ptr 102 1 0 0]),(4,one (.int .i64 y117.1)),(36,one (.bool y118))]) (os':=[(0,.box (pvL (Zd y117.2))),(102,.box (pvL (Zc (⟨0,([]:List Zb),([]:List Ze),0,0⟩:Ze))))]) (O:=[Sim Tryz.prog GL0 141 [one (.str ([92,46,91,93,40,41,123,125,42,43,63,124,94,36]:List UInt8)),one (.int .i32 (IntKind.wrap .i32 y117.1))] [] (one (.bool y118)) [],([]:List Nat).Nodup]) kr (sound _ _) ⟨(ZkT k _ _ _ hy118),(by decide),trivial⟩ ?_
 refine WA.cond (b:=y118) rfl (fun hb119=>?_) (fun hb119=>?_)
 {
 have hF:=Zi hF hb119
 refine WA.bad [] (t:=70) (env1:=[]) (os1:=[(0,.box (pvL (Zd y117.2))),(102,.box (pvL (Zc (⟨0,([]:List Zb),([]:List Ze),0,0⟩:Ze))))]) (O:=[]) kr (sound _ _) trivial ?_
 obtain rfl:=Option.some.inj hF
 exact ⟨rfl,[(Zd y117.2)],kr,rfl⟩ }
 {
 have hF:=Zh hF hb119
 refine WA.skip ?_
 refine WA.seq ?_
 obtain ⟨y120,hy120,hF⟩:=bind_some hF
 refine WA.reg [2] [0,102] [(4,.callR [] (.val true (pvL (Zc y120))))] (env':=[(2,.val false [.ptr 102 1 0 0])]) (os':=[(0,.box (pvL (Zd y117.2))),(102,.box (pvL (Zc y120)))]) (O:=[Sim Tryz.prog GL0 58 [one (.sl (([(⟨y117.1,y117.1⟩:Zb)]:List Zb).map Za))] [] (.val true (pvL (Zc y120))) [],([]:List Nat).Nodup]) kr (sound _ _) ⟨(Zd4 k _ _ hy120),(by decide),trivial⟩ ?_
 refine WA.ret ?_
 obtain rfl:=Option.some.inj hF
 exact Zq (.val true (pvL (Zc y120))) [.box (pvL (Zd y117.2))] kr kr kr kr (by decide) rfl rfl } } } } } }
def Zfl (y101:Ze×Zg) (v111:Zg) (v112:Int) (v113:Int):Option (Option (Ze×Zg)):=
  (some (some ((⟨4,([]:List Zb),([y101.1]:List Ze),v112,v113⟩:Ze),v111)))
def F98 (R48:Zg→Option (Option (Ze×Zg))) (k:Nat) (v0:Zg):Option (Option (Ze×Zg)):=
  (orP (F117 R48 k v0) fun y101=>((F71 k y101.2 ([42]:List UInt8)).bind fun y102=>(cond y102.1 ((Zfl y101 y102.2 0 (-1))) ((F71 k y102.2 ([43]:List UInt8)).bind fun y104=>(cond y104.1 ((Zfl y101 y104.2 1 (-1))) ((F71 k y104.2 ([63]:List UInt8)).bind fun y106=>(cond y106.1 ((Zfl y101 y106.2 0 1)) ((F71 k y106.2 ([123]:List UInt8)).bind fun y108=>(cond y108.1 (orP (F118 k y108.2) fun y110=>(Zfl y101 y110.2.2 y110.1 y110.2.1)) ((some (some (y101.1,y108.2)))))))))))))
theorem Zmi (R48:Zg→Option (Option (Ze×Zg))) (IH48:∀(v0:Zg) (r:Option (Ze×Zg)),R48 v0=some r→SimP Tryz.prog GL0 badV 48 [.val false [.ptr 0 1 0 0]] [.box (pvL (Zd v0))] (r.map fun r=>(.val true (pvL (Zc r.1)),[.box (pvL (Zd r.2))]))) (k:Nat) (v0:Zg) (r:Option (Ze×Zg)) (hF:F98 R48 k v0=some r):SimP Tryz.prog GL0 badV 98 [.val false [.ptr 0 1 0 0]] [.box (pvL (Zd v0))] (r.map fun r=>(.val true (pvL (Zc r.1)),[.box (pvL (Zd r.2))])):=by
 refine Zbb [0] Tryz.func98 rfl kr kr ?_
 show WA _ _ 31 _ _ _
 refine WA.seq ?_
 refine WA.reg [0,2] [0,102] [(0,.obj 102)] (env':=[(0,.val false [.ptr 0 1 0 0]),(2,.val false [.ptr 102 1 0 0])]) (os':=[(0,.box (pvL (Zd v0))),(102,.box (pvL (Zc (⟨0,([]:List Zb),([]:List Ze),0,0⟩:Ze))))]) (O:=[]) kr (sound _ _) trivial ?_
 refine WA.seq ?_
 rcases Z7 hF with ⟨hz,hr⟩ | ⟨y101,hy101,hF⟩
 {
 subst hr
 refine WA.regP 1 [0] [] [] badV (f:=117) (args:=[.val false [.ptr 0 1 0 0]]) (os:=[.box (pvL (Zd v0))]) (env1:=[]) (os1:=[(0,.box (pvL (Zd v0))),(102,.box (pvL (Zc (⟨0,([]:List Zb),([]:List Ze),0,0⟩:Ze))))]) (O:=[]) kr (sound _ _) trivial (by decide) (ZkO R48 IH48 k _ _ hz) (fun psl hpsl=>?_)
 obtain ⟨ps,rfl⟩:=ZT hpsl
 exact ⟨rfl,[ps],kr,rfl⟩ }
 {
 refine WA.reg [0,2,3] [0,102,103] [(1,.call [0] (.val true (pvL (Zc y101.1))) [.box (pvL (Zd y101.2))] []),(2,.obj 103)] (env':=[(0,.val false [.ptr 0 1 0 0]),(2,.val false [.ptr 102 1 0 0]),(3,.val false [.ptr 103 1 0 0])]) (os':=[(0,.box (pvL (Zd y101.2))),(102,.box (pvL (Zc (⟨0,([]:List Zb),([]:List Ze),0,0⟩:Ze)))),(103,.box (pvL (Zc y101.1)))]) (O:=[Sim Tryz.prog GL0 117 [.val false [.ptr 0 1 0 0]] [.box (pvL (Zd v0))] (.val true (pvL (Zc y101.1))) [.box (pvL (Zd y101.2))],([0]:List Nat).Nodup]) kr (sound _ _) ⟨(ZkO R48 IH48 k _ _ hy101),(by decide),trivial⟩ ?_
 refine WA.seq ?_
 refine WA.reg [0,2,3,4,5] [0,102,103] [] (env':=[(0,.val false [.ptr 0 1 0 0]),(2,.val false [.ptr 102 1 0 0]),(3,.val false [.ptr 103 1 0 0]),(4,one (.int .i64 0)),(5,one (.int .i64 (-1)))]) (os':=[(0,.box (pvL (Zd y101.2))),(102,.box (pvL (Zc (⟨0,([]:List Zb),([]:List Ze),0,0⟩:Ze)))),(103,.box (pvL (Zc y101.1)))]) (O:=[]) kr (sound _ _) trivial ?_
 refine WA.join (fun s_=>∃(v111:Zg) (v112:Int) (v113:Int),Zj s_.env [2,3,4,5]=[(2,.val false [.ptr 102 1 0 0]),(3,.val false [.ptr 103 1 0 0]),(4,one (.int .i64 v112)),(5,one (.int .i64 v113))]∧Zj s_.os [0,102,103]=[(0,.box (pvL (Zd v111))),(102,.box (pvL (Zc (⟨0,([]:List Zb),([]:List Ze),0,0⟩:Ze)))),(103,.box (pvL (Zc y101.1)))]∧Zfl y101 v111 v112 v113=some r) ?_ ?_
 {
 rintro s_ ⟨v111,v112,v113,he,ho,hF⟩
 refine WA.keep _ _ he ho ?_
 clear he ho
 refine WA.seq ?_
 refine WA.rm (α:=(List (List PV))) (raw:=[(Zc y101.1)]) (can:=(Zk ([y101.1]:List Ze))) (fun m_=>([(2,.val false [.ptr 102 1 0 0])],[(0,.box (pvL (Zd v111))),(102,.box (pvL ([.int .i64 4] ++ [.sl (([]:List Zb).map Za)] ++ [.sl m_] ++ [.int .i64 v112] ++ [.int .i64 v113])))],[])) (zm) [2] [0,102] [] kr (sound _ _) trivial ?_
 refine WA.ret ?_
 obtain rfl:=Option.some.inj hF
 exact Zq (.val true (pvL (Zc (⟨4,([]:List Zb),([y101.1]:List Ze),v112,v113⟩:Ze)))) [.box (pvL (Zd v111))] kr kr kr kr (by decide) rfl rfl }
 {
 refine WA.block ?_
 refine WA.seq ?_
 obtain ⟨y102,hy102,hF⟩:=bind_some hF
 refine WA.reg [0,2,3,4,5,9] [0,102,103] [(1,.call [0] (one (.bool y102.1)) [.box (pvL (Zd y102.2))] [])] (env':=[(0,.val false [.ptr 0 1 0 0]),(2,.val false [.ptr 102 1 0 0]),(3,.val false [.ptr 103 1 0 0]),(4,one (.int .i64 0)),(5,one (.int .i64 (-1))),(9,one (.bool y102.1))]) (os':=[(0,.box (pvL (Zd y102.2))),(102,.box (pvL (Zc (⟨0,([]:List Zb),([]:List Ze),0,0⟩:Ze)))),(103,.box (pvL (Zc y101.1)))]) (O:=[Sim Tryz.prog GL0 71 [.val false [.ptr 0 1 0 0],one (.str ([42]:List UInt8))] [.box (pvL (Zd y101.2))] (one (.bool y102.1)) [.box (pvL (Zd y102.2))],([0]:List Nat).Nodup]) kr (sound _ _) ⟨(Zar k _ _ _ hy102),(by decide),trivial⟩ ?_
 refine WA.cond (b:=y102.1) rfl (fun hb103=>?_) (fun hb103=>?_)
 {
 have hF:=Zi hF hb103
 refine WA.skip ?_
 exact ⟨y102.2,0,(-1),kr,kr,hF⟩ }
 {
 have hF:=Zh hF hb103
 refine WA.seq ?_
 obtain ⟨y104,hy104,hF⟩:=bind_some hF
 refine WA.reg [0,2,3,4,5,12] [0,102,103] [(1,.call [0] (one (.bool y104.1)) [.box (pvL (Zd y104.2))] [])] (env':=[(0,.val false [.ptr 0 1 0 0]),(2,.val false [.ptr 102 1 0 0]),(3,.val false [.ptr 103 1 0 0]),(4,one (.int .i64 0)),(5,one (.int .i64 (-1))),(12,one (.bool y104.1))]) (os':=[(0,.box (pvL (Zd y104.2))),(102,.box (pvL (Zc (⟨0,([]:List Zb),([]:List Ze),0,0⟩:Ze)))),(103,.box (pvL (Zc y101.1)))]) (O:=[Sim Tryz.prog GL0 71 [.val false [.ptr 0 1 0 0],one (.str ([43]:List UInt8))] [.box (pvL (Zd y102.2))] (one (.bool y104.1)) [.box (pvL (Zd y104.2))],([0]:List Nat).Nodup]) kr (sound _ _) ⟨(Zar k _ _ _ hy104),(by decide),trivial⟩ ?_
 refine WA.cond (b:=y104.1) rfl (fun hb105=>?_) (fun hb105=>?_)
 {
 have hF:=Zi hF hb105
 refine WA.reg [2,3,4,5] [0,102,103] [] (env':=[(2,.val false [.ptr 102 1 0 0]),(3,.val false [.ptr 103 1 0 0]),(4,one (.int .i64 1)),(5,one (.int .i64 (-1)))]) (os':=[(0,.box (pvL (Zd y104.2))),(102,.box (pvL (Zc (⟨0,([]:List Zb),([]:List Ze),0,0⟩:Ze)))),(103,.box (pvL (Zc y101.1)))]) (O:=[]) kr (sound _ _) trivial ?_
 exact ⟨y104.2,1,(-1),kr,kr,hF⟩ }
 {
 have hF:=Zh hF hb105
 refine WA.seq ?_
 obtain ⟨y106,hy106,hF⟩:=bind_some hF
 refine WA.reg [0,2,3,4,15] [0,102,103] [(1,.call [0] (one (.bool y106.1)) [.box (pvL (Zd y106.2))] [])] (env':=[(0,.val false [.ptr 0 1 0 0]),(2,.val false [.ptr 102 1 0 0]),(3,.val false [.ptr 103 1 0 0]),(4,one (.int .i64 0)),(15,one (.bool y106.1))]) (os':=[(0,.box (pvL (Zd y106.2))),(102,.box (pvL (Zc (⟨0,([]:List Zb),([]:List Ze),0,0⟩:Ze)))),(103,.box (pvL (Zc y101.1)))]) (O:=[Sim Tryz.prog GL0 71 [.val false [.ptr 0 1 0 0],one (.str ([63]:List UInt8))] [.box (pvL (Zd y104.2))] (one (.bool y106.1)) [.box (pvL (Zd y106.2))],([0]:List Nat).Nodup]) kr (sound _ _) ⟨(Zar k _ _ _ hy106),(by decide),trivial⟩ ?_
 refine WA.cond (b:=y106.1) rfl (fun hb107=>?_) (fun hb107=>?_)
 {
 have hF:=Zi hF hb107
 refine WA.reg [2,3,4,5] [0,102,103] [] (env':=[(2,.val false [.ptr 102 1 0 0]),(3,.val false [.ptr 103 1 0 0]),(4,one (.int .i64 0)),(5,one (.int .i64 1))]) (os':=[(0,.box (pvL (Zd y106.2))),(102,.box (pvL (Zc (⟨0,([]:List Zb),([]:List Ze),0,0⟩:Ze)))),(103,.box (pvL (Zc y101.1)))]) (O:=[]) kr (sound _ _) trivial ?_
 exact ⟨y106.2,0,1,kr,kr,hF⟩ }
 {
 have hF:=Zh hF hb107
 refine WA.seq ?_
 obtain ⟨y108,hy108,hF⟩:=bind_some hF
 refine WA.reg [0,2,3,18] [0,102,103] [(1,.call [0] (one (.bool y108.1)) [.box (pvL (Zd y108.2))] [])] (env':=[(0,.val false [.ptr 0 1 0 0]),(2,.val false [.ptr 102 1 0 0]),(3,.val false [.ptr 103 1 0 0]),(18,one (.bool y108.1))]) (os':=[(0,.box (pvL (Zd y108.2))),(102,.box (pvL (Zc (⟨0,([]:List Zb),([]:List Ze),0,0⟩:Ze)))),(103,.box (pvL (Zc y101.1)))]) (O:=[Sim Tryz.prog GL0 71 [.val false [.ptr 0 1 0 0],one (.str ([123]:List UInt8))] [.box (pvL (Zd y106.2))] (one (.bool y108.1)) [.box (pvL (Zd y108.2))],([0]:List Nat).Nodup]) kr (sound _ _) ⟨(Zar k _ _ _ hy108),(by decide),trivial⟩ ?_
 refine WA.cond (b:=y108.1) rfl (fun hb109=>?_) (fun hb109=>?_)
 {
 have hF:=Zi hF hb109
 rcases Z7 hF with ⟨hz,hr⟩ | ⟨y110,hy110,hF⟩
 {
 subst hr
 refine WA.regP 1 [0] [] [] badV (f:=118) (args:=[.val false [.ptr 0 1 0 0]]) (os:=[.box (pvL (Zd y108.2))]) (env1:=[]) (os1:=[(0,.box (pvL (Zd y108.2))),(102,.box (pvL (Zc (⟨0,([]:List Zb),([]:List Ze),0,0⟩:Ze)))),(103,.box (pvL (Zc y101.1)))]) (O:=[]) kr (sound _ _) trivial (by decide) (ZkP k _ _ hz) (fun psl hpsl=>?_)
 obtain ⟨ps,rfl⟩:=ZT hpsl
 exact ⟨rfl,[ps],kr,rfl⟩ }
 {
 refine WA.reg [2,3,4,5] [0,102,103] [(1,.call [0] (.tup [(false,[.pv (.int .i64 y110.1)]),(false,[.pv (.int .i64 y110.2.1)])]) [.box (pvL (Zd y110.2.2))] [])] (env':=[(2,.val false [.ptr 102 1 0 0]),(3,.val false [.ptr 103 1 0 0]),(4,one (.int .i64 y110.1)),(5,one (.int .i64 y110.2.1))]) (os':=[(0,.box (pvL (Zd y110.2.2))),(102,.box (pvL (Zc (⟨0,([]:List Zb),([]:List Ze),0,0⟩:Ze)))),(103,.box (pvL (Zc y101.1)))]) (O:=[Sim Tryz.prog GL0 118 [.val false [.ptr 0 1 0 0]] [.box (pvL (Zd y108.2))] (.tup [(false,[.pv (.int .i64 y110.1)]),(false,[.pv (.int .i64 y110.2.1)])]) [.box (pvL (Zd y110.2.2))],([0]:List Nat).Nodup]) kr (sound _ _) ⟨(ZkP k _ _ hy110),(by decide),trivial⟩ ?_
 exact ⟨y110.2.2,y110.1,y110.2.1,kr,kr,hF⟩ } }
 {
 have hF:=Zh hF hb109
 refine WA.seq ?_
 refine WA.reg [2] [0,102] [] (env':=[(2,.val false [.ptr 102 1 0 0])]) (os':=[(0,.box (pvL (Zd y108.2))),(102,.box (pvL (Zc y101.1)))]) (O:=[]) kr (sound _ _) trivial ?_
 refine WA.ret ?_
 obtain rfl:=Option.some.inj hF
 exact Zq (.val true (pvL (Zc y101.1))) [.box (pvL (Zd y108.2))] kr kr kr kr (by decide) rfl rfl } } } } } }
def Zho (R48:Zg→Option (Option (Ze×Zg))) (k:Nat) (self2:Zg→(List Ze)→Option (Option (Ze×Zg))) (v120:Zg) (v121:List Ze) (v127:Bool):Option (Option (Ze×Zg)):=
  cond v127 ((orP (F98 R48 k v120) fun y129=>if v121.length+([y129.1]:List Ze).length≤1073741824 then self2 y129.2 (v121 ++ ([y129.1]:List Ze)) else none)) (((cond ((v121.length:Int) == 1) (if (0:Int)≤0∧0<(v121.length:Int) then (idxL v121 0).bind fun y133=>(some (some (y133,v120))) else none) (((some (some ((⟨2,([]:List Zb),v121,0,0⟩:Ze),v120))))))))
def Zmg (R48:Zg→Option (Option (Ze×Zg))) (k:Nat) (self2:Zg→(List Ze)→Option (Option (Ze×Zg))) (v120:Zg) (v121:List Ze):Option (Option (Ze×Zg)):=
  cond (decide (v120.f_at<(v120.f_s.length:Int))) ((F97 k v120 ([124]:List UInt8)).bind fun y124=>cond (!y124) ((F97 k v120 ([41]:List UInt8)).bind fun y126=>(Zho R48 k self2 v120 v121 (!y126))) ((Zho R48 k self2 v120 v121 false))) ((Zho R48 k self2 v120 v121 false))
def Zhp (R48:Zg→Option (Option (Ze×Zg))) (k:Nat):Nat→Zg→(List Ze)→Option (Option (Ze×Zg))
  | 0,_,_=>none
  | m_+1,v120,v121=>Zmg R48 k (Zhp R48 k m_) v120 v121
def F70 (R48:Zg→Option (Option (Ze×Zg))) (k:Nat) (v0:Zg):Option (Option (Ze×Zg)):=
  ((Zhp R48 k k v0 ([]:List Ze)))
theorem Zhq (R48:Zg→Option (Option (Ze×Zg))) (IH48:∀(v0:Zg) (r:Option (Ze×Zg)),R48 v0=some r→SimP Tryz.prog GL0 badV 48 [.val false [.ptr 0 1 0 0]] [.box (pvL (Zd v0))] (r.map fun r=>(.val true (pvL (Zc r.1)),[.box (pvL (Zd r.2))]))) (k:Nat) (v0:Zg) (r:Option (Ze×Zg)) (hF:F70 R48 k v0=some r):SimP Tryz.prog GL0 badV 70 [.val false [.ptr 0 1 0 0]] [.box (pvL (Zd v0))] (r.map fun r=>(.val true (pvL (Zc r.1)),[.box (pvL (Zd r.2))])):=by
 refine Zbb [0] Tryz.func70 rfl kr kr ?_
 show WA _ _ 37 _ _ _
 refine WA.seq ?_
 refine WA.reg [0,2] [0,102] [(0,.obj 102)] (env':=[(0,.val false [.ptr 0 1 0 0]),(2,.val false [.ptr 102 1 0 0])]) (os':=[(0,.box (pvL (Zd v0))),(102,.box (pvL (Zc (⟨0,([]:List Zb),([]:List Ze),0,0⟩:Ze))))]) (O:=[]) kr (sound _ _) trivial ?_
 refine WA.seq ?_
 refine WA.reg [0,2,3] [0,102,103] [(0,.obj 103)] (env':=[(0,.val false [.ptr 0 1 0 0]),(2,.val false [.ptr 102 1 0 0]),(3,.val false [.arr 103 0])]) (os':=[(0,.box (pvL (Zd v0))),(102,.box (pvL (Zc (⟨0,([]:List Zb),([]:List Ze),0,0⟩:Ze)))),(103,.arr 5 (Zk ([]:List Ze)))]) (O:=[]) kr (sound _ _) trivial ?_
 refine WA.seq ?_
 refine WA.block ?_
 refine WA.loop (fun m s_=>∃(v120:Zg) (v121:List Ze) (v122:Nat),Zj s_.env [0,2,3]=[(0,.val false [.ptr 0 1 0 0]),(2,.val false [.ptr 102 1 0 0]),(3,.val false [.arr 103 v122])]∧Zj s_.os [0,102,103]=[(0,.box (pvL (Zd v120))),(102,.box (pvL (Zc (⟨0,([]:List Zb),([]:List Ze),0,0⟩:Ze)))),(103,.arr 5 (Zk v121))]∧v122=(v121:List _).length∧Zhp R48 k m v120 v121=some r) k ⟨v0,([]:List Ze),0,kr,kr,zt,hF⟩ ?_
 clear hF
 rintro m2 s_ ⟨v120,v121,v122,he,ho,hn_v122,hF⟩
 refine WA.keep _ _ he ho ?_
 clear he ho
 cases m2 with
 | zero=>cases hF
 | succ m2=>
  obtain ⟨self2,hself2⟩:∃g,g=Zhp R48 k m2:=⟨_,rfl⟩
  have hF:Zmg R48 k self2 v120 v121=some r:=by first | (rw [hself2];exact hF) | exact hF
  refine WA.seq ?_
  refine WA.join (fun s_=>∃(v127:Bool),Zj s_.env [0,2,3,23]=[(0,.val false [.ptr 0 1 0 0]),(2,.val false [.ptr 102 1 0 0]),(3,.val false [.arr 103 v122]),(23,one (.bool v127))]∧Zj s_.os [0,102,103]=[(0,.box (pvL (Zd v120))),(102,.box (pvL (Zc (⟨0,([]:List Zb),([]:List Ze),0,0⟩:Ze)))),(103,.arr 5 (Zk v121))]∧Zho R48 k self2 v120 v121 v127=some r) ?_ ?_
  {
 rintro s_ ⟨v127,he,ho,hF⟩
 refine WA.keep _ _ he ho ?_
 clear he ho
 refine WA.cond (b:=v127) rfl (fun hb128=>?_) (fun hb128=>?_)
 {
 have hF:=Zi hF hb128
 refine WA.skip ?_
 refine WA.block ?_
 rcases Z7 hF with ⟨hz,hr⟩ | ⟨y129,hy129,hF⟩
 {
 subst hr
 refine WA.regP 2 [0] [] [] badV (f:=98) (args:=[.val false [.ptr 0 1 0 0]]) (os:=[.box (pvL (Zd v120))]) (env1:=[]) (os1:=[(0,.box (pvL (Zd v120))),(102,.box (pvL (Zc (⟨0,([]:List Zb),([]:List Ze),0,0⟩:Ze)))),(103,.arr 5 (Zk v121))]) (O:=[]) kr (sound _ _) trivial (by decide) (Zmi R48 IH48 k _ _ hz) (fun psl hpsl=>?_)
 obtain ⟨ps,rfl⟩:=ZT hpsl
 exact ⟨rfl,[ps],kr,rfl⟩ }
 {
 obtain ⟨hc130,hF⟩:=Zn hF
 refine WA.rm (α:=(List (List PV))×(List (List PV))) (raw:=(((Zk v121) ++ ([(Zc y129.1)])),[(Zc y129.1)])) (can:=((Zk (v121 ++ ([y129.1]:List Ze))),(Zk ([y129.1]:List Ze)))) (fun m_=>([(0,.val false [.ptr 0 1 0 0]),(2,.val false [.ptr 102 1 0 0]),(3,.val false [.arr 103 (v122+1)])],[(0,.box (pvL (Zd y129.2))),(102,.box (pvL (Zc (⟨0,([]:List Zb),([]:List Ze),0,0⟩:Ze)))),(103,.arr 5 m_.1)],[Sim Tryz.prog GL0 98 [.val false [.ptr 0 1 0 0]] [.box (pvL (Zd v120))] (.val true (pvL (Zc y129.1))) [.box (pvL (Zd y129.2))],([0]:List Nat).Nodup,v122=(Zk v121).length,(Zk v121).length+m_.2.length≤1073741824,∀es,es∈m_.2→es.length=5])) (ZE zm zm) [0,2,3] [0,102,103] [(2,.call [0] (.val true (pvL (Zc y129.1))) [.box (pvL (Zd y129.2))] [])] kr (sound _ _) ⟨(Zmi R48 IH48 k _ _ hy129),(by decide),zt,(by first | exact hc130 | (simp only [List.length_map,Zf];exact hc130)),(ZeL ([y129.1]:List Ze)),trivial⟩ ?_
 exact ⟨m2,Nat.lt_succ_self _,y129.2,(v121 ++ ([y129.1]:List Ze)),(v122+1),kr,kr,zt,by rw [hself2] at hF;exact hF⟩ } }
 {
 have hF:=Zh hF hb128
 refine WA.exit ?_
 refine WA.seq ?_
 refine WA.seq ?_
 refine WA.rm (α:=Int) (raw:=((v122:Nat):Int)) (can:=(v121.length:Int)) (fun m_=>([(2,.val false [.ptr 102 1 0 0]),(3,.val false [.arr 103 v122]),(31,one (.bool (m_ == 1)))],[(0,.box (pvL (Zd v120))),(102,.box (pvL (Zc (⟨0,([]:List Zb),([]:List Ze),0,0⟩:Ze)))),(103,.arr 5 (Zk v121))],[])) ((by first | (simp only [zl,Zf];done) | (simp only [zl,Zf];omega) | omega)) [2,3,31] [0,102,103] [] kr (sound _ _) trivial ?_
 refine WA.cond (b:=((v121.length:Int) == 1)) rfl (fun hb131=>?_) (fun hb131=>?_)
 {
 have hF:=Zi hF hb131
 refine WA.seq ?_
 obtain ⟨hc132,hF⟩:=Zn hF
 obtain ⟨y133,hy133,hF⟩:=bind_some hF
 refine WA.reg [2] [0,102] [(2,.cells (Zc y133))] (env':=[(2,.val false [.ptr 102 1 0 0])]) (os':=[(0,.box (pvL (Zd v120))),(102,.box (pvL (Zc y133)))]) (O:=[v122=(Zk v121).length,(0:Int)≤0,0<((v122:Nat):Int),v122=(Zk v121).length,(Zk v121)[Int.toNat 0]?=some (Zc y133)]) kr (sound _ _) ⟨zt,hc132.1,(by have h_:=hc132.2;(try simp only [zl,Zf] at h_ ⊢);omega),zt,(Zp (ZK hy133)),trivial⟩ ?_
 refine WA.ret ?_
 obtain rfl:=Option.some.inj hF
 exact Zq (.val true (pvL (Zc y133))) [.box (pvL (Zd v120))] kr kr kr kr (by decide) rfl rfl }
 {
 have hF:=Zh hF hb131
 refine WA.skip ?_
 refine WA.seq ?_
 refine WA.freeze 103 3 (s:=5) (n:=v122) (els:=(Zk v121)) rfl rfl zt ?_
 refine WA.keep [2,3] [0,102] (env':=[(2,.val false [.ptr 102 1 0 0]),(3,one (.sl (Zk v121)))]) (os':=[(0,.box (pvL (Zd v120))),(102,.box (pvL (Zc (⟨0,([]:List Zb),([]:List Ze),0,0⟩:Ze))))]) kr kr ?_
 refine WA.reg [2] [0,102] [] (env':=[(2,.val false [.ptr 102 1 0 0])]) (os':=[(0,.box (pvL (Zd v120))),(102,.box (pvL (Zc (⟨2,([]:List Zb),v121,0,0⟩:Ze))))]) (O:=[]) kr (sound _ _) trivial ?_
 refine WA.ret ?_
 obtain rfl:=Option.some.inj hF
 exact Zq (.val true (pvL (Zc (⟨2,([]:List Zb),v121,0,0⟩:Ze)))) [.box (pvL (Zd v120))] kr kr kr kr (by decide) rfl rfl } } }
  {
 rcases Bool.eq_false_or_eq_true (decide (v120.f_at<(v120.f_s.length:Int))) with hb123 | hb123
 {
 have hF:=Zi hF hb123
 obtain ⟨y124,hy124,hF⟩:=bind_some hF
 rcases Bool.eq_false_or_eq_true (!y124) with hb125 | hb125
 {
 have hF:=Zi hF hb125
 obtain ⟨y126,hy126,hF⟩:=bind_some hF
 refine WA.regD kr [0,2,3,23] [0,102,103] [(10,.bool true),(12,.callR [0] (one (.bool y124))),(15,.bool true),(17,.callR [0] (one (.bool y126)))] (env':=[(0,.val false [.ptr 0 1 0 0]),(2,.val false [.ptr 102 1 0 0]),(3,.val false [.arr 103 v122]),(23,one (.bool (!y126)))]) (os':=[(0,.box (pvL (Zd v120))),(102,.box (pvL (Zc (⟨0,([]:List Zb),([]:List Ze),0,0⟩:Ze)))),(103,.arr 5 (Zk v121))]) (O:=[(decide (v120.f_at<(v120.f_s.length:Int)))=true,Sim Tryz.prog GL0 97 [.val false [.ptr 0 1 0 0],one (.str ([124]:List UInt8))] [.box (pvL (Zd v120))] (one (.bool y124)) [.box (pvL (Zd v120))],([0]:List Nat).Nodup,(!y124)=true,Sim Tryz.prog GL0 97 [.val false [.ptr 0 1 0 0],one (.str ([41]:List UInt8))] [.box (pvL (Zd v120))] (one (.bool y126)) [.box (pvL (Zd v120))],([0]:List Nat).Nodup]) kr kr (sound _ _) ⟨hb123,(ZcY k _ _ _ hy124),(by decide),hb125,(ZcY k _ _ _ hy126),(by decide),trivial⟩ ?_
 exact ⟨(!y126),kr,kr,hF⟩ }
 {
 have hF:=Zh hF hb125
 refine WA.regD kr [0,2,3,23] [0,102,103] [(10,.bool true),(12,.callR [0] (one (.bool y124))),(15,.bool false),(17,.callR [] (.tup []))] (env':=[(0,.val false [.ptr 0 1 0 0]),(2,.val false [.ptr 102 1 0 0]),(3,.val false [.arr 103 v122]),(23,one (.bool false))]) (os':=[(0,.box (pvL (Zd v120))),(102,.box (pvL (Zc (⟨0,([]:List Zb),([]:List Ze),0,0⟩:Ze)))),(103,.arr 5 (Zk v121))]) (O:=[(decide (v120.f_at<(v120.f_s.length:Int)))=true,Sim Tryz.prog GL0 97 [.val false [.ptr 0 1 0 0],one (.str ([124]:List UInt8))] [.box (pvL (Zd v120))] (one (.bool y124)) [.box (pvL (Zd v120))],([0]:List Nat).Nodup,(!y124)=false]) kr kr (sound _ _) ⟨hb123,(ZcY k _ _ _ hy124),(by decide),hb125,trivial⟩ ?_
 exact ⟨false,kr,kr,hF⟩ } }
 {
 have hF:=Zh hF hb123
 refine WA.regD kr [0,2,3,23] [0,102,103] [(10,.bool false),(12,.callR [] (.tup [])),(17,.callR [] (.tup []))] (env':=[(0,.val false [.ptr 0 1 0 0]),(2,.val false [.ptr 102 1 0 0]),(3,.val false [.arr 103 v122]),(23,one (.bool false))]) (os':=[(0,.box (pvL (Zd v120))),(102,.box (pvL (Zc (⟨0,([]:List Zb),([]:List Ze),0,0⟩:Ze)))),(103,.arr 5 (Zk v121))]) (O:=[(decide (v120.f_at<(v120.f_s.length:Int)))=false]) kr kr (sound _ _) ⟨hb123,trivial⟩ ?_
 exact ⟨false,kr,kr,hF⟩ } }
def Zmc (R48:Zg→Option (Option (Ze×Zg))) (k:Nat) (self0:Zg→(List Ze)→Option (Option (Ze×Zg))) (v113:Zg) (v114:List Ze):Option (Option (Ze×Zg)):=
  (F71 k v113 ([124]:List UInt8)).bind fun y116=>(cond y116.1 ((orP (F70 R48 k y116.2) fun y118=>if v114.length+([y118.1]:List Ze).length≤1073741824 then self0 y118.2 (v114 ++ ([y118.1]:List Ze)) else none)) (((cond ((v114.length:Int) == 1) (if (0:Int)≤0∧0<(v114.length:Int) then (idxL v114 0).bind fun y122=>(some (some (y122,y116.2))) else none) (((some (some ((⟨3,([]:List Zb),v114,0,0⟩:Ze),y116.2)))))))))
def Zhg (R48:Zg→Option (Option (Ze×Zg))) (k:Nat):Nat→Zg→(List Ze)→Option (Option (Ze×Zg))
  | 0,_,_=>none
  | m_+1,v113,v114=>Zmc R48 k (Zhg R48 k m_) v113 v114
def ZnT (R48:Zg→Option (Option (Ze×Zg))) (k:Nat) (v0:Zg):Option (Option (Ze×Zg)):=
  (orP (F70 R48 k v0) fun y101=>(Zhg R48 k k y101.2 ([y101.1]:List Ze)))
theorem Zm9 (R48:Zg→Option (Option (Ze×Zg))) (IH48:∀(v0:Zg) (r:Option (Ze×Zg)),R48 v0=some r→SimP Tryz.prog GL0 badV 48 [.val false [.ptr 0 1 0 0]] [.box (pvL (Zd v0))] (r.map fun r=>(.val true (pvL (Zc r.1)),[.box (pvL (Zd r.2))]))) (k:Nat) (v0:Zg) (r:Option (Ze×Zg)) (hF:ZnT R48 k v0=some r):SimP Tryz.prog GL0 badV 48 [.val false [.ptr 0 1 0 0]] [.box (pvL (Zd v0))] (r.map fun r=>(.val true (pvL (Zc r.1)),[.box (pvL (Zd r.2))])):=by
 refine Zbb [0] Tryz.func48 rfl kr kr ?_
 show WA _ _ 22 _ _ _
 refine WA.seq ?_
 refine WA.reg [0,2] [0,102] [(0,.obj 102)] (env':=[(0,.val false [.ptr 0 1 0 0]),(2,.val false [.ptr 102 1 0 0])]) (os':=[(0,.box (pvL (Zd v0))),(102,.box (pvL (Zc (⟨0,([]:List Zb),([]:List Ze),0,0⟩:Ze))))]) (O:=[]) kr (sound _ _) trivial ?_
 refine WA.seq ?_
 rcases Z7 hF with ⟨hz,hr⟩ | ⟨y101,hy101,hF⟩
 {
 subst hr
 refine WA.regP 1 [0] [] [] badV (f:=70) (args:=[.val false [.ptr 0 1 0 0]]) (os:=[.box (pvL (Zd v0))]) (env1:=[]) (os1:=[(0,.box (pvL (Zd v0))),(102,.box (pvL (Zc (⟨0,([]:List Zb),([]:List Ze),0,0⟩:Ze))))]) (O:=[]) kr (sound _ _) trivial (by decide) (Zhq R48 IH48 k _ _ hz) (fun psl hpsl=>?_)
 obtain ⟨ps,rfl⟩:=ZT hpsl
 exact ⟨rfl,[ps],kr,rfl⟩ }
 {
 refine WA.rm (α:=(List (List PV))) (raw:=[(Zc y101.1)]) (can:=(Zk ([y101.1]:List Ze))) (fun m_=>([(0,.val false [.ptr 0 1 0 0]),(2,.val false [.ptr 102 1 0 0]),(3,.val false [.arr 106 1])],[(0,.box (pvL (Zd y101.2))),(102,.box (pvL (Zc (⟨0,([]:List Zb),([]:List Ze),0,0⟩:Ze)))),(106,.arr 5 m_)],[Sim Tryz.prog GL0 70 [.val false [.ptr 0 1 0 0]] [.box (pvL (Zd v0))] (.val true (pvL (Zc y101.1))) [.box (pvL (Zd y101.2))],([0]:List Nat).Nodup])) (zm) [0,2,3] [0,102,106] [(1,.call [0] (.val true (pvL (Zc y101.1))) [.box (pvL (Zd y101.2))] []),(2,.obj 106)] kr (sound _ _) ⟨(Zhq R48 IH48 k _ _ hy101),(by decide),trivial⟩ ?_
 refine WA.seq ?_
 refine WA.block ?_
 refine WA.loop (fun m s_=>∃(v113:Zg) (v114:List Ze) (v115:Nat),Zj s_.env [0,2,3]=[(0,.val false [.ptr 0 1 0 0]),(2,.val false [.ptr 102 1 0 0]),(3,.val false [.arr 106 v115])]∧Zj s_.os [0,102,106]=[(0,.box (pvL (Zd v113))),(102,.box (pvL (Zc (⟨0,([]:List Zb),([]:List Ze),0,0⟩:Ze)))),(106,.arr 5 (Zk v114))]∧v115=(v114:List _).length∧Zhg R48 k m v113 v114=some r) k ⟨y101.2,([y101.1]:List Ze),1,kr,kr,zt,hF⟩ ?_
 clear hF
 rintro m0 s_ ⟨v113,v114,v115,he,ho,hn_v115,hF⟩
 refine WA.keep _ _ he ho ?_
 clear he ho
 cases m0 with
 | zero=>cases hF
 | succ m0=>
  obtain ⟨self0,hself0⟩:∃g,g=Zhg R48 k m0:=⟨_,rfl⟩
  have hF:Zmc R48 k self0 v113 v114=some r:=by first | (rw [hself0];exact hF) | exact hF
  refine WA.seq ?_
  refine WA.seq ?_
  obtain ⟨y116,hy116,hF⟩:=bind_some hF
  refine WA.reg [0,2,3,8] [0,102,106] [(1,.call [0] (one (.bool y116.1)) [.box (pvL (Zd y116.2))] [])] (env':=[(0,.val false [.ptr 0 1 0 0]),(2,.val false [.ptr 102 1 0 0]),(3,.val false [.arr 106 v115]),(8,one (.bool y116.1))]) (os':=[(0,.box (pvL (Zd y116.2))),(102,.box (pvL (Zc (⟨0,([]:List Zb),([]:List Ze),0,0⟩:Ze)))),(106,.arr 5 (Zk v114))]) (O:=[Sim Tryz.prog GL0 71 [.val false [.ptr 0 1 0 0],one (.str ([124]:List UInt8))] [.box (pvL (Zd v113))] (one (.bool y116.1)) [.box (pvL (Zd y116.2))],([0]:List Nat).Nodup]) kr (sound _ _) ⟨(Zar k _ _ _ hy116),(by decide),trivial⟩ ?_
  refine WA.cond (b:=y116.1) rfl (fun hb117=>?_) (fun hb117=>?_)
  {
 have hF:=Zi hF hb117
 refine WA.skip ?_
 refine WA.block ?_
 rcases Z7 hF with ⟨hz,hr⟩ | ⟨y118,hy118,hF⟩
 {
 subst hr
 refine WA.regP 2 [0] [] [] badV (f:=70) (args:=[.val false [.ptr 0 1 0 0]]) (os:=[.box (pvL (Zd y116.2))]) (env1:=[]) (os1:=[(0,.box (pvL (Zd y116.2))),(102,.box (pvL (Zc (⟨0,([]:List Zb),([]:List Ze),0,0⟩:Ze)))),(106,.arr 5 (Zk v114))]) (O:=[]) kr (sound _ _) trivial (by decide) (Zhq R48 IH48 k _ _ hz) (fun psl hpsl=>?_)
 obtain ⟨ps,rfl⟩:=ZT hpsl
 exact ⟨rfl,[ps],kr,rfl⟩ }
 {
 obtain ⟨hc119,hF⟩:=Zn hF
 refine WA.rm (α:=(List (List PV))×(List (List PV))) (raw:=(((Zk v114) ++ ([(Zc y118.1)])),[(Zc y118.1)])) (can:=((Zk (v114 ++ ([y118.1]:List Ze))),(Zk ([y118.1]:List Ze)))) (fun m_=>([(0,.val false [.ptr 0 1 0 0]),(2,.val false [.ptr 102 1 0 0]),(3,.val false [.arr 106 (v115+1)])],[(0,.box (pvL (Zd y118.2))),(102,.box (pvL (Zc (⟨0,([]:List Zb),([]:List Ze),0,0⟩:Ze)))),(106,.arr 5 m_.1)],[Sim Tryz.prog GL0 70 [.val false [.ptr 0 1 0 0]] [.box (pvL (Zd y116.2))] (.val true (pvL (Zc y118.1))) [.box (pvL (Zd y118.2))],([0]:List Nat).Nodup,v115=(Zk v114).length,(Zk v114).length+m_.2.length≤1073741824,∀es,es∈m_.2→es.length=5])) (ZE zm zm) [0,2,3] [0,102,106] [(2,.call [0] (.val true (pvL (Zc y118.1))) [.box (pvL (Zd y118.2))] [])] kr (sound _ _) ⟨(Zhq R48 IH48 k _ _ hy118),(by decide),zt,(by first | exact hc119 | (simp only [List.length_map,Zf];exact hc119)),(ZeL ([y118.1]:List Ze)),trivial⟩ ?_
 exact ⟨m0,Nat.lt_succ_self _,y118.2,(v114 ++ ([y118.1]:List Ze)),(v115+1),kr,kr,zt,by rw [hself0] at hF;exact hF⟩ } }
  {
 have hF:=Zh hF hb117
 refine WA.exit ?_
 refine WA.seq ?_
 refine WA.seq ?_
 refine WA.rm (α:=Int) (raw:=((v115:Nat):Int)) (can:=(v114.length:Int)) (fun m_=>([(2,.val false [.ptr 102 1 0 0]),(3,.val false [.arr 106 v115]),(16,one (.bool (m_ == 1)))],[(0,.box (pvL (Zd y116.2))),(102,.box (pvL (Zc (⟨0,([]:List Zb),([]:List Ze),0,0⟩:Ze)))),(106,.arr 5 (Zk v114))],[])) ((by first | (simp only [zl,Zf];done) | (simp only [zl,Zf];omega) | omega)) [2,3,16] [0,102,106] [] kr (sound _ _) trivial ?_
 refine WA.cond (b:=((v114.length:Int) == 1)) rfl (fun hb120=>?_) (fun hb120=>?_)
 {
 have hF:=Zi hF hb120
 refine WA.seq ?_
 obtain ⟨hc121,hF⟩:=Zn hF
 obtain ⟨y122,hy122,hF⟩:=bind_some hF
 refine WA.reg [2] [0,102] [(2,.cells (Zc y122))] (env':=[(2,.val false [.ptr 102 1 0 0])]) (os':=[(0,.box (pvL (Zd y116.2))),(102,.box (pvL (Zc y122)))]) (O:=[v115=(Zk v114).length,(0:Int)≤0,0<((v115:Nat):Int),v115=(Zk v114).length,(Zk v114)[Int.toNat 0]?=some (Zc y122)]) kr (sound _ _) ⟨zt,hc121.1,(by have h_:=hc121.2;(try simp only [zl,Zf] at h_ ⊢);omega),zt,(Zp (ZK hy122)),trivial⟩ ?_
 refine WA.ret ?_
 obtain rfl:=Option.some.inj hF
 exact Zq (.val true (pvL (Zc y122))) [.box (pvL (Zd y116.2))] kr kr kr kr (by decide) rfl rfl }
 {
 have hF:=Zh hF hb120
 refine WA.skip ?_
 refine WA.seq ?_
 refine WA.freeze 106 3 (s:=5) (n:=v115) (els:=(Zk v114)) rfl rfl zt ?_
 refine WA.keep [2,3] [0,102] (env':=[(2,.val false [.ptr 102 1 0 0]),(3,one (.sl (Zk v114)))]) (os':=[(0,.box (pvL (Zd y116.2))),(102,.box (pvL (Zc (⟨0,([]:List Zb),([]:List Ze),0,0⟩:Ze))))]) kr kr ?_
 refine WA.reg [2] [0,102] [] (env':=[(2,.val false [.ptr 102 1 0 0])]) (os':=[(0,.box (pvL (Zd y116.2))),(102,.box (pvL (Zc (⟨3,([]:List Zb),v114,0,0⟩:Ze))))]) (O:=[]) kr (sound _ _) trivial ?_
 refine WA.ret ?_
 obtain rfl:=Option.some.inj hF
 exact Zq (.val true (pvL (Zc (⟨3,([]:List Zb),v114,0,0⟩:Ze)))) [.box (pvL (Zd y116.2))] kr kr kr kr (by decide) rfl rfl } } }
def F48:Nat→Zg→Option (Option (Ze×Zg))
  | 0,_=>none
  | k+1,v0=>ZnT (F48 k) k v0
theorem ZjA:∀(k:Nat),∀(v0:Zg) (r:Option (Ze×Zg)),F48 k v0=some r→SimP Tryz.prog GL0 badV 48 [.val false [.ptr 0 1 0 0]] [.box (pvL (Zd v0))] (r.map fun r=>(.val true (pvL (Zc r.1)),[.box (pvL (Zd r.2))]))
  | 0=>fun _ _ hF=>by cases hF
  | k+1=>fun v0 r hF=>Zm9 (F48 k) (ZjA k) k v0 r hF
end Go.Proofs.YthilboheomikjaaGreatDoor
end
section
namespace Go.Proofs.YthilboheomikjaaGreatDoor
open Go.AL Go.RowKit
set_option maxRecDepth 100000
theorem ZlE (w:World):(Instr.typeAssert .nilIface 20 70 true).run Tryz.prog w = .ok (.tuple #[.agg #[],.bool false]) w:=by kernel_rfl
theorem ZlD (w:World):(Instr.typeAssert badV 20 70 true).run Tryz.prog w = .ok (.tuple #[.agg #[],.bool true]) w:=by kernel_rfl
theorem ZlH (p q:Addr) (w:World) :
    CallsD Tryz.prog 47 #[.pointer (some p),.pointer (some q)] .returning w fun e u' w'=>e = .returned (.tuple #[])∧u' = .returning∧w'=w.alloc (.cells #[] 70):=by
  refine callsD_of_wpS Tryz.func47 rfl fun c₀ cs hu=>?_
  apply wpS_seq
  apply wpS_region
  simp [wpOpsS,go_sem,recoverD,hu,Tryz.ntmps47,Exit.thenS,ZlE,Oper.upon,Act.put]
  apply wpS_seq
  apply wpS_region
  simp [wpOpsS,go_sem,Exit.thenS,Oper.upon,Act.put]
  refine wpS_cond (t:=false) (by simp [Act.eval,Array.replicate]) ?_
  simp only [Bool.false_eq_true,if_false]
  refine wpS_of_wp (wp_skip ?_)
  cases c₀
  simp_all [bodyPostS,results,Tryz.results47,Exit.thenS]
theorem Zmp (p q:Addr) (w:World) (w1 w2:World) (h1:(Instr.storeAt 35 (.pointer (some p)) (.agg #[.int .i64 0,.slice none 0 0,.slice none 0 0,.int .i64 0,.int .i64 0])).run Tryz.prog (w.alloc (.cells #[] 70)) = .ok () w1)
    (h2:(Instr.storeAt 3 (.pointer (some q)) (.int .i64 3)).run Tryz.prog w1 = .ok () w2) :
    CallsD Tryz.prog 47 #[.pointer (some p),.pointer (some q)] (.panicking (Zcp badV)) w fun e u' w'=>e = .returned (.tuple #[])∧u' = .panicking [{ v:=badV,recovered:=true }]∧w'=w2:=by
  refine callsD_of_wpS Tryz.func47 rfl fun c₀ cs hu=>?_
  apply wpS_seq
  apply wpS_region
  have hb:badV = .iface 70 (.agg #[]):=rfl
  simp [wpOpsS,go_sem,recoverD,hu,Tryz.ntmps47,Exit.thenS,ZlD,Oper.upon,Act.put,Zcp]
  apply wpS_seq
  apply wpS_region
  simp [wpOpsS,go_sem,Exit.thenS,Oper.upon,Act.put]
  refine wpS_cond (t:=true) (by simp [Act.eval,Array.replicate]) ?_
  simp only [if_true]
  have hbld:∀W:World,(Instr.build 35 #[]).run Tryz.prog W = .ok (.agg #[.int .i64 0,.slice none 0 0,.slice none 0 0,.int .i64 0,.int .i64 0]) W:=fun W=>by kernel_rfl
  apply wpS_region
  simp [wpOpsS,execOp,Exit.thenS,Oper.upon,Act.put,hbld,Act.eval,h1,h2,Region.wanted,Array.replicate,show List.range 3=[0,1,2] from rfl]
  exact ⟨rfl,_,rfl,.tuple #[],by simp [results,Tryz.results47],rfl,rfl,rfl⟩
end Go.Proofs.YthilboheomikjaaGreatDoor
end
