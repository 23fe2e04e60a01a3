/- A17, A18, A19, A20, L1, P1, L3, P11, R0, A26, AS, G1, R1, A21, A22, A23, G6, P3, L2, P4 -/
import Derived.Test.YthilboheomikjaaGreatDoorMRRexPrints1
import Derived.Orders
import Derived.Shelf.Small.Strs
import Derived.Shelf.Strconv.Atoi
import Derived.Shelf.Strings.Prefix
import Derived.Shelf.Unicode.Decode
import Derived.Shelf.Unicode.DecodeAny
import Derived.Shelf.Unicode.ValidAny
import Derived.Ground.NamesProg
import Derived.Test.YthilboheomikjaaGreatDoorProg
import Derived.Lib.AtoiErrMem
import Derived.Shelf.LaysM
import Derived.Shelf.Strings.Shaped
import Derived.Shelf.Strings.Search3
import Derived.Shelf.Strings.OnBuilder
import Derived.Shelf.Strconv.Itoa3
import Derived.Lib.LaidTab
import Derived.Test.YthilboheomikjaaGreatDoorRows
import Derived.Test.YthilboheomikjaaGreatDoorTie
import Derived.Test.YthilboheomikjaaGreatDoorCards
import Derived.WalkKit
import Derived.ProofKit
import Derived.Lay
import Derived.LaidOnce
import Derived.SevenTiedAt
import Derived.Lib.LaidU8
import Derived.OpenShut
import Derived.ShutString
import Derived.SizedLaws
import Derived.Carry
import Derived.ChangeOld
import Derived.DataReads
import Derived.ChangeArms
import Derived.Laws.Build
import Derived.Laws.Cover3
import Derived.Shelf.Small.Bits
set_option linter.unusedVariables false
set_option linter.unusedSimpArgs false
section
namespace Go.AL
variable {P:Program} {GL:List (Nat×List PV)} {C:Spec} {N:Nat}
theorem ZhJ {st:S} {o:Oper} {h:Option Hint} {x:AT} {os':Objs} {O:List Prop} (hk:ZE o h≤1) (he:Zw P GL C st o h=some (x,os',O)):os'=st.os:=by
  have hm:∀{r:Option AT} {x:AT} {os':Objs} {O L:List Prop},(r.map fun a=>((a,st.os,L):AT×Objs×List Prop))=some (x,os',O)→os'=st.os:=by
    intro r x os' O L h
    obtain ⟨y,rfl,e⟩:=map_some h
    cases e;rfl
  have hobj:∀id,h≠some (.obj id):=fun id e=>by subst e;have:=Zcx (o:=o) (id:=id);omega
  obtain ⟨dst,op,ty,pos,after,guard⟩:=o
  cases op with
  | move y=>
    simp only [Zw] at he
    split at he
    · exact absurd rfl (hobj _)
    · exact hm he
    · cases he
  | assign y=>
    simp only [Zw] at he
    split at he
    · exact absurd rfl (hobj _)
    · exact hm he
    · cases he
  | pick c y z=>simp only [Zw] at he;split at he <;> first | exact hm he | cases he
  | binOp op t y z yt=>
    simp only [Zw] at he
    split at he
    · split at he
      · split at he <;> cases he;rfl
      · split at he <;> cases he;rfl
      · obtain ⟨⟨r,O2⟩,hb,e⟩:=map_some he
        cases e;rfl
    · unfold Zhn at he
      split at he
      · split at he <;> cases he <;> rfl
      · cases he
    · cases he
  | unOp op t y=>simp only [Zw] at he;split at he <;> cases he <;> rfl
  | convert s d y=>
    simp only [Zw] at he
    split at he
    · exact (Zfw st he).1
    · cases he
  | extract y i=>
    simp only [Zw] at he
    split at he
    · split at he <;> cases he;rfl
    · cases he
  | slice t x lo hi mx=>
    simp only [Zw] at he
    split at he
    · exact absurd rfl (hobj _)
    · unfold Zdq at he
      split at he
      · cases he
      · split at he
        · split at he <;> cases he;rfl
        · split at he <;> cases he;rfl
        · cases he
    · cases he
  | field t x f=>
    simp only [Zw] at he
    split at he
    · split at he
      · exact hm he
      · cases he
    · cases he
  | fieldAddr t x f=>
    simp only [Zw] at he
    split at he
    · unfold ZbR at he
      split at he
      · split at he
        · split at he
          · cases he
          · cases he
          · split at he
            · cases he;rfl
            · obtain ⟨O2,hb,e⟩:=map_some he
              cases e;rfl
            · cases he
        · cases he
      · cases he
    · cases he
  | nilCheck x=>
    simp only [Zw] at he
    split at he
    · obtain ⟨O2,hb,e⟩:=map_some he
      cases e;rfl
    · cases he;rfl
    · cases he
  | load t x=>
    simp only [Zw] at he
    split at he
    · unfold Zgm at he
      split at he
      · exact hm he
      · split at he
        · split at he
          · exact hm he
          · cases he
        · exact hm he
        · cases he
      · cases he
    · cases he
  | store t x y=>
    exfalso
    cases h with
    | none=>exact absurd hk (by show ¬2≤1;omega)
    | some h=>cases h <;> first | exact absurd hk (by show ¬2≤1;omega) | exact absurd hk (by show ¬4≤1;omega)
  | indexAddr t x y=>
    simp only [Zw] at he
    split at he
    · unfold ZbS at he
      split at he
      · split at he
        · split at he <;> cases he;rfl
        · cases he
      · split at he
        · split at he <;> cases he;rfl
        · cases he
      · cases he
    · cases he
  | index t x y=>
    simp only [Zw] at he
    split at he
    · unfold Ze8 at he
      split at he <;> cases he;rfl
    · cases he
  | build t parts=>
    simp only [Zw] at he
    split at he
    · obtain ⟨O2,hb,e⟩:=map_some he
      cases e;rfl
    · cases he
  | buildSlice t n parts=>
    simp only [Zw] at he
    split at he
    · split at he
      · split at he
        · cases he;rfl
        · cases he;rfl
        · exact absurd rfl (hobj _)
        · cases he
      · cases he
    · cases he
  | call c=>
    obtain ⟨cal,⟨args⟩,⟨tys⟩⟩:=c
    cases cal with
    | invoke r m=>cases he
    | builtin b=>
      simp only [Zw] at he
      split at he
      · split at he
        · unfold Zd2 at he;split at he <;> cases he <;> rfl
        · unfold Zd2 at he;split at he <;> cases he <;> rfl
        · cases he
      · exfalso
        cases h with
        | none=>exact absurd hk (by show ¬2≤1;omega)
        | some h=>cases h <;> first | exact absurd hk (by show ¬2≤1;omega) | exact absurd hk (by show ¬4≤1;omega)
      · split at he
        · exact hm he
        · cases he
      · split at he
        · exact hm he
        · cases he
      · cases he
    | value fo=>
      simp only [Zw] at he
      split at he
      · rename_i f hfo
        split at he
        · unfold ZdK at he
          split at he
          · rename_i a b c d
            cases d with
            | nil=>exact absurd hk (by show ¬2≤1;omega)
            | cons d e=>exact absurd hk (by show ¬4≤1;omega)
          · split at he
            · split at he <;> cases he;rfl
            · cases he
          · cases he
        · cases he
      · cases he
  | alloc t=>simp only [Zw] at he;split at he <;> first | exact absurd rfl (hobj _) | cases he
  | box t x=>simp only [Zw] at he;split at he <;> first | exact absurd rfl (hobj _) | cases he
  | makeSlice t l c=>simp only [Zw] at he;split at he <;> first | exact absurd rfl (hobj _) | cases he
  | _=>cases he
theorem ZdL {o:Oper} {b:Bool}:ZE o (some (.bool b))=ZE o none:=by
  unfold ZE;split <;> rfl
theorem ZmE {e1 e2:List (Nat×AT)} {os:Objs} {o:Oper} {h:Option Hint} (hop:∀y,y∈o.op.operands.toList→opd GL ⟨e2,os⟩ y=opd GL ⟨e1,os⟩ y) (hk:ZE o h<3) :
    Z3 P GL C ⟨e2,os⟩ o h=Z3 P GL C ⟨e1,os⟩ o h:=by
  unfold Z3
  split
  · rw [Zjb hop (by rw [←ZdL];exact hk)]
  · exact Zjb hop hk
theorem ZlV {e1:List (Nat×AT)} {os:Objs} {o:Oper} {h:Option Hint} {x:AT} {os':Objs} {O:List Prop} (hk:ZE o h=0) (o2:Objs)
    (he:Z3 P GL C ⟨e1,os⟩ o h=some (x,os',O)):os'=os∧Z3 P GL C ⟨e1,o2⟩ o h=some (x,o2,O):=by
  unfold Z3 at he ⊢
  split at he
  · rename_i b
    split at he
    · rename_i y oo O2 he2
      cases he
      obtain ⟨h1,h2⟩:=ZhK (e2:=e1) (by rw [←ZdL];exact hk) (fun _ _=>rfl) o2 he2
      exact ⟨h1,by rw [h2]⟩
    · cases he
  · exact ZhK (e2:=e1) hk (fun _ _=>rfl) o2 he
theorem Zgn {st:S} {o:Oper} {h:Option Hint} {x:AT} {os':Objs} {O:List Prop} (hk:ZE o h≤1) (he:Z3 P GL C st o h=some (x,os',O)):os'=st.os:=by
  unfold Z3 at he
  split at he
  · rename_i b
    split at he
    · rename_i y oo O2 he2
      cases he
      exact ZhJ (by rw [←ZdL];exact hk) he2
    · cases he
  · exact ZhJ hk he
def ZaD (o:Oper):List Nat:=(o.after.toList.filter (Region.binds .any)).map (·.on)
def ZdM (ps:List Nat) (acc:List Nat):Nat:=ps.foldl (fun m p=>m ||| (1 <<< p) ||| acc.getD p 0) 0
def clo:List Oper→List Nat→List Nat
  | [],acc=>acc
  | o :: l,acc=>clo l (acc ++ [ZdM (ZaD o) acc])
theorem Zl4 (acc:List Nat) (i:Nat):∀(ps:List Nat) (m:Nat),(ps.foldl (fun m p=>m ||| (1 <<< p) ||| acc.getD p 0) m).testBit i=true→
    m.testBit i=true∨∃p,p∈ps∧(p=i∨(acc.getD p 0).testBit i=true)
  | [],m,h=>.inl h
  | p :: ps,m,h=>by
    rcases Zl4 acc i ps _ h with h | ⟨q,hq,hr⟩
    · rw [Nat.testBit_or,Nat.testBit_or] at h
      simp only [Bool.or_eq_true] at h
      rcases h with (h | h) | h
      · exact .inl h
      · right
        refine ⟨p,by simp,.inl ?_⟩
        rw [Nat.shiftLeft_eq,Nat.one_mul,Nat.testBit_two_pow] at h
        simpa using h
      · exact .inr ⟨p,by simp,.inr h⟩
    · exact .inr ⟨q,by simp [hq],hr⟩
theorem ZhX:∀(l:List Oper) (acc:List Nat),(∀k,k<acc.length→(clo l acc).getD k 0=acc.getD k 0)∧
    ∀(k:Nat) (o:Oper),l[k]?=some o→∀i,((clo l acc).getD (acc.length+k) 0).testBit i=true→∃p,p∈ZaD o∧(p=i∨(p<acc.length+k∧((clo l acc).getD p 0).testBit i=true))
  | [],acc=>⟨fun k _=>rfl,fun k o h=>by simp at h⟩
  | o :: l,acc=>by
    obtain ⟨h1,h2⟩:=ZhX l (acc ++ [ZdM (ZaD o) acc])
    have hlen:(acc ++ [ZdM (ZaD o) acc]).length=acc.length+1:=by simp
    have hold:∀k,k<acc.length→(clo (o :: l) acc).getD k 0=acc.getD k 0:=fun k hk=>by
      show (clo l _).getD k 0=_
      rw [h1 k (by omega)]
      simp [List.getElem?_append_left hk]
    refine ⟨hold,fun k o' ho i hb=>?_⟩
    cases k with
    | zero=>
      simp at ho;subst ho
      have hm:(clo (o :: l) acc).getD (acc.length+0) 0=ZdM (ZaD o) acc:=by
        show (clo l _).getD _ 0=_
        rw [h1 _ (by omega)]
        simp
      rw [hm] at hb
      rcases Zl4 acc i (ZaD o) 0 hb with h | ⟨p,hp,hr⟩
      · simp at h
      · refine ⟨p,hp,hr.imp id fun h=>?_⟩
        have hlt:p<acc.length:=by
          rcases Nat.lt_or_ge p acc.length with h' | h'
          · exact h'
          · simp [List.getElem?_eq_none h'] at h
        exact ⟨hlt,by rw [hold p hlt];exact h⟩
    | succ k=>
      have ho':l[k]?=some o':=by simpa using ho
      have e:acc.length+(k+1)=(acc ++ [ZdM (ZaD o) acc]).length+k:=by omega
      have hb':((clo l (acc ++ [ZdM (ZaD o) acc])).getD ((acc ++ [ZdM (ZaD o) acc]).length+k) 0).testBit i=true:=by rw [←e];exact hb
      obtain ⟨p,hp,hr⟩:=h2 k o' ho' i hb'
      exact ⟨p,hp,hr.imp id fun ⟨h,h'⟩=>⟨by omega,h'⟩⟩
def Zod (ops:List Oper) (L:Nat→Prop):Prop:=∀(j:Nat) (o:Oper),ops[j]?=some o→L j→∀p,p∈ZaD o→L p
theorem Zgd {ops:List Oper} {L:Nat→Prop} (hL:Zod ops L):∀(j:Nat) (o:Oper),ops[j]?=some o→(∀p,p∈ZaD o→L p)→(∀(k:Nat) (o':Oper),ops[k]?=some o'→k≤j→∀p,p∈ZaD o'→p<k)→
    ∀i,((clo ops []).getD j 0).testBit i=true→L i:=by
  intro j
  induction j using Nat.strongRecOn with
  | _ j ih=>
    intro o ho hp hlt i hb
    obtain ⟨p,hpp,hr⟩:=(ZhX ops []).2 j o ho i (by simpa using hb)
    rcases hr with rfl | ⟨_,hr⟩
    · exact hp p hpp
    · have hpj:=hlt j o ho (Nat.le_refl _) p hpp
      cases ho':ops[p]? with
      | none=>
        have h1:=List.getElem?_eq_none_iff.1 ho'
        have h2:=(List.getElem?_eq_some_iff.1 ho).1
        omega
      | some o'=>exact ih p hpj o' ho' (fun q hq=>hL p o' ho' (hp p hpp) q hq) (fun k o'' h1 h2=>hlt k o'' h1 (by omega)) i hr
theorem ZlF {l:List Nat} {d:Nat} (h:d∈l):l.any (Nat.beq d)=true:=List.any_eq_true.2 ⟨d,h,Nat.beq_refl d⟩
def ZZ (id:Nat) (GL:List (Nat×List PV)) (st:S) (o:Oper) (h:Option Hint):Bool:=
  match h with
  | some (.callR ids _)=>!(ids.any (Nat.beq id))
  | some (.call ids _ _ _)=>!(ids.any (Nat.beq id))
  | _=>o.op.operands.toList.all fun y=>match opd GL st y with | some a=>Zbx id a | none=>true
theorem ZcA {id:Nat} {st:S} {o:Oper} {h:Option Hint} {y:Operand} {a:AT} (hh:∀ids r,h≠some (.callR ids r)) (hh2:∀ids r a b,h≠some (.call ids r a b)) (hy:y∈o.op.operands.toList) (ho:opd GL st y=some a) (hr:Zbx id a=false):ZZ id GL st o h=false:=by
  unfold ZZ
  split
  · exact absurd rfl (hh _ _)
  · exact absurd rfl (hh2 _ _ _ _)
  · rw [List.all_eq_false]
    exact ⟨y,hy,by simp [ho,hr]⟩
theorem Zd4 (id n i j:Nat):Zbx id (.val false [.ptr id n i j])=false:=by simp [Zbx,ZcQ,Zfc,Nat.beq_refl]
theorem ZkD (id n:Nat):Zbx id (.val false [.arr id n])=false:=by simp [Zbx,ZcQ,Zfc,Nat.beq_refl]
theorem ZfP {os1 os2:Objs}:∀{ids:List Nat},(∀id,id∈ids→look os2 id=look os1 id)→ZY os2 ids=ZY os1 ids
  | [],_=>rfl
  | id :: ids,h=>by simp only [ZY];rw [h id (by simp),ZfP fun i hi=>h i (by simp [hi])]
theorem Zjh {o:Oper} {ids:List Nat} {r:AT} (hk:ZE o (some (.callR ids r))≤3):∃f args tys,o.op = .call ⟨.value f,args,tys⟩:=by
  unfold ZE at hk
  split at hk
  · rename_i h;exact ⟨_,_,_,h⟩
  · simp only [] at hk;omega
theorem Zjg {o:Oper} {ids:List Nat} {r:AT} {a:List Obj} {b:List Nat} (hk:ZE o (some (.call ids r a b))≤3):∃f args tys,o.op = .call ⟨.value f,args,tys⟩:=by
  unfold ZE at hk
  split at hk
  · rename_i h;exact ⟨_,_,_,h⟩
  · simp only [] at hk;omega
theorem Zr8 {e:List (Nat×AT)} {os1 os2:Objs} (y:Operand):opd GL ⟨e,os2⟩ y=opd GL ⟨e,os1⟩ y:=by cases y <;> rfl
theorem ZhI {e:List (Nat×AT)} {os1 os2:Objs} {o:Oper} {h:Option Hint} {x:AT} {os':Objs} {O:List Prop} (hk:ZE o h≤1) (he:Zw P GL C ⟨e,os1⟩ o h=some (x,os',O))
    (hl:∀id,ZZ id GL ⟨e,os1⟩ o h=false→look os2 id=look os1 id):Zw P GL C ⟨e,os2⟩ o h=some (x,os2,O):=by
  have hm:∀{r:Option AT} {x:AT} {os':Objs} {O:List Prop},(r.map fun a=>((a,os1,[]):AT×Objs×List Prop))=some (x,os',O)→(r.map fun a=>((a,os2,[]):AT×Objs×List Prop))=some (x,os2,O):=by
    intro r x os' O h
    obtain ⟨y,rfl,e⟩:=map_some h
    cases e;rfl
  have ho:∀y,opd GL ⟨e,os2⟩ y=opd GL ⟨e,os1⟩ y:=Zr8
  have hobj:∀id,h≠some (.obj id):=fun id e=>by subst e;have:=Zcx (o:=o) (id:=id);omega
  have hcr:(∀f args tys,o.op≠.call ⟨.value f,args,tys⟩)→∀ids r,h≠some (.callR ids r):=fun hne ids r e=>by
    subst e;obtain ⟨f,a,t,h'⟩:=Zjh (show ZE o (some (.callR ids r))≤3 by omega);exact hne f a t h'
  have hcr2:(∀f args tys,o.op≠.call ⟨.value f,args,tys⟩)→∀ids r a b,h≠some (.call ids r a b):=fun hne ids r a b e=>by
    subst e;obtain ⟨f,a,t,h'⟩:=Zjg (show ZE o (some (.call ids r a b))≤3 by omega);exact hne f a t h'
  obtain ⟨dst,op,ty,pos,after,guard⟩:=o
  have hbd:∀(x:Option Operand) (d:Int),ZaC GL ⟨e,os2⟩ x d=ZaC GL ⟨e,os1⟩ x d:=fun x d=>by cases x with | none=>rfl | some y=>simp only [ZaC,ho]
  have halive:∀{id n:Nat},look os2 id=look os1 id→ZdX ⟨e,os2⟩ id n=ZdX ⟨e,os1⟩ id n:=fun h=>by simp only [ZdX,h]
  cases op with
  | move y=>simp only [Zw,ho] at he ⊢;split at he <;> first | exact absurd rfl (hobj _) | exact hm he | cases he
  | assign y=>simp only [Zw,ho] at he ⊢;split at he <;> first | exact absurd rfl (hobj _) | exact hm he | cases he
  | pick c y z=>simp only [Zw,ho] at he ⊢;split at he <;> first | exact hm he | cases he
  | binOp op t y z yt=>
    simp only [Zw,ho] at he ⊢
    split at he
    · split at he
      · split at he <;> cases he;rfl
      · split at he <;> cases he;rfl
      · obtain ⟨⟨r,O2⟩,hb,e⟩:=map_some he
        cases e
        rw [hb];rfl
    · unfold Zhn at he ⊢
      split at he
      · split at he <;> cases he <;> rfl
      · cases he
    · cases he
  | unOp op t y=>simp only [Zw,ho] at he ⊢;split at he <;> cases he <;> rfl
  | convert s d y=>
    simp only [Zw,ho] at he ⊢
    split at he
    · exact (Zfw _ he).2
    · cases he
  | extract y i=>
    simp only [Zw,ho] at he ⊢
    split at he
    · split at he <;> cases he;rfl
    · cases he
  | slice t y lo hi mx=>
    simp only [Zw,ho] at he ⊢
    split at he
    · exact absurd rfl (hobj _)
    · unfold Zdq at he ⊢
      simp only [hbd] at he ⊢
      split at he
      · cases he
      · split at he
        · split at he <;> cases he;rfl
        · split at he <;> cases he;rfl
        · cases he
    · cases he
  | field t y f=>
    simp only [Zw,ho] at he ⊢
    split at he
    · split at he
      · exact hm he
      · cases he
    · cases he
  | fieldAddr t y f=>
    have hc:=hcr (fun _ _ _ h=>by cases h)
    have hc2:=hcr2 (fun _ _ _ h=>by cases h)
    simp only [Zw,ho] at he ⊢
    split at he
    · rename_i z hz
      unfold ZbR at he ⊢
      split at he
      · split at he
        · split at he
          · cases he
          · cases he
          · split at he
            · cases he;rfl
            · rename_i id n i j
              obtain ⟨O2,hb,e⟩:=map_some he
              cases e
              have:=hl id (ZcA hc hc2 (by simp [Op.operands]) hz (Zd4 id n i j))
              simp only [halive this,hb];rfl
            · cases he
        · cases he
      · cases he
    · cases he
  | nilCheck y=>
    have hc:=hcr (fun _ _ _ h=>by cases h)
    have hc2:=hcr2 (fun _ _ _ h=>by cases h)
    simp only [Zw,ho] at he ⊢
    split at he
    · rename_i id n i j hz
      obtain ⟨O2,hb,e⟩:=map_some he
      cases e
      have:=hl id (ZcA hc hc2 (by simp [Op.operands]) hz (Zd4 id n i j))
      simp only [halive this,hb];rfl
    · cases he;rfl
    · cases he
  | load t y=>
    have hc:=hcr (fun _ _ _ h=>by cases h)
    have hc2:=hcr2 (fun _ _ _ h=>by cases h)
    simp only [Zw,ho] at he ⊢
    split at he
    · rename_i z hz
      unfold Zgm at he ⊢
      split at he
      · exact hm he
      · rename_i id n i j
        have:=hl id (ZcA hc hc2 (by simp [Op.operands]) hz (Zd4 id n i j))
        simp only [this] at he ⊢
        generalize look os1 id=L at he ⊢
        split at he
        · split at he
          · rename_i q1 q2
            exact hm he
          · cases he
        · obtain ⟨y,hy,e⟩:=map_some he
          cases e
          rw [hy];rfl
        · cases he
      · cases he
    · cases he
  | store t x y=>
    exfalso
    cases h with
    | none=>exact absurd hk (by show ¬2≤1;omega)
    | some h=>cases h <;> first | exact absurd hk (by show ¬2≤1;omega) | exact absurd hk (by show ¬4≤1;omega)
  | indexAddr t y z=>
    have hc:=hcr (fun _ _ _ h=>by cases h)
    have hc2:=hcr2 (fun _ _ _ h=>by cases h)
    simp only [Zw,ho] at he ⊢
    split at he
    · rename_i u v hu hv
      unfold ZbS at he ⊢
      split at he
      · split at he
        · split at he <;> cases he;rfl
        · cases he
      · rename_i e' id n k i _
        have:=hl id (ZcA hc hc2 (by simp [Op.operands]) hu (ZkD id n))
        simp only [this] at he ⊢
        generalize look os1 id=L at he ⊢
        split at he
        · rename_i q0 q00
          split at he
          · rename_i q1
            cases he
            simp only [q00,q1]
          · cases he
        · cases he
      · cases he
    · cases he
  | index t y z=>
    simp only [Zw,ho] at he ⊢
    split at he
    · unfold Ze8 at he ⊢
      split at he <;> cases he;rfl
    · cases he
  | build t parts=>
    have h1:∀pl cs,Zbm GL ⟨e,os2⟩ pl cs parts.toList=Zbm GL ⟨e,os1⟩ pl cs parts.toList:=fun pl cs=>Zea fun p hp=>ho _
    simp only [Zw,h1] at he ⊢
    split at he
    · obtain ⟨O2,hb,e⟩:=map_some he
      cases e
      rw [hb];rfl
    · cases he
  | buildSlice t n parts=>
    have h1:∀s,Z9 GL ⟨e,os2⟩ s 0 parts.toList=Z9 GL ⟨e,os1⟩ s 0 parts.toList:=fun s=>ZbI fun p hp=>ho _
    simp only [Zw,h1] at he ⊢
    split at he
    · split at he
      · split at he
        · cases he;rfl
        · cases he;rfl
        · exact absurd rfl (hobj _)
        · cases he
      · cases he
    · cases he
  | call c=>
    obtain ⟨cal,⟨args⟩,⟨tys⟩⟩:=c
    cases cal with
    | invoke r m=>cases he
    | builtin b=>
      simp only [Zw,ho] at he ⊢
      split at he
      · split at he
        · unfold Zd2 at he ⊢;split at he <;> cases he <;> rfl
        · unfold Zd2 at he ⊢;split at he <;> cases he <;> rfl
        · cases he
      · exfalso
        cases h with
        | none=>exact absurd hk (by show ¬2≤1;omega)
        | some h=>cases h <;> first | exact absurd hk (by show ¬2≤1;omega) | exact absurd hk (by show ¬4≤1;omega)
      · split at he
        · exact hm he
        · cases he
      · split at he
        · exact hm he
        · cases he
      · cases he
    | value fo=>
      simp only [Zw,ho] at he ⊢
      split at he
      · rename_i f hfo
        split at he
        · unfold ZdK at he ⊢
          have hops:opds GL ⟨e,os2⟩ args=opds GL ⟨e,os1⟩ args:=ZfC fun y hy=>ho y
          rw [hops]
          split at he
          · rename_i a b c d
            cases d with
            | nil=>exact absurd hk (by show ¬2≤1;omega)
            | cons d e=>exact absurd hk (by show ¬4≤1;omega)
          · rename_i ids res
            have hla:ZY os2 ids=ZY os1 ids:=ZfP fun id hid=>hl id (by
              simp only [ZZ,ZlF hid,Bool.not_true])
            simp only [hla] at he ⊢
            split at he
            · rename_i a1 a2 a3 q1 q2 q3
              split at he
              · cases he
                simp only [q1,q2,q3]
              · cases he
            · cases he
          · cases he
        · cases he
      · cases he
  | alloc t=>simp only [Zw] at he;split at he <;> first | exact absurd rfl (hobj _) | cases he
  | box t x=>simp only [Zw] at he;split at he <;> first | exact absurd rfl (hobj _) | cases he
  | makeSlice t l c=>simp only [Zw] at he;split at he <;> first | exact absurd rfl (hobj _) | cases he
  | _=>cases he
theorem ZlU {e:List (Nat×AT)} {os1 os2:Objs} {o:Oper} {h:Option Hint} {x:AT} {os':Objs} {O:List Prop} (hk:ZE o h≤1) (he:Z3 P GL C ⟨e,os1⟩ o h=some (x,os',O))
    (hl:∀id,ZZ id GL ⟨e,os1⟩ o h=false→look os2 id=look os1 id):Z3 P GL C ⟨e,os2⟩ o h=some (x,os2,O):=by
  unfold Z3 at he ⊢
  split at he
  · rename_i b
    split at he
    · rename_i y oo O2 he2
      cases he
      rw [ZhI (by rw [←ZdL];exact hk) he2 (fun id hid=>hl id hid)]
    · cases he
  · exact ZhI hk he hl
theorem ZaS {e1 e2:List (Nat×AT)} {os os':Objs} {o:Oper} {h:Option Hint} {x:AT} {O:List Prop} (hk:ZE o h=3) (he:Zw P GL C ⟨e1,os⟩ o h=some (x,os',O)) :
    ∃id ob,h=some (.obj id)∧os'=(id,ob) :: os∧Zad id ⟨e1,os⟩=true∧
      ((∀y,y∈o.op.operands.toList→opd GL ⟨e2,os⟩ y=opd GL ⟨e1,os⟩ y)→Zad id ⟨e2,os⟩=true→Zw P GL C ⟨e2,os⟩ o h=some (x,os',O)):=by
  have hh:∃id,h=some (.obj id):=by
    unfold ZE at hk
    split at hk
    · split at hk <;> cases hk
    · split at hk
      · exact ⟨_,rfl⟩
      · cases hk
      · cases hk
      · split at hk <;> cases hk
  obtain ⟨id,rfl⟩:=hh
  obtain ⟨dst,op,ty,pos,after,guard⟩:=o
  have fin:∀{ob:Obj} {y:AT} {L:List Prop},newO ⟨e1,os⟩ id ob y L=some (x,os',O)→∃id' ob,(some (Hint.obj id):Option Hint)=some (.obj id')∧os'=(id',ob) :: os∧Zad id' ⟨e1,os⟩=true:=by
    intro ob y L h
    obtain ⟨h1,h2,h3,h4⟩:=Zau h
    exact ⟨id,ob,rfl,h3,h1⟩
  have fin2:∀{ob:Obj} {y:AT} {L:List Prop},newO ⟨e1,os⟩ id ob y L=some (x,os',O)→Zad id ⟨e2,os⟩=true→newO ⟨e2,os⟩ id ob y L=some (x,os',O):=by
    intro ob y L h hf
    obtain ⟨h1,h2,h3,h4⟩:=Zau h
    subst h2;subst h3;subst h4
    simp only [newO,hf]
  cases op with
  | move y=>
    simp only [Zw] at he ⊢
    split at he
    · rename_i heq;cases heq
      split at he
      · obtain ⟨h1,h2,h3,h4⟩:=Zau he
        refine ⟨id,_,rfl,h3,h1,fun hop hf=>?_⟩
        exact fin2 he hf
      · cases he
    · rename_i heq;cases heq
    · cases he
  | assign y=>
    simp only [Zw] at he ⊢
    split at he
    · rename_i heq;cases heq
      split at he
      · obtain ⟨h1,h2,h3,h4⟩:=Zau he
        refine ⟨id,_,rfl,h3,h1,fun hop hf=>?_⟩
        exact fin2 he hf
      · cases he
    · rename_i heq;cases heq
    · cases he
  | alloc t=>
    simp only [Zw] at he ⊢
    split at he
    · rename_i id' cs heq hz
      cases heq
      obtain ⟨h1,h2,h3,h4⟩:=Zau he
      refine ⟨id,_,rfl,h3,h1,fun hop hf=>?_⟩
      exact fin2 he hf
    · cases he
  | box t y=>
    simp only [Zw] at he ⊢
    split at he
    · rename_i id' g cs heq hz
      cases heq
      obtain ⟨h1,h2,h3,h4⟩:=Zau he
      refine ⟨id,_,rfl,h3,h1,fun hop hf=>?_⟩
      rw [hop y (by simp [Op.operands]),hz]
      exact fin2 he hf
    · cases he
  | buildSlice t n parts=>
    simp only [Zw] at he ⊢
    split at he
    · rename_i s zz hs1 hs2
      split at he
      · rename_i els hp h1 h2
        split at he
        · rename_i heq;cases heq
        · rename_i heq;cases heq
        · rename_i ps id' hps heq
          cases heq
          obtain ⟨h1',h2',h3,h4⟩:=Zau he
          refine ⟨id,_,rfl,h3,h1',fun hop hf=>?_⟩
          have hpe:Z9 GL ⟨e2,os⟩ s 0 parts.toList=Z9 GL ⟨e1,os⟩ s 0 parts.toList:=ZbI fun p hp=>hop p.2 (by simp only [Op.operands];simp;exact ⟨p.1,by simpa using hp⟩)
          rw [hpe,hp]
          simp only [h1,h2,hps]
          exact fin2 he hf
        · cases he
      · cases he
    · cases he
  | makeSlice t l c=>
    simp only [Zw] at he ⊢
    split at he
    · rename_i id' e n m heq het h1 h2
      cases heq
      split at he
      · rename_i s b z hs1 hs2 hs3
        split at he
        · obtain ⟨h1',h2',h3,h4⟩:=Zau he
          refine ⟨id,_,rfl,h3,h1',fun hop hf=>?_⟩
          rename_i q1 q2 q3
          rw [hop l (by simp [Op.operands]),hop c (by simp [Op.operands]),h1,h2]
          simp only [het,hs1,hs2,hs3,q1,q2,q3]
          exact fin2 he hf
        · cases he
      · cases he
    · cases he
  | call c=>obtain ⟨cal,_,_⟩:=c;cases cal <;> exact absurd hk (by show ¬4=3;omega)
  | _=>exact absurd hk (by show ¬4=3;omega)
theorem Zfb {id:Nat}:∀{ids:List Nat} {os:Objs} {l:List Obj},¬id∈ids→look (ZaM os ids l) id=look os id
  | [],os,l,_=>by cases l <;> rfl
  | i :: ids,os,[],_=>rfl
  | i :: ids,os,o :: l,h=>by
    simp only [ZaM]
    rw [Zfb (fun h'=>h (by simp [h'])),Zaq]
    have:i≠id:=fun e=>h (by simp [e])
    split
    · rename_i e;exact absurd e this
    · rfl
theorem ZhL {os:Objs}:∀{ids:List Nat} {l:List Obj},ZY os ids=some l→∀id,id∈ids→look os id≠none
  | [],l,_,id,h=>by cases h
  | i :: ids,l,h,id,hm=>by
    simp only [ZY] at h
    split at h
    · rename_i o r h1 h2
      rcases List.mem_cons.1 hm with rfl | hm
      · rw [h1];simp
      · exact ZhL h2 id hm
    · cases h
theorem Zjc {e:List (Nat×AT)} {os os':Objs} {o:Oper} {h:Option Hint} {x:AT} {O:List Prop} (hk:ZE o h=2) (he:Zw P GL C ⟨e,os⟩ o h=some (x,os',O)) {id:Nat}
    (hid:ZZ id GL ⟨e,os⟩ o h=true∨look os id=none):look os' id=look os id:=by
  have hobj:∀id,h≠some (.obj id):=fun id e=>by subst e;have:=Zcx (o:=o) (id:=id);omega
  have hcr:(∀f args tys,o.op≠.call ⟨.value f,args,tys⟩)→∀ids r,h≠some (.callR ids r):=fun hne ids r e=>by
    subst e;obtain ⟨f,a,t,h'⟩:=Zjh (show ZE o (some (.callR ids r))≤3 by omega);exact hne f a t h'
  have hcr2:(∀f args tys,o.op≠.call ⟨.value f,args,tys⟩)→∀ids r a b,h≠some (.call ids r a b):=fun hne ids r a b e=>by
    subst e;obtain ⟨f,a,t,h'⟩:=Zjg (show ZE o (some (.call ids r a b))≤3 by omega);exact hne f a t h'
  obtain ⟨dst,op,ty,pos,after,guard⟩:=o
  have set1:∀{i:Nat} {ob ob':Obj},look os i=some ob→(ZZ i GL ⟨e,os⟩ ⟨dst,op,ty,pos,after,guard⟩ h=false)→look (setO os i ob') id=look os id:=by
    intro i ob ob' h1 h2
    rw [Zaq]
    split
    · rename_i e1
      subst e1
      rcases hid with h3 | h3
      · rw [h2] at h3;cases h3
      · rw [h1] at h3;cases h3
    · rfl
  cases op with
  | store t y z=>
    have hc:=hcr (fun _ _ _ h=>by cases h)
    have hc2:=hcr2 (fun _ _ _ h=>by cases h)
    simp only [Zw] at he
    split at he
    · rename_i u v hu hv
      unfold Zho at he
      split at he
      · rename_i i n k j _ xs m hm
        have htch:=ZcA (o:=⟨dst,.store t y z,ty,pos,after,guard⟩) hc hc2 (by simp [Op.operands]) hu (Zd4 i n k j)
        split at he
        · cases he
        · split at he
          · rename_i cs hl
            split at he
            · cases he;exact set1 hl htch
            · cases he
          · rename_i s els ps hl
            split at he
            · cases he;exact set1 hl htch
            · cases he
          · cases he
      · cases he
    · cases he
  | call c=>
    obtain ⟨cal,⟨args⟩,⟨tys⟩⟩:=c
    cases cal with
    | invoke r m=>cases he
    | builtin b=>
      have hc:=hcr (fun _ _ _ h=>by cases h)
      have hc2:=hcr2 (fun _ _ _ h=>by cases h)
      simp only [Zw] at he
      split at he
      · cases h with
        | none=>first | exact absurd hk (by show ¬1=2;omega) | exact absurd hk (by show ¬4=2;omega) | exact absurd hk (by show ¬0=2;omega) | exact absurd hk (by show ¬3=2;omega)
        | some h=>cases h <;> first | exact absurd hk (by show ¬1=2;omega) | exact absurd hk (by show ¬4=2;omega) | exact absurd hk (by show ¬0=2;omega) | exact absurd hk (by show ¬3=2;omega)
      · rename_i y z t t'
        split at he
        · rename_i u v d hu hv hd
          rcases Zgk he with ⟨els,new,_,_,he2⟩ | he2
          · unfold ZcP at he2
            split at he2
            · split at he2
              · split at he2
                · cases he2;rfl
                · cases he2
              · cases he2
            · cases he2
          · clear he
            unfold ZdJ at he2
            split at he2
            · rename_i e' i n new hel
              have htch:=ZcA (o:=⟨dst,.call ⟨.builtin .append,⟨[y,z]⟩,⟨[t,t']⟩⟩,ty,pos,after,guard⟩) hc hc2 (by simp [Op.operands,Call.operands]) hu (ZkD i n)
              split at he2
              · rename_i s els s' by_ zz hl _ _ _
                split at he2
                · cases he2;exact set1 hl htch
                · cases he2
              · cases he2
            · cases he2
        · cases he
      · cases h with
        | none=>first | exact absurd hk (by show ¬1=2;omega) | exact absurd hk (by show ¬4=2;omega) | exact absurd hk (by show ¬0=2;omega) | exact absurd hk (by show ¬3=2;omega)
        | some h=>cases h <;> first | exact absurd hk (by show ¬1=2;omega) | exact absurd hk (by show ¬4=2;omega) | exact absurd hk (by show ¬0=2;omega) | exact absurd hk (by show ¬3=2;omega)
      · cases h with
        | none=>first | exact absurd hk (by show ¬1=2;omega) | exact absurd hk (by show ¬4=2;omega) | exact absurd hk (by show ¬0=2;omega) | exact absurd hk (by show ¬3=2;omega)
        | some h=>cases h <;> first | exact absurd hk (by show ¬1=2;omega) | exact absurd hk (by show ¬4=2;omega) | exact absurd hk (by show ¬0=2;omega) | exact absurd hk (by show ¬3=2;omega)
      · cases he
    | value fo=>
      simp only [Zw] at he
      split at he
      · rename_i f hfo
        split at he
        · unfold ZdK at he
          split at he
          · rename_i ids res os2 new
            cases new with
            | cons d e=>exact absurd hk (by show ¬4=2;omega)
            | nil=>
              split at he
              · rename_i a1 a2 r rs q1 q2 q3 q4
                split at he
                · rename_i os3 _ _ hadd
                  cases he
                  obtain ⟨zs,hz1,hz2⟩:=Zh q2
                  have hadd':os'=ZaM os ids (rs.take ids.length):=by
                    cases hd:rs.drop ids.length with
                    | nil=>rw [hd] at hadd;simp only [Za2] at hadd;cases hadd;rfl
                    | cons a b=>rw [hd] at hadd;simp only [Za2] at hadd;cases hadd
                  rw [hadd']
                  refine Zfb fun hm=>?_
                  rcases hid with h3 | h3
                  · simp only [ZZ,ZlF hm,Bool.not_true] at h3;cases h3
                  · exact ZhL hz1 id hm h3
                · cases he
              · cases he
          · rename_i ids res
            exact absurd hk (by show ¬1=2;omega)
          · cases he
        · cases he
      · cases he
  | _=>
    cases h with
    | none=>first | exact absurd hk (by show ¬1=2;omega) | exact absurd hk (by show ¬4=2;omega) | exact absurd hk (by show ¬0=2;omega) | exact absurd hk (by show ¬3=2;omega)
    | some h=>cases h <;> first | exact absurd hk (by show ¬1=2;omega) | exact absurd hk (by show ¬4=2;omega) | exact absurd hk (by show ¬0=2;omega) | exact absurd hk (by show ¬3=2;omega)
theorem ZmF {s:S} {os':Objs} {o:Oper} {h:Option Hint} {x:AT} {O:List Prop} (hk:ZE o h=2) (he:Z3 P GL C s o h=some (x,os',O)) {id:Nat}
    (hid:ZZ id GL s o h=true∨look s.os id=none):look os' id=look s.os id:=by
  unfold Z3 at he
  split at he
  · rename_i b
    split at he
    · rename_i y oo O2 he2
      cases he
      exact Zjc (e:=s.env) (os:=s.os) (by rw [←ZdL (b:=b)];exact hk) he2 hid
    · cases he
  · exact Zjc (e:=s.env) (os:=s.os) hk he hid
def Za7 (ops:List Oper) (x y:Oper) (hx hy:Option Hint):Bool:=
  (Nat.ble 2 (ZE x hx) && Nat.ble 2 (ZE y hy)) ||
  (match x.dst with | some d=>(y.looksAt ops.toArray).any (Nat.beq d) | none=>false) || (match y.dst with | some d=>(x.looksAt ops.toArray).any (Nat.beq d) | none=>false) ||
  (match x.dst,y.dst with | some d,some d'=>Nat.beq d d' | _,_=>false)
theorem Zm9 {ops:List Oper} {x y:Oper} {hx hy:Option Hint} (h1:2≤ZE x hx) (h2:2≤ZE y hy):Za7 ops x y hx hy=true:=by
  unfold Za7
  rw [Nat.ble_eq_true_of_le h1,Nat.ble_eq_true_of_le h2];rfl
def ZaV (P:Program) (GL:List (Nat×List PV)) (C:Spec) (N:Nat) (ops:List Oper) (hs:List (Nat×Hint)):Nat→List Oper→S→List (S×AT)
  | _,[],_=>[]
  | i,o :: rest,st=>match Zan ops st o with
    | some false=>(st,.tup []) :: ZaV P GL C N ops hs (i+1) rest ⟨putE st.env o.dst (.tup []),st.os⟩
    | some true=>match Z3 P GL C st o (look hs i) with
      | none=>[]
      | some (x,os,_)=>(st,x) :: ZaV P GL C N ops hs (i+1) rest ⟨putE st.env o.dst x,os⟩
    | none=>[]
def ZnS (ops:List Oper) (hs:List (Nat×Hint)) (tr:List (S×AT)) (st0:S) (j id:Nat):Bool:=
  ZaL id st0.env && (List.range ops.length).all fun i=>match tr[i]? with
    | none=>false
    | some (_,x)=>Nat.beq i j || ((clo ops []).getD i 0).testBit j || Zbx id x
def Zmg (GL:List (Nat×List PV)) (ops:List Oper) (hs:List (Nat×Hint)) (tr:List (S×AT)) (j:Nat) (o:Oper):Bool:=
  match tr[j]? with
  | none=>false
  | some (s,_)=>(List.range ops.length).all fun c=>match ops[c]?,tr[c]? with
    | some b,some (sc,_)=>(match look hs c with
      | some (.obj id)=>((clo ops []).getD j 0).testBit c || ((clo ops []).getD c 0).testBit j || ZZ id GL s o (look hs j)
      | _=>true) && (match Nat.beq (ZE b (look hs c)) 2 with
      | true=>((clo ops []).getD j 0).testBit c || ((clo ops []).getD c 0).testBit j || sc.os.all fun p=>ZZ p.1 GL sc b (look hs c) || ZZ p.1 GL s o (look hs j)
      | false=>true)
    | _,_=>false
def ZcO (GL:List (Nat×List PV)) (ops:List Oper) (hs:List (Nat×Hint)) (tr:List (S×AT)) (st0:S):Bool:=
  (List.range ops.length).all fun j=>match ops[j]? with
    | none=>true
    | some y=>Nat.blt (ZE y (look hs j)) 4 && (ZaD y).all (fun p=>Nat.blt p j) &&
      ((List.range j).all fun i=>match ops[i]? with
        | none=>true
        | some x=>!Za7 ops x y (look hs i) (look hs j) || ((clo ops []).getD j 0).testBit i) &&
      (match Nat.beq (ZE y (look hs j)) 3,look hs j with | true,some (.obj id)=>ZnS ops hs tr st0 j id | _,_=>true) &&
      (match Nat.beq (ZE y (look hs j)) 1 with | true=>Zmg GL ops hs tr j y | false=>true)
end Go.AL
end
section
namespace Go.AL
variable {D:List Deferred}
variable {P:Program} {GL:List (Nat×List PV)} {C:Spec} {N:Nat}
def ZbO (P:Program) (GL:List (Nat×List PV)) (C:Spec) (N:Nat) (ops:List Oper) (hs:List (Nat×Hint)) (f:Nat→S) (x:Nat→AT) (i:Nat) (o:Oper):Prop:=
  Zd0 N o=true∧(f (i+1)).env=putE (f i).env o.dst (x i)∧
    ((Zan ops (f i) o=some false∧x i = .tup []∧(f (i+1)).os=(f i).os)∨(Zan ops (f i) o=some true∧∃O,Z3 P GL C (f i) o (look hs i)=some (x i,(f (i+1)).os,O)∧All O))
theorem Zmy {ops:List Oper} {hs:List (Nat×Hint)}:∀(rest:List Oper) (i:Nat) (st st':S) (O:List Prop),ZW P GL C N ops hs i rest st=some (st',O)→All O→
    ∃(f:Nat→S) (x:Nat→AT),f i=st∧f (i+rest.length)=st'∧∀(k:Nat) (o:Oper),rest[k]?=some o→ZbO P GL C N ops hs f x (i+k) o∧(ZaV P GL C N ops hs i rest st)[k]?=some (f (i+k),x (i+k))
  | [],i,st,st',O,h,hO=>by cases h;exact ⟨fun _=>st,fun _=>.tup [],rfl,rfl,fun k o h=>by simp at h⟩
  | o :: rest,i,st,st',O,h,hO=>by
    simp only [ZW] at h
    have go:∀(y:AT) (s1:S) (O':List Prop),ZW P GL C N ops hs (i+1) rest s1=some (st',O')→All O'→(Zd0 N o=true∧s1.env=putE st.env o.dst y∧
        ((Zan ops st o=some false∧y = .tup []∧s1.os=st.os)∨(Zan ops st o=some true∧∃O,Z3 P GL C st o (look hs i)=some (y,s1.os,O)∧All O)))→
        ZaV P GL C N ops hs i (o :: rest) st=(st,y) :: ZaV P GL C N ops hs (i+1) rest s1→
        ∃(f:Nat→S) (x:Nat→AT),f i=st∧f (i+(o :: rest).length)=st'∧∀(k:Nat) (o':Oper),(o :: rest)[k]?=some o'→ZbO P GL C N ops hs f x (i+k) o'∧(ZaV P GL C N ops hs i (o :: rest) st)[k]?=some (f (i+k),x (i+k)):=by
      intro y s1 O' h1 h2 h3 h4
      obtain ⟨f,x,e1,e2,e3⟩:=Zmy rest (i+1) s1 st' O' h1 h2
      refine ⟨fun j=>if j=i then st else f j,fun j=>if j=i then y else x j,by simp,?_,fun k o' hk=>?_⟩
      · simp only [List.length_cons]
        rw [if_neg (by omega),show i+(rest.length+1)=i+1+rest.length from by omega];exact e2
      · cases k with
        | zero=>
          simp at hk;subst hk
          rw [h4]
          refine ⟨?_,by simp⟩
          unfold ZbO
          simp only [Nat.add_zero,if_true]
          rw [if_neg (by omega),e1]
          exact h3
        | succ k=>
          obtain ⟨this,htr⟩:=e3 k o' (by simpa using hk)
          rw [h4]
          refine ⟨?_,by
            rw [List.getElem?_cons_succ,htr]
            simp only
            rw [if_neg (by omega),if_neg (by omega),show i+(k+1)=i+1+k from by omega]⟩
          unfold ZbO at this ⊢
          simp only
          rw [if_neg (by omega),if_neg (by omega),if_neg (by omega),show i+(k+1)=i+1+k from by omega]
          exact this
    split at h
    · rename_i hw hd
      exact go (.tup []) _ O h hO ⟨hd,rfl,.inl ⟨hw,rfl,rfl⟩⟩ (by simp only [ZaV,hw])
    · rename_i hw hd
      split at h
      · cases h
      · rename_i y os1 O1 he
        split at h
        · cases h
        · rename_i st2 O2 h2
          cases h
          obtain ⟨q1,q2⟩:=hO.append
          exact go y _ O2 h2 q2 ⟨hd,rfl,.inr ⟨hw,O1,he,q1⟩⟩ (by simp only [ZaV,hw,he])
    · cases h
section
variable {ops:List Oper} {hs:List (Nat×Hint)} {f:Nat→S} {x:Nat→AT} {st:S}
theorem Zfv (h0:f 0=st) (hst:∀(k:Nat) (o:Oper),ops[k]?=some o→ZbO P GL C N ops hs f x k o):∀(j:Nat),j≤ops.length→∀t y,look (f j).env t=some y→
    (∃(i:Nat) (o:Oper),i<j∧ops[i]?=some o∧o.dst=some t∧y=x i∧∀(i':Nat) (o':Oper),i<i'→i'<j→ops[i']?=some o'→o'.dst≠some t)∨
    ((∀(i:Nat) (o:Oper),i<j→ops[i]?=some o→o.dst≠some t)∧look st.env t=some y)
  | 0,_,t,y,h=>.inr ⟨fun i o hi=>by omega,by rw [←h0];exact h⟩
  | j+1,hj,t,y,h=>by
    have ho:=List.getElem?_eq_getElem (l:=ops) (i:=j) (by omega)
    obtain ⟨_,he,_⟩:=hst j _ ho
    rw [he] at h
    cases hd:(ops[j]).dst with
    | none=>
      rw [hd] at h
      simp only [putE] at h
      rcases Zfv h0 hst j (by omega) t y h with ⟨i,o,h1,h2,h3,h4,h5⟩ | ⟨h1,h2⟩
      · refine .inl ⟨i,o,by omega,h2,h3,h4,fun i' o' q1 q2 q3=>?_⟩
        by_cases e:i'=j
        · subst e;rw [ho] at q3;cases q3;rw [hd];simp
        · exact h5 i' o' q1 (by omega) q3
      · refine .inr ⟨fun i o q1 q2=>?_,h2⟩
        by_cases e:i=j
        · subst e;rw [ho] at q2;cases q2;rw [hd];simp
        · exact h1 i o (by omega) q2
    | some d=>
      rw [hd] at h
      simp only [putE,ZD] at h
      by_cases e:d=t
      · subst e
        rw [if_pos rfl] at h;cases h
        exact .inl ⟨j,_,by omega,ho,hd,rfl,fun i' o' q1 q2=>by omega⟩
      · rw [if_neg e] at h
        rcases Zfv h0 hst j (by omega) t y h with ⟨i,o,h1,h2,h3,h4,h5⟩ | ⟨h1,h2⟩
        · refine .inl ⟨i,o,by omega,h2,h3,h4,fun i' o' q1 q2 q3=>?_⟩
          by_cases e':i'=j
          · subst e';rw [ho] at q3;cases q3;rw [hd];simpa using e
          · exact h5 i' o' q1 (by omega) q3
        · refine .inr ⟨fun i o q1 q2=>?_,h2⟩
          by_cases e':i=j
          · subst e';rw [ho] at q2;cases q2;rw [hd];simpa using e
          · exact h1 i o (by omega) q2
theorem ZfD (hst:∀(k:Nat) (o:Oper),ops[k]?=some o→ZbO P GL C N ops hs f x k o) :
    ∀(d j:Nat),j+d≤ops.length→(∀(i:Nat) (o:Oper),j≤i→i<j+d→ops[i]?=some o→ZE o (look hs i)≤1)→(f (j+d)).os=(f j).os
  | 0,j,_,_=>rfl
  | d+1,j,hj,h=>by
    have ho:=List.getElem?_eq_getElem (l:=ops) (i:=j+d) (by omega)
    have ih:=ZfD hst d j (by omega) (fun i o h1 h2=>h i o h1 (by omega))
    obtain ⟨_,_,hw⟩:=hst (j+d) _ ho
    rw [show j+(d+1)=j+d+1 from rfl,←ih]
    rcases hw with ⟨_,_,e⟩ | ⟨_,O,e,_⟩
    · exact e
    · exact Zgn (h (j+d) _ (by omega) (by omega) ho) e
theorem Zke (hst:∀(k:Nat) (o:Oper),ops[k]?=some o→ZbO P GL C N ops hs f x k o) (hk4:∀(k:Nat) (o:Oper),ops[k]?=some o→ZE o (look hs k)<4) (id:Nat) :
    ∀(d j:Nat),j+d≤ops.length→(∀(i:Nat) (o:Oper),j≤i→i<j+d→ops[i]?=some o→(ZE o (look hs i)=2→ZZ id GL (f i) o (look hs i)=true∨look (f i).os id=none)∧(ZE o (look hs i)=3→look hs i≠some (.obj id)))→look (f (j+d)).os id=look (f j).os id
  | 0,j,_,_=>rfl
  | d+1,j,hj,h=>by
    have ho:=List.getElem?_eq_getElem (l:=ops) (i:=j+d) (by omega)
    have ih:=Zke hst hk4 id d j (by omega) (fun i o h1 h2=>h i o h1 (by omega))
    obtain ⟨_,_,hw⟩:=hst (j+d) _ ho
    rw [show j+(d+1)=j+d+1 from rfl,←ih]
    rcases hw with ⟨_,_,e⟩ | ⟨_,O,e,_⟩
    · rw [e]
    · have h1:=hk4 _ _ ho
      obtain ⟨h2,h3⟩:=h (j+d) _ (by omega) (by omega) ho
      by_cases hk:ZE ops[j+d] (look hs (j+d))=3
      · have hh:∃i',look hs (j+d)=some (.obj i'):=by
          cases hq:look hs (j+d) with
          | none=>rw [hq] at hk;obtain ⟨_,_,h',_⟩:=ZaS (e2:=[]) (os:=(f (j+d)).os) (e1:=(f (j+d)).env) hk (by rw [hq] at e;exact e);cases h'
          | some q=>
            rw [hq] at hk e
            cases q with
            | obj i'=>exact ⟨i',rfl⟩
            | bool b=>
              rw [ZdL] at hk
              unfold Z3 at e
              simp only at e
              split at e
              · rename_i he
                obtain ⟨_,_,h',_⟩:=ZaS (e2:=[]) (os:=(f (j+d)).os) (e1:=(f (j+d)).env) hk he;cases h'
              · cases e
            | _=>obtain ⟨_,_,h',_⟩:=ZaS (e2:=[]) (os:=(f (j+d)).os) (e1:=(f (j+d)).env) hk e;cases h'
        obtain ⟨i',hi'⟩:=hh
        have hne:=h3 hk
        rw [hi'] at hk e hne
        obtain ⟨i2,ob,h4,h5,_⟩:=ZaS (e2:=[]) (os:=(f (j+d)).os) (e1:=(f (j+d)).env) hk e
        cases h4
        rw [h5,ZD,if_neg (fun e=>hne (by rw [e]))]
      · by_cases hk2:ZE ops[j+d] (look hs (j+d))=2
        · exact ZmF hk2 e (h2 hk2)
        · rw [Zgn (by omega) e]
end
theorem Zfa {α:Type} {env:List (Nat×α)}:∀{l:List Nat} {t:Nat},t∈l→look (ZI env l) t=look env t
  | [],t,h=>by simp at h
  | k :: l,t,h=>by
    simp only [ZI]
    by_cases e:k=t
    · subst e
      cases hk:look env k with
      | some x=>simp [ZD]
      | none=>
        simp only
        cases hq:look (ZI env l) k with
        | none=>rfl
        | some y=>rw [Z0 hq] at hk;cases hk
    · have ht:t∈l:=by simpa [Ne.symm e] using h
      have ih:=Zfa (env:=env) ht
      split
      · rw [ZD,if_neg e];exact ih
      · exact ih
theorem Zmc {ops:List Oper} {o:Oper} {e1 e2:List (Nat×AT)} {os1 os2:Objs} (h:∀t,t∈o.looksAt ops.toArray→look e2 t=look e1 t):∀y,y∈o.op.operands.toList→opd GL ⟨e2,os2⟩ y=opd GL ⟨e1,os1⟩ y:=by
  intro y hy
  cases y with
  | tmp t=>
    exact h t (List.mem_append.2 (.inl (List.mem_filterMap.2 ⟨_,hy,rfl⟩)))
  | const v=>rfl
  | func f=>rfl
  | global g=>rfl
theorem ZmA {ops:List Oper} {o:Oper} {s1 s2:S} (h:∀t,t∈o.looksAt ops.toArray→look s2.env t=look s1.env t):Zan ops s2 o=Zan ops s1 o:=by
  unfold Zan
  cases hg:o.guard with
  | none=>rfl
  | some gw=>
    obtain ⟨g,want⟩:=gw
    simp only
    cases hd:(ops[g]?).bind (·.dst) with
    | none=>rfl
    | some t=>
      have:look s2.env t=look s1.env t:=h t (List.mem_append.2 (.inr (by simp only [hg];simp only [List.getElem?_toArray,hd];simp)))
      simp only [this]
structure Inv (D:List Deferred) (GL:List (Nat×List PV)) (N:Nat) (ops:List Oper) (hs:List (Nat×Hint)) (f:Nat→S) (x:Nat→AT) (st:S) (w0:World) (I0:Nat→Prop) (G0:Nat→Option Nat) (L:Nat→Prop) (k:Nat) (w:World) (I:Nat→Prop) (G:Nat→Option Nat) (a:Act):Prop where
  closed:Zod ops L
  cut:k≤ops.length∧∀(i:Nat) (o:Oper),ops[i]?=some o→2≤ZE o (look hs i)→(L i↔i<k)
  ext:Ext w0 w I0 I (Mine G0 st.os) (Mine G (f k).os)
  keeps:ZN (· < 100) w0 w I0 I G0 G (shape st.os) (shape (f k).os)
  sr:Sr GL w I G (f k).os
  size:a.tmps.size=N
  defers:a.defers=D
  wrote:∀(i:Nat) (o:Oper) (t:Nat),ops[i]?=some o→L i→o.dst=some t→(∀(i':Nat) (o':Oper),ops[i']?=some o'→L i'→o'.dst=some t→i'≤i)→t<N∧ATr w I G (shape (f k).os) (x i) (a.tmps.getD t undef)
  was:∀(t:Nat) (y:AT),(∀(i:Nat) (o:Oper),ops[i]?=some o→L i→o.dst≠some t)→look st.env t=some y→t<N∧ATr w I G (shape (f k).os) y (a.tmps.getD t undef)
theorem Zm7 {l:List Nat} {d:Nat} (h:d∈l):l.any (Nat.beq d)=true:=List.any_eq_true.2 ⟨d,h,Nat.beq_refl d⟩
section
variable {ops:List Oper} {hs:List (Nat×Hint)} {f:Nat→S} {x:Nat→AT} {st:S} {w0:World} {I0:Nat→Prop} {G0:Nat→Option Nat}
theorem Zh4 {α:Type} {t:Nat} {y:α}:∀{env:List (Nat×α)},look env t=some y→(t,y)∈env
  | [],h=>by cases h
  | (k,z) :: env,h=>by
    rw [ZD] at h
    split at h
    · cases h;subst_vars;exact List.mem_cons_self ..
    · exact List.mem_cons_of_mem _ (Zh4 h)
structure Zj1 (GL:List (Nat×List PV)) (ops:List Oper) (hs:List (Nat×Hint)) (f:Nat→S) (x:Nat→AT) (st:S):Prop where
  kind:∀(k:Nat) (o:Oper),ops[k]?=some o→ZE o (look hs k)<4
  low:∀(k:Nat) (o:Oper),ops[k]?=some o→∀p,p∈ZaD o→p<k
  ord:∀(i j:Nat) (a b:Oper),i<j→ops[i]?=some a→ops[j]?=some b→Za7 ops a b (look hs i) (look hs j)=true→((clo ops []).getD j 0).testBit i=true
  crt:∀(j:Nat) (o:Oper) (id:Nat),ops[j]?=some o→ZE o (look hs j)=3→look hs j=some (.obj id)→ZaL id st.env=true∧∀(i:Nat),i<ops.length→i=j∨((clo ops []).getD i 0).testBit j=true∨Zbx id (x i)=true
  read:∀(j:Nat) (o:Oper),ops[j]?=some o→ZE o (look hs j)=1→∀(c:Nat) (b:Oper),ops[c]?=some b→((clo ops []).getD j 0).testBit c=true∨((clo ops []).getD c 0).testBit j=true∨
    ((∀id,look hs c=some (.obj id)→ZZ id GL (f j) o (look hs j)=true)∧(ZE b (look hs c)=2→∀id,look (f c).os id≠none→ZZ id GL (f c) b (look hs c)=true∨ZZ id GL (f j) o (look hs j)=true))
theorem ZmD {tr:List (S×AT)} (htr:∀(k:Nat),k<ops.length→tr[k]?=some (f k,x k)) (h:ZcO GL ops hs tr st=true):Zj1 GL ops hs f x st:=by
  unfold ZcO at h
  rw [List.all_eq_true] at h
  have key:∀(j:Nat) (y:Oper),ops[j]?=some y→ZE y (look hs j)<4∧(∀p,p∈ZaD y→p<j)∧(∀(i:Nat) (a:Oper),i<j→ops[i]?=some a→Za7 ops a y (look hs i) (look hs j)=true→((clo ops []).getD j 0).testBit i=true)∧
      (∀id,ZE y (look hs j)=3→look hs j=some (.obj id)→ZnS ops hs tr st j id=true)∧(ZE y (look hs j)=1→Zmg GL ops hs tr j y=true):=by
    intro j y hy
    have:=h j (List.mem_range.2 (List.getElem?_eq_some_iff.1 hy).1)
    rw [hy] at this
    simp only [Bool.and_eq_true,List.all_eq_true] at this
    obtain ⟨⟨⟨⟨h1,h2⟩,h3⟩,h4⟩,h5⟩:=this
    refine ⟨Nat.le_of_ble_eq_true h1,fun p hp=>Nat.le_of_ble_eq_true (h2 p hp),fun i a hi ha hc=>?_,fun id hk hh=>?_,fun hk=>?_⟩
    · have:=h3 i (List.mem_range.2 hi)
      rw [ha] at this
      simpa [hc] using this
    · rw [hk,hh] at h4;exact h4
    · rw [hk] at h5;exact h5
  refine ⟨fun k o ho=>(key k o ho).1,fun k o ho=>(key k o ho).2.1,fun i j a b hij ha hb=>(key j b hb).2.2.1 i a hij ha,fun j o id ho hk hh=>?_,fun j o ho hk c b hc=>?_⟩
  · have:=(key j o ho).2.2.2.1 id hk hh
    unfold ZnS at this
    simp only [Bool.and_eq_true,List.all_eq_true] at this
    refine ⟨this.1,fun i hi=>?_⟩
    have h2:=this.2 i (List.mem_range.2 hi)
    rw [htr i hi] at h2
    simp only [Bool.or_eq_true] at h2
    rcases h2 with (h2 | h2) | h2
    · exact .inl (Nat.eq_of_beq_eq_true h2)
    · exact .inr (.inl h2)
    · exact .inr (.inr h2)
  · have:=(key j o ho).2.2.2.2 hk
    unfold Zmg at this
    rw [htr j (List.getElem?_eq_some_iff.1 ho).1] at this
    simp only [List.all_eq_true] at this
    have hcl:=(List.getElem?_eq_some_iff.1 hc).1
    have h2:=this c (List.mem_range.2 hcl)
    rw [hc,htr c hcl] at h2
    simp only [Bool.and_eq_true] at h2
    obtain ⟨h2,h3⟩:=h2
    by_cases b1:((clo ops []).getD j 0).testBit c=true
    · exact .inl b1
    by_cases b2:((clo ops []).getD c 0).testBit j=true
    · exact .inr (.inl b2)
    refine .inr (.inr ⟨fun id hh=>?_,fun hk2 id hne=>?_⟩)
    · rw [hh] at h2
      simp only [Bool.or_eq_true] at h2
      rcases h2 with (h2 | h2) | h2
      · exact absurd h2 b1
      · exact absurd h2 b2
      · exact h2
    · rw [hk2] at h3
      simp only [show Nat.beq 2 2=true from rfl,Bool.or_eq_true,List.all_eq_true] at h3
      rcases h3 with (h3 | h3) | h3
      · exact absurd h3 b1
      · exact absurd h3 b2
      · cases hl:look (f c).os id with
        | none=>exact absurd hl hne
        | some ob=>exact h3 (id,ob) (Zh4 hl)
theorem ZoF (hlow:∀(k:Nat) (o:Oper),ops[k]?=some o→∀p,p∈ZaD o→p<k):∀(j:Nat) (o:Oper),ops[j]?=some o→∀i,((clo ops []).getD j 0).testBit i=true→i<j:=by
  intro j
  induction j using Nat.strongRecOn with
  | _ j ih=>
    intro o ho i hb
    obtain ⟨p,hp,hr⟩:=(ZhX ops []).2 j o ho i (by simpa using hb)
    have hpj:=hlow j o ho p hp
    rcases hr with rfl | ⟨_,hr⟩
    · exact hpj
    · have hlt:p<ops.length:=by have:=(List.getElem?_eq_some_iff.1 ho).1;omega
      have:=ih p hpj _ (List.getElem?_eq_getElem hlt) i hr
      omega
theorem ZdN {id:Nat}:∀{env:List (Nat×AT)},ZaL id env=true↔∀p,p∈env→Zbx id p.2=true
  | []=>by simp [ZaL]
  | (t,x) :: env=>by
    simp only [ZaL]
    split
    · rename_i h
      rw [ZdN]
      constructor
      · intro h' p hp
        rcases List.mem_cons.1 hp with rfl | hp
        · exact h
        · exact h' p hp
      · intro h' p hp;exact h' p (List.mem_cons_of_mem _ hp)
    · rename_i h
      constructor
      · intro h';cases h'
      · intro h';have:=h' _ (List.mem_cons_self ..);rw [h] at this;cases this
theorem ZkY {id:Nat} {env:List (Nat×AT)} (h:ZaL id env=true) (l:List Nat):ZaL id (ZI env l)=true:=by
  rw [ZdN]
  have h:=ZdN.1 h
  have key:∀(l:List Nat) (p:Nat×AT),p∈ZI env l→p∈env:=by
    intro l
    induction l with
    | nil=>intro p hp;cases hp
    | cons t l ih=>
      intro p hp
      simp only [ZI] at hp
      split at hp
      · rename_i y hy
        rcases List.mem_cons.1 hp with rfl | hp
        · exact Zh4 hy
        · exact ih p hp
      · exact ih p hp
  exact fun p hp=>h p (key l p hp)
theorem ZpN (hC:ZaY P GL C) (h0:f 0=st) (hst:∀(k:Nat) (o:Oper),ops[k]?=some o→ZbO P GL C N ops hs f x k o) (hord:Zj1 GL ops hs f x st)
    {L:Nat→Prop} {k:Nat} {w:World} {I:Nat→Prop} {G:Nat→Option Nat} {a:Act} (inv:Inv D GL N ops hs f x st w0 I0 G0 L k w I G a) {j:Nat} {o:Oper} (ho:ops[j]?=some o) (hnl:¬L j) (hready:∀p,p∈ZaD o→L p)
    {K:Act→World→Prop} {Q:Exit→Act→World→Prop} (hK:∀a' w' I' G' k',Inv D GL N ops hs f x st w0 I0 G0 (fun i=>L i∨i=j) k' w' I' G' a'→K a' w') :
    wpOp P ops.toArray Q j K a w:=by
  have hlow:∀(k:Nat) (o':Oper),ops[k]?=some o'→k≤j→∀p,p∈ZaD o'→p<k:=fun k o' h _=>hord.low k o' h
  have above:∀(i:Nat) (b:Oper),i<j→ops[i]?=some b→Za7 ops b o (look hs i) (look hs j)=true→L i:=fun i b hi hb hc=>
    Zgd inv.closed j o ho hready hlow i (hord.ord i j b o hi hb ho hc)
  have below:∀(i:Nat) (b:Oper),j<i→ops[i]?=some b→Za7 ops o b (look hs j) (look hs i)=true→¬L i:=fun i b hi hb hc hl=>
    hnl (Zgd inv.closed i b hb (fun p hp=>inv.closed i b hb hl p hp) (fun k o' h _=>hord.low k o' h) j (hord.ord j i o b hi ho hb hc))
  have hjn:j<ops.length:=(List.getElem?_eq_some_iff.1 ho).1
  have cl1:∀(b:Oper) (i t:Nat),b.dst=some t→t∈o.looksAt ops.toArray→Za7 ops b o (look hs i) (look hs j)=true:=fun b i t hd ht=>by
    simp [Za7,hd,Zm7 ht]
  have cl2:∀(b:Oper) (i t:Nat),b.dst=some t→t∈o.looksAt ops.toArray→Za7 ops o b (look hs j) (look hs i)=true:=fun b i t hd ht=>by
    simp [Za7,hd,Zm7 ht]
  have cl3:∀(b:Oper) (i t:Nat),b.dst=some t→o.dst=some t→Za7 ops o b (look hs j) (look hs i)=true:=fun b i t hd ht=>by
    simp [Za7,hd,ht,Nat.beq_refl]
  have cl4:∀(b:Oper) (i t:Nat),b.dst=some t→o.dst=some t→Za7 ops b o (look hs i) (look hs j)=true:=fun b i t hd ht=>by
    simp [Za7,hd,ht,Nat.beq_refl]
  obtain ⟨hdst,henv,hw⟩:=hst j o ho
  let e2:=ZI (f j).env (o.looksAt ops.toArray)
  have hlook:∀t,t∈o.looksAt ops.toArray→look e2 t=look (f j).env t:=fun t ht=>Zfa ht
  have hfr:Fr D w I G (shape (f k).os) N a e2:=by
    refine ⟨inv.size,inv.defers,fun t y hy=>?_⟩
    have hmem:t∈o.looksAt ops.toArray:=by
      have:∀{l:List Nat},look (ZI (f j).env l) t=some y→t∈l:=by
        intro l
        induction l with
        | nil=>intro h;cases h
        | cons q l ih=>
          intro h
          simp only [ZI] at h
          split at h
          · rw [ZD] at h
            split at h
            · subst_vars;simp
            · exact List.mem_cons_of_mem _ (ih h)
          · exact List.mem_cons_of_mem _ (ih h)
      exact this hy
    rw [hlook t hmem] at hy
    rcases Zfv h0 hst j (by omega) t y hy with ⟨i,b,h1,h2,h3,h4,h5⟩ | ⟨h1,h2⟩
    · subst h4
      refine inv.wrote i b t h2 (above i b h1 h2 (cl1 b i t h3 hmem)) h3 (fun i' b' q1 q2 q3=>?_)
      rcases Nat.lt_trichotomy i' j with h | h | h
      · rcases Nat.lt_or_ge i i' with hh | hh
        · exact absurd q3 (h5 i' b' hh h q1)
        · exact hh
      · subst h;exact absurd q2 hnl
      · exact absurd q2 (below i' b' h q1 (cl2 b' i' t q3 hmem))
    · refine inv.was t y (fun i b q1 q2 q3=>?_) h2
      rcases Nat.lt_trichotomy i j with h | h | h
      · exact h1 i b h q1 q3
      · subst h;exact hnl q2
      · exact below i b h q1 (cl2 b i t q3 hmem) q2
  have hkeep:∀(v:Value) (w':World) (I':Nat→Prop) (G':Nat→Option Nat) (k':Nat),k'≤ops.length→(∀(i:Nat) (b:Oper),ops[i]?=some b→2≤ZE b (look hs i)→((L i∨i=j)↔i<k'))→
      Ext w w' I I' (Mine G (f k).os) (Mine G' (f k').os)→∀(R:Nat→Prop),ZN R w w' I I' G G' (shape (f k).os) (shape (f k').os)→(∀id,id<100→R id)→(∀i,i<ops.length→L i→(x i).refs R)→(∀t y,look st.env t=some y→y.refs R)→Sr GL w' I' G' (f k').os→ATr w' I' G' (shape (f k').os) (x j) v→
      Inv D GL N ops hs f x st w0 I0 G0 (fun i=>L i∨i=j) k' w' I' G' (a.put o.dst v):=by
    intro v w' I' G' k' hk' hcut e1 R ks hR1 hR2 hR3 s1 x1
    have hput:∀t,(a.put o.dst v).tmps.getD t undef=if o.dst=some t∧t<N then v else a.tmps.getD t undef:=by
      intro t
      cases hd:o.dst with
      | none=>simp [Act.put]
      | some d=>
        simp only [Act.put]
        by_cases hdt:d=t
        · subst hdt
          by_cases hlt:d<N
          · rw [if_pos ⟨rfl,hlt⟩,Array.getD_eq_getD_getElem?,Array.getElem?_setIfInBounds_self_of_lt (by rw [inv.size];exact hlt)];rfl
          · rw [if_neg (by simp [hlt]),Array.getD_eq_getD_getElem?,Array.getD_eq_getD_getElem?]
            have hge:N≤d:=Nat.le_of_not_lt hlt
            rw [Array.getElem?_eq_none (by simp [inv.size];exact hge),Array.getElem?_eq_none (by simp [inv.size];exact hge)]
        · rw [if_neg (by simp [hdt]),Array.getD_eq_getD_getElem?,Array.getElem?_setIfInBounds_ne hdt,←Array.getD_eq_getD_getElem?]
    refine ⟨fun i b hb hl p hp=>?_,⟨hk',hcut⟩,inv.ext.trans e1,inv.keeps.trans (ks.weaken fun i h=>hR1 i h),s1,?_,?_,fun i b t hb hl hd hmax=>?_,fun t y hno hy=>?_⟩
    · rcases hl with hl | rfl
      · exact .inl (inv.closed i b hb hl p hp)
      · rw [ho] at hb;cases hb;exact .inl (hready p hp)
    · cases hd:o.dst <;> simp [Act.put,inv.size]
    · cases hd:o.dst <;> simp [Act.put,inv.defers]
    · rw [hput]
      rcases hl with hl | rfl
      · have hne:¬(o.dst=some t∧t<N):=by
          rintro ⟨hd',_⟩
          have h1:=hmax j o ho (.inr rfl) hd'
          rcases Nat.lt_or_eq_of_le h1 with h | h
          · exact below i b h hb (cl3 b i t hd hd') hl
          · exact hnl (h ▸ hl)
        rw [if_neg hne]
        obtain ⟨q1,q2⟩:=inv.wrote i b t hb hl hd (fun i' b' r1 r2 r3=>hmax i' b' r1 (.inl r2) r3)
        exact ⟨q1,q2.mono ks (hR2 i (List.getElem?_eq_some_iff.1 hb).1 hl)⟩
      · rw [ho] at hb;cases hb
        have hlt:t<N:=by unfold Zd0 at hdst;rw [hd] at hdst;exact Nat.le_of_ble_eq_true hdst
        rw [if_pos ⟨hd,hlt⟩]
        exact ⟨hlt,x1⟩
    · rw [hput,if_neg (fun h=>hno j o ho (.inr rfl) h.1)]
      obtain ⟨q1,q2⟩:=inv.was t y (fun i b r1 r2=>hno i b r1 (.inl r2)) hy
      exact ⟨q1,q2.mono ks (hR3 t y hy)⟩
  have hw2:Zan ops ⟨e2,(f k).os⟩ o=Zan ops (f j) o:=ZmA hlook
  have hcut0:¬2≤ZE o (look hs j)→∀(i:Nat) (b:Oper),ops[i]?=some b→2≤ZE b (look hs i)→((L i∨i=j)↔i<k):=fun hne i b hb hkb=>by
    rw [←inv.cut.2 i b hb hkb]
    refine ⟨fun h=>h.elim id fun h=>?_,.inl⟩
    subst h;rw [ho] at hb;cases hb;exact absurd hkb hne
  have hkj:=hord.kind j o ho
  have hos2:2≤ZE o (look hs j)→∀(i:Nat) (b:Oper),ops[i]?=some b→2≤ZE b (look hs i)→i≠j→(i<j↔i<k):=fun h2 i b hb hkb hij=>by
    have hkb':=hord.kind i b hb
    rw [←inv.cut.2 i b hb hkb]
    constructor
    · intro hi
      exact above i b hi hb (Zm9 hkb h2)
    · intro hl
      rcases Nat.lt_trichotomy i j with h | h | h
      · exact h
      · exact absurd h hij
      · exact absurd hl (below i b h hb (Zm9 h2 hkb))
  have hjk2:2≤ZE o (look hs j)→(f k).os=(f j).os:=fun h2=>by
    rcases Nat.le_total j k with h | h
    · obtain ⟨d,rfl⟩:=Nat.exists_eq_add_of_le h
      refine ZfD hst d j inv.cut.1 (fun i b q1 q2 q3=>?_)
      rcases Nat.lt_or_ge 1 (ZE b (look hs i)) with q4 | q4
      · by_cases e:i=j
        · subst e
          exact absurd ((inv.cut.2 i b q3 q4).2 q2) hnl
        · have:=(hos2 h2 i b q3 q4 e).2 q2;omega
      · exact q4
    · obtain ⟨d,rfl⟩:=Nat.exists_eq_add_of_le h
      refine (ZfD hst d k (by omega) (fun i b q1 q2 q3=>?_)).symm
      rcases Nat.lt_or_ge 1 (ZE b (look hs i)) with q4 | q4
      · have:=(hos2 h2 i b q3 q4 (by omega)).1 q2;omega
      · exact q4
  have hcut2:2≤ZE o (look hs j)→∀(i:Nat) (b:Oper),ops[i]?=some b→2≤ZE b (look hs i)→((L i∨i=j)↔i<j+1):=fun h2 i b hb hkb=>by
    by_cases e:i=j
    · subst e;exact ⟨fun _=>zl_ _,fun _=>.inr rfl⟩
    · have h3:=hos2 h2 i b hb hkb e
      have h4:=inv.cut.2 i b hb hkb
      constructor
      · rintro (h | h)
        · have:=h3.2 (h4.1 h);omega
        · exact absurd h e
      · intro h
        exact .inl (h4.2 (h3.1 (by omega)))
  have any1:∀id,id<100→Any id:=fun _ _=>trivial
  have any2:∀i,i<ops.length→L i→(x i).refs Any:=fun i _ _=>AT.refs_any _
  have any3:∀t y,look st.env t=some y→y.refs Any:=fun t y _=>AT.refs_any _
  unfold wpOp
  rw [List.getElem?_toArray,ho]
  simp only
  rcases hw with ⟨hwf,hx,hos⟩ | ⟨hwt,O,he,hO⟩
  ·
    have:=Zbz (ops:=ops) (st:=⟨e2,(f k).os⟩) hfr (hw2.trans hwf)
    rw [this]
    simp only [Bool.false_eq_true,if_false]
    by_cases h2:2≤ZE o (look hs j)
    ·
      have e:(f (j+1)).os=(f k).os:=by rw [hos,hjk2 h2]
      exact hK _ w I G (j+1) (hkeep undef w I G (j+1) (by omega) (hcut2 h2) (by rw [e];exact .refl _ _ _) Any (by rw [e];exact .refl _ _ _ _ _) any1 any2 any3 (by rw [e];exact inv.sr) (by rw [hx];exact ⟨[],rfl,rfl⟩))
    · exact hK _ w I G k (hkeep undef w I G k inv.cut.1 (hcut0 h2) (.refl _ _ _) Any (.refl _ _ _ _ _) any1 any2 any3 inv.sr (by rw [hx];exact ⟨[],rfl,rfl⟩))
  · have:=Zbz (ops:=ops) (st:=⟨e2,(f k).os⟩) hfr (hw2.trans hwt)
    rw [this]
    simp only [if_true]
    have hop:∀y,y∈o.op.operands.toList→opd GL ⟨e2,(f j).os⟩ y=opd GL ⟨(f j).env,(f j).os⟩ y:=Zmc hlook
    by_cases h3:ZE o (look hs j)=3
    ·
      have hcrt:∃id ob,look hs j=some (.obj id)∧(f (j+1)).os=(id,ob) :: (f j).os∧Zad id (f j)=true∧(Zad id ⟨e2,(f j).os⟩=true→Z3 P GL C ⟨e2,(f j).os⟩ o (look hs j)=some (x j,(f (j+1)).os,O)):=by
        cases hq:look hs j with
        | none=>
          rw [hq] at h3 he
          obtain ⟨_,_,h',_⟩:=ZaS (e2:=[]) (os:=(f j).os) (e1:=(f j).env) h3 he;cases h'
        | some q=>
          rw [hq] at h3 he
          cases q with
          | obj id=>
            obtain ⟨i2,ob,h4,h5,h6,h7⟩:=ZaS (e2:=e2) (os:=(f j).os) (e1:=(f j).env) h3 he
            cases h4
            exact ⟨id,ob,rfl,h5,h6,fun hf=>h7 hop hf⟩
          | bool b=>
            rw [ZdL] at h3
            unfold Z3 at he
            simp only at he
            split at he
            · rename_i he'
              obtain ⟨_,_,h',_⟩:=ZaS (e2:=[]) (os:=(f j).os) (e1:=(f j).env) h3 he';cases h'
            · cases he
          | _=>obtain ⟨_,_,h',_⟩:=ZaS (e2:=[]) (os:=(f j).os) (e1:=(f j).env) h3 he;cases h'
      obtain ⟨id,ob,hid,hos',hfresh,hev⟩:=hcrt
      have hjk:=hjk2 (by omega)
      have hf2:Zad id ⟨e2,(f j).os⟩=true:=by
        unfold Zad at hfresh ⊢
        split at hfresh
        · cases hfresh
        · rename_i hl
          simp only [hl]
          split at hfresh
          · rename_i q1 q2
            rw [q1,ZkY q2 _];exact hfresh
          · cases hfresh
      have he2:=hev hf2
      rw [←hjk] at he2
      obtain ⟨c1,c2⟩:=hord.crt j o id ho h3 hid
      obtain ⟨f0,_⟩:=Za9 hfresh
      refine .inl (Zhs (st:=⟨e2,(f k).os⟩) he2 hO hC inv.sr hfr fun v w' I' G' q1 q2 q3 q4=>?_)
      have hmk:Zfy (look hs j)=[id]:=by rw [hid];rfl
      rw [hmk] at q4
      refine hK _ w' I' G' (j+1) (hkeep v w' I' G' (j+1) (by omega) (hcut2 (by omega)) q1 (·≠id) (q4.any_.weaken fun i h=>by simpa using h) (fun i h=>by omega) (fun i hi hl=>?_) (fun t y hy=>Zee c1 t y hy) q2 q3)
      rcases c2 i hi with h | h | h
      · subst h;exact absurd hl hnl
      · refine absurd (Zgd inv.closed i _ (List.getElem?_eq_getElem hi) (fun p hp=>inv.closed i _ (List.getElem?_eq_getElem hi) hl p hp) (fun k o' h _=>hord.low k o' h) j h) hnl
      · exact ZkC h
    · have hk3:ZE o (look hs j)<3:=by omega
      have hmk:Zfy (look hs j)=[]:=by
        cases hh:look hs j with
        | none=>rfl
        | some h=>
          rw [hh] at hk3
          cases h with
          | obj id=>have:=Zcx (o:=o) (id:=id);omega
          | call a b c d=>
            cases d with
            | nil=>rfl
            | cons d e=>have:=Zkw (o:=o) (a:=a) (b:=b) (c:=c) (d:=d) (e:=e);omega
          | _=>rfl
      have he1:Z3 P GL C ⟨e2,(f j).os⟩ o (look hs j)=some (x j,(f (j+1)).os,O):=by rw [ZmE hop hk3];exact he
      by_cases hz:ZE o (look hs j)=0
      · obtain ⟨_,he2⟩:=ZlV hz (f k).os he1
        refine .inl (Zhs (st:=⟨e2,(f k).os⟩) he2 hO hC inv.sr hfr fun v w' I' G' q1 q2 q3 q4=>?_)
        rw [hmk] at q4
        exact hK _ w' I' G' k (hkeep v w' I' G' k inv.cut.1 (hcut0 (by omega)) q1 Any (q4.any_.weaken fun _ _=>by simp) any1 any2 any3 q2 q3)
      · by_cases h2:ZE o (look hs j)=2
        · have hjk:=hjk2 (by omega)
          rw [←hjk] at he1
          refine .inl (Zhs (st:=⟨e2,(f k).os⟩) he1 hO hC inv.sr hfr fun v w' I' G' q1 q2 q3 q4=>?_)
          rw [hmk] at q4
          exact hK _ w' I' G' (j+1) (hkeep v w' I' G' (j+1) (by omega) (hcut2 (by omega)) q1 Any (q4.any_.weaken fun _ _=>by simp) any1 any2 any3 q2 q3)
        · have hk1:ZE o (look hs j)=1:=by omega
          have hnr:∀(c:Nat) (b:Oper),ops[c]?=some b→2≤ZE b (look hs c)→¬(c<j↔c<k)→
              ((∀id,look hs c=some (.obj id)→ZZ id GL (f j) o (look hs j)=true)∧(ZE b (look hs c)=2→∀id,look (f c).os id≠none→ZZ id GL (f c) b (look hs c)=true∨ZZ id GL (f j) o (look hs j)=true)):=by
            intro c b hb hkb hne
            rcases hord.read j o ho hk1 c b hb with h | h | h
            · exfalso
              have h1:=ZoF hord.low j o ho c h
              have h2:=Zgd inv.closed j o ho hready hlow c h
              exact hne ⟨fun _=>(inv.cut.2 c b hb hkb).1 h2,fun _=>h1⟩
            · exfalso
              have h1:=ZoF hord.low c b hb j h
              refine hne ⟨fun h=>by omega,fun h'=>?_⟩
              have h2:=(inv.cut.2 c b hb hkb).2 h'
              exact absurd (Zgd inv.closed c b hb (fun p hp=>inv.closed c b hb h2 p hp) (fun k o' h _=>hord.low k o' h) j h) hnl
            · exact h
          have hmid:∀(id i:Nat) (b:Oper),ZZ id GL (f j) o (look hs j)=false→ops[i]?=some b→¬(i<j↔i<k)→(ZE b (look hs i)=2→ZZ id GL (f i) b (look hs i)=true∨look (f i).os id=none)∧(ZE b (look hs i)=3→look hs i≠some (.obj id)):=by
            intro id i b hid hb hne
            refine ⟨fun q4=>?_,fun q4 q5=>?_⟩
            · by_cases hl:look (f i).os id=none
              · exact .inr hl
              · rcases (hnr i b hb (by omega) hne).2 q4 id hl with h | h
                · exact .inl h
                · rw [h] at hid;cases hid
            · have:=(hnr i b hb (by omega) hne).1 id q5
              rw [this] at hid;cases hid
          have hnor:∀id,ZZ id GL ⟨e2,(f j).os⟩ o (look hs j)=ZZ id GL (f j) o (look hs j):=fun id=>by
            unfold ZZ
            split
            · rfl
            · rfl
            · rw [Bool.eq_iff_iff,List.all_eq_true,List.all_eq_true]
              constructor
              · intro h y hy;have:=h y hy;rw [hop y hy] at this;exact this
              · intro h y hy;have:=h y hy;rw [hop y hy];exact this
          have hlk:∀id,ZZ id GL ⟨e2,(f j).os⟩ o (look hs j)=false→look (f k).os id=look (f j).os id:=by
            intro id hid
            rw [hnor] at hid
            rcases Nat.le_total j k with h | h
            · obtain ⟨d,rfl⟩:=Nat.exists_eq_add_of_le h
              exact Zke hst hord.kind id d j inv.cut.1 (fun i b q1 q2 q3=>hmid id i b hid q3 (by omega))
            · obtain ⟨d,rfl⟩:=Nat.exists_eq_add_of_le h
              exact (Zke hst hord.kind id d k (by omega) (fun i b q1 q2 q3=>hmid id i b hid q3 (by omega))).symm
          have he2:=ZlU (os2:=(f k).os) (by omega) he1 hlk
          refine .inl (Zhs (st:=⟨e2,(f k).os⟩) he2 hO hC inv.sr hfr fun v w' I' G' q1 q2 q3 q4=>?_)
          rw [hmk] at q4
          exact hK _ w' I' G' k (hkeep v w' I' G' k inv.cut.1 (hcut0 (by omega)) q1 Any (q4.any_.weaken fun _ _=>by simp) any1 any2 any3 q2 q3)
end
end Go.AL
end
section
namespace Go.AL
variable {D:List Deferred}
variable {P:Program} {GL:List (Nat×List PV)} {C:Spec} {N:Nat}
theorem ZoR {n:Nat} {listed:Array Bool} (hsz:listed.size=n) (h:∃j,j<n∧listed.getD j true=false):∃j,j<n∧listed.getD j true=false∧∀i,i<j→listed.getD i true=true:=by
  obtain ⟨j,hj⟩:=h
  induction j using Nat.strongRecOn with
  | _ j ih=>
    by_cases hl:∃i,i<j∧listed.getD i true=false
    · obtain ⟨i,h1,h2⟩:=hl
      exact ih i h1 ⟨by omega,h2⟩
    · refine ⟨j,hj.1,hj.2,fun i hi=>?_⟩
      cases hb:listed.getD i true with
      | true=>rfl
      | false=>exact absurd ⟨i,hi,hb⟩ hl
section
variable {ops:List Oper} {hs:List (Nat×Hint)} {f:Nat→S} {x:Nat→AT} {st:S} {w0:World} {I0:Nat→Prop} {G0:Nat→Option Nat}
def Zce (n:Nat) (listed:Array Bool) (i:Nat):Prop:=i<n∧listed.getD i false=true
theorem Zn7 {n:Nat} {listed:Array Bool} (hsz:listed.size=n) {j:Nat} (hj:j<n) (i:Nat):Zce n (listed.setIfInBounds j true) i↔(Zce n listed i∨i=j):=by
  unfold Zce
  by_cases e:i=j
  · subst e
    have:(listed.setIfInBounds i true).getD i false=true:=by
      rw [Array.getD_eq_getD_getElem?,Array.getElem?_setIfInBounds_self_of_lt (by omega)];rfl
    simp [this,hj]
  · have:(listed.setIfInBounds j true).getD i false=listed.getD i false:=by
      rw [Array.getD_eq_getD_getElem?,Array.getElem?_setIfInBounds_ne (Ne.symm e),←Array.getD_eq_getD_getElem?]
    simp [this,e]
theorem ZqY (hC:ZaY P GL C) (h0:f 0=st) (hst:∀(k:Nat) (o:Oper),ops[k]?=some o→ZbO P GL C N ops hs f x k o) (hord:Zj1 GL ops hs f x st) {Q:Exit→Act→World→Prop}
    (hQ:∀w I G k a,Inv D GL N ops hs f x st w0 I0 G0 (fun i=>i<ops.length) k w I G a→Q .normal a w) :
    ∀(fuel:Nat) (listed:Array Bool) (k:Nat) (w:World) (I:Nat→Prop) (G:Nat→Option Nat) (a:Act),listed.size=ops.length→(listed.toList.filter (fun b=>!b)).length≤fuel→
      Inv D GL N ops hs f x st w0 I0 G0 (Zce ops.length listed) k w I G a→wpAny P .any ops.toArray Q fuel listed a w:=by
  have hdone:∀(listed:Array Bool) (k:Nat) (w:World) (I:Nat→Prop) (G:Nat→Option Nat) (a:Act),listed.size=ops.length→Inv D GL N ops hs f x st w0 I0 G0 (Zce ops.length listed) k w I G a→
      Region.ready .any ops.toArray listed=[]→Q .normal a w:=by
    intro listed k w I G a hsz inv hr
    have hall:∀i,i<ops.length→listed.getD i true=true:=by
      intro i hi
      cases hb:listed.getD i true with
      | true=>rfl
      | false=>
        exfalso
        obtain ⟨j,h1,h2,h3⟩:=ZoR hsz ⟨i,hi,hb⟩
        have hmem:j∈Region.ready .any ops.toArray listed:=by
          rw [mem_ready]
          refine ⟨h2,ops[j],by simp [h1],fun e he hbd=>?_⟩
          have hp:e.on∈ZaD ops[j]:=List.mem_map.2 ⟨e,List.mem_filter.2 ⟨by simpa using he,hbd⟩,rfl⟩
          have hlt:=hord.low j _ (List.getElem?_eq_getElem h1) _ hp
          have:=h3 e.on hlt
          rw [Array.getD_eq_getD_getElem?,Array.getElem?_eq_getElem (by omega)] at this ⊢
          exact this
        rw [hr] at hmem;cases hmem
    have hL:Zce ops.length listed=fun i=>i<ops.length:=by
      funext i
      apply propext
      refine ⟨fun h=>h.1,fun h=>⟨h,?_⟩⟩
      have:=hall i h
      rw [Array.getD_eq_getD_getElem?,Array.getElem?_eq_getElem (by omega)] at this ⊢
      exact this
    rw [hL] at inv
    exact hQ w I G k a inv
  intro fuel
  induction fuel with
  | zero=>
    intro listed k w I G a hsz hc inv
    have hr:Region.ready .any ops.toArray listed=[]:=by
      apply List.eq_nil_iff_forall_not_mem.2
      intro j hj
      rw [mem_ready] at hj
      obtain ⟨h1,o,h2,_⟩:=hj
      have hlt:j<ops.length:=by
        rw [List.getElem?_toArray] at h2;exact (List.getElem?_eq_some_iff.1 h2).1
      have hmem:false∈listed.toList:=by
        rw [Array.getD_eq_getD_getElem?,Array.getElem?_eq_getElem (by omega)] at h1
        have:listed[j]'(by omega)=false:=h1
        rw [←this];exact Array.mem_toList_iff.2 (Array.getElem_mem _)
      have:0<(listed.toList.filter (fun b=>!b)).length:=List.length_pos_of_mem (List.mem_filter.2 ⟨hmem,rfl⟩)
      omega
    exact ⟨hr,hdone listed k w I G a hsz inv hr⟩
  | succ fuel ih=>
    intro listed k w I G a hsz hc inv
    refine ⟨fun hr=>hdone listed k w I G a hsz inv hr,fun j hj=>?_⟩
    rw [mem_ready] at hj
    obtain ⟨h1,o,h2,h3⟩:=hj
    rw [List.getElem?_toArray] at h2
    have hlt:j<ops.length:=(List.getElem?_eq_some_iff.1 h2).1
    have hjl:listed[j]'(by omega)=false:=by
      rw [Array.getD_eq_getD_getElem?,Array.getElem?_eq_getElem (by omega)] at h1;exact h1
    refine ZpN hC h0 hst hord inv h2 (fun h=>?_) (fun p hp=>?_) fun a' w' I' G' k' inv'=>?_
    · have:=h.2
      rw [Array.getD_eq_getD_getElem?,Array.getElem?_eq_getElem (by omega)] at this
      have h':listed[j]'(by omega)=true:=this
      rw [hjl] at h';cases h'
    · obtain ⟨e,he,rfl⟩:=List.mem_map.1 hp
      obtain ⟨he1,he2⟩:=List.mem_filter.1 he
      refine ⟨?_,h3 e (by simpa using he1) he2⟩
      have:=hord.low j o h2 _ hp
      omega
    · refine ih (listed.setIfInBounds j true) k' w' I' G' a' (by simp [hsz]) ?_ ?_
      · have:(listed.setIfInBounds j true).toList=listed.toList.set j true:=by simp
        rw [this]
        have key:∀(l:List Bool) (i:Nat),l[i]?=some false→((l.set i true).filter (fun b=>!b)).length+1=(l.filter (fun b=>!b)).length:=by
          intro l
          induction l with
          | nil=>intro i h;simp at h
          | cons b l ihl=>
            intro i h
            cases i with
            | zero=>simp at h;subst h;simp
            | succ i=>
              have:=ihl i (by simpa using h)
              simp only [List.set_cons_succ,List.filter_cons]
              cases b <;> simp <;> omega
        have:=key listed.toList j (by rw [Array.getElem?_toList,Array.getElem?_eq_getElem (by omega),hjl])
        omega
      · have:Zce ops.length (listed.setIfInBounds j true)=fun i=>Zce ops.length listed i∨i=j:=by
          funext i;exact propext (Zn7 hsz hlt i)
        rw [this];exact inv'
theorem Zq3 {st':S} {O:List Prop} {w:World} {I:Nat→Prop} {G:Nat→Option Nat} {a:Act} {Q:Exit→Act→World→Prop} (hC:ZaY P GL C) (hord:ZcO GL ops hs (ZaV P GL C N ops hs 0 ops st) st=true) (he:ZW P GL C N ops hs 0 ops st=some (st',O)) (hO:All O)
    (hsr:Sr GL w I G st.os) (hf:Fr D w I G (shape st.os) N a st.env)
    (hQ:∀w' I' G' a',Ext w w' I I' (Mine G st.os) (Mine G' st'.os)→ZN (· < 100) w w' I I' G G' (shape st.os) (shape st'.os)→Sr GL w' I' G' st'.os→Fr D w' I' G' (shape st'.os) N a' st'.env→Q .normal a' w') :
    wpAny P .any ops.toArray Q ops.length (Array.replicate ops.length false) a w:=by
  obtain ⟨f,x,h0,hn,hst⟩:=Zmy ops 0 st st' O he hO
  have hst':∀(k:Nat) (o:Oper),ops[k]?=some o→ZbO P GL C N ops hs f x k o:=fun k o h=>by simpa using (hst k o h).1
  have hord':=ZmD (f:=f) (x:=x) (fun k hk=>by have:=(hst k _ (List.getElem?_eq_getElem hk)).2;simpa using this) hord
  rw [Nat.zero_add] at hn
  refine ZqY (D:=D) (w0:=w) (I0:=I) (G0:=G) (f:=f) (x:=x) (st:=st) hC h0 hst' hord' ?_ ops.length (Array.replicate ops.length false) 0 w I G a (by simp) (by
    have:(Array.replicate ops.length false).toList=List.replicate ops.length false:=by simp
    rw [this];exact Nat.le_trans (List.length_filter_le _ _) (by simp)) ?_
  · intro w' I' G' k a' inv
    have hos:(f ops.length).os=(f k).os:=by
      obtain ⟨d,hd⟩:=Nat.exists_eq_add_of_le inv.cut.1
      rw [hd]
      refine ZfD hst' d k (by omega) (fun i o q1 q2 q3=>?_)
      rcases Nat.lt_or_ge 1 (ZE o (look hs i)) with q4 | q4
      · have:=(inv.cut.2 i o q3 q4).1 (List.getElem?_eq_some_iff.1 q3).1
        omega
      · exact q4
    rw [hn] at hos
    refine hQ w' I' G' a' (by rw [hos];exact inv.ext) (by rw [hos];exact inv.keeps) (by rw [hos];exact inv.sr) ⟨inv.size,inv.defers,fun t y hy=>?_⟩
    rw [hos]
    rw [←hn] at hy
    rcases Zfv h0 hst' ops.length (Nat.le_refl _) t y hy with ⟨i,o,h1,h2,h3,h4,h5⟩ | ⟨h1,h2⟩
    · subst h4
      refine inv.wrote i o t h2 h1 h3 (fun i' o' q1 q2 q3=>?_)
      rcases Nat.lt_or_ge i i' with h | h
      · exact absurd q3 (h5 i' o' h q2 q1)
      · exact h
    · exact inv.was t y (fun i o q1 q2=>h1 i o q2 q1) h2
  · have hno:∀i,¬Zce ops.length (Array.replicate ops.length false) i:=fun i h=>by
      have:=h.2
      rw [Array.getD_eq_getD_getElem?,Array.getElem?_replicate] at this
      split at this <;> cases this
    refine ⟨fun j o _ h=>absurd h (hno j),⟨Nat.zero_le _,fun i o _ _=>⟨fun h=>absurd h (hno i),fun h=>by omega⟩⟩,by rw [h0];exact .refl _ _ _,by rw [h0];exact .refl _ _ _ _ _,by rw [h0];exact hsr,hf.size,hf.defers,
      fun i o t _ h=>absurd h (hno i),fun t y _ hy=>by rw [h0];exact hf.slot t y hy⟩
end
theorem Zrq {w:World} {I:Nat→Prop} {G:Nat→Option Nat} {os:Objs} (h:Sr GL w I G os):Sr GL w.drew I G os∧ZN Any w w.drew I I G G (shape os) (shape os):=
  h.move (fun _ h=>h) (fun _ _=>rfl) (Nat.le_refl _) (fun _ h=>.inl h) h.lt
theorem WA.regD {st:S} {F:Exit→S→Prop} {id:Nat} {l:List Oper} (hm:P.follows .mixedOrders=true) (ts ids:List Nat) (hs_:List (Nat×Hint)) {env':List (Nat×AT)} {os':Objs} {O:List Prop}
    (hd:ZcO GL l hs_ (ZaV P GL C N l hs_ 0 l st) st=true) (he:(ZW P GL C N l hs_ 0 l st).map (fun p=>(ZI p.1.env ts,ZI p.1.os ids,p.2))=some (env',os',O)) (hC:ZaY P GL C) (hO:All O) (h:F .normal ⟨env',os'⟩) :
    WA P GL N (.region id l.toArray true) st F:=fun D w0 I0 G0 os0 w I G a h1 h2 h3 h4=>by
  obtain ⟨⟨s,O'⟩,h5,h6⟩:=map_some he
  cases h6
  obtain ⟨s0,k0⟩:=Zrq h3
  have f0:Fr D w.drew I G (shape st.os) N a st.env:=⟨h4.size,h4.defers,fun t x hx=>⟨(h4.slot t x hx).1,(h4.slot t x hx).2.mono k0 (AT.refs_any x)⟩⟩
  refine wp_region_any hm ?_
  show wpAny P .any l.toArray _ l.toArray.size (Array.replicate l.toArray.size false) a w.drew
  rw [List.size_toArray]
  refine Zq3 hC hd h5 hO s0 f0 fun w' I' G' a' e k sr f=>?_
  have hsub:∀k o,look (ZI s.os ids) k=some o→look s.os k=some o:=fun k o=>Z0
  obtain ⟨s1,k1⟩:=sr.sub hsub
  have e':=(h1.trans (Ext.drew w I (Mine G st.os))).trans e
  exact ⟨I',G',_,⟨e'.size,e'.os,e'.tape,e'.output,e'.keep,e'.imm,e'.inew,fun b ⟨k,o,q1,q2⟩=>e'.mnew b ⟨k,o,hsub k o q1,q2⟩⟩,((h2.trans (k0.weaken fun _ _=>trivial)).trans k).trans (k1.weaken fun _ _=>trivial),s1,
    ⟨f.size,f.defers,fun t x hx=>⟨(f.slot t x (Z0 hx)).1,(f.slot t x (Z0 hx)).2.mono k1 (AT.refs_any x)⟩⟩,h⟩
end Go.AL
end
section
namespace Go.AL
variable {P:Program} {GL:List (Nat×List PV)} {C:Spec} {st:S} {N:Nat} {F:Exit→S→Prop} {code:Code}
theorem ZJ {α β:Type} {a a':α} {b b':β} (h:a=a') (h2:b=b'):(a,b)=(a',b'):=by subst h;subst h2;rfl
def Into (J:S→Prop) (F:Exit→S→Prop):Exit→S→Prop
  | .normal,s=>J s
  | e,s=>F e s
theorem WA.join {x y:Code} (J:S→Prop) (h1:∀s,J s→WA P GL N y s F) (h2:WA P GL N x st (Into J F)):WA P GL N (.seq x y) st F:=
  WA.seq (h2.mono fun e s h=>by cases e <;> first | exact h1 s h | exact h)
theorem WA.regM {α:Type} {raw can:α} (T:α→List (Nat×AT)×Objs×List Prop) (hm:raw=can) {id:Nat} {l:List Oper} (ts ids:List Nat) (hs_:List (Nat×Hint)) {env':List (Nat×AT)} {os':Objs} {O:List Prop}
    (he:(ZW P GL C N l hs_ 0 l st).map (fun p=>(ZI p.1.env ts,ZI p.1.os ids,p.2))=some (T raw)) (hT:T can=(env',os',O)) (hC:ZaY P GL C) (hO:All O) (h:F .normal ⟨env',os'⟩) :
    WA P GL N (.region id l.toArray false) st F:=by
  subst hm;rw [hT] at he;exact WA.reg ts ids hs_ he hC hO h
theorem WA.regDM {α:Type} {raw can:α} (T:α→List (Nat×AT)×Objs×List Prop) (hm:raw=can) {id:Nat} {l:List Oper} (ts ids:List Nat) (hs_:List (Nat×Hint)) {env':List (Nat×AT)} {os':Objs} {O:List Prop}
    (hmx:P.follows .mixedOrders=true) (hd:ZcO GL l hs_ (ZaV P GL C N l hs_ 0 l st) st=true)
    (he:(ZW P GL C N l hs_ 0 l st).map (fun p=>(ZI p.1.env ts,ZI p.1.os ids,p.2))=some (T raw)) (hT:T can=(env',os',O)) (hC:ZaY P GL C) (hO:All O) (h:F .normal ⟨env',os'⟩) :
    WA P GL N (.region id l.toArray true) st F:=by
  subst hm;rw [hT] at he;exact WA.regD hmx ts ids hs_ hd he hC hO h
theorem Zcy {rv:List ResultVar} {outs:List Nat} {m:Nat} {res:AT} {os':List Obj} {s:S} (r:AT) (l:List Obj) (h1:resA P s rv=some r) (h2:renA outs res=some r) (h3:Zaw outs os'=some l) (h4:ZY s.os outs=some l)
    (h5:outs.Nodup) (h6:outs.length=os'.length) (h7:outs.take m=List.range m):Out P rv outs m res os' .normal s:=⟨r,h1,h2,⟨l,h3,h4⟩,h5,h6,h7⟩
section
variable {α β:Type} {e:α→β}
theorem Znl (l:List α):(l.map e).length=l.length:=List.length_map e
theorem Zj3 (a b:List α):a.map e ++ b.map e=(a ++ b).map e:=List.map_append.symm
theorem Zih (l:List α) (n:Nat):(l.map e).take n=(l.take n).map e:=(List.map_take).symm
theorem Zh0 (l:List α) (n:Nat):(l.map e).drop n=(l.drop n).map e:=(List.map_drop).symm
theorem Zkh (l:List α) (i:Nat) (x:α):(l.map e).set i (e x)=(l.set i x).map e:=List.map_set.symm
theorem Zny (n:Nat) (x:α):List.replicate n (e x)=(List.replicate n x).map e:=(List.map_replicate).symm
theorem Zr {l:List α} {i:Int} {x:α} (h:idxL l i=some x):l[i.toNat]?=some x:=by
  unfold idxL at h;split at h
  · exact h
  · cases h
theorem Zb2 (f:α→List PV) (l:List α) (n:Nat) (hf:∀x,(f x).length=n):∀es,es∈l.map f→es.length=n:=fun es h=>by
  obtain ⟨y,_,rfl⟩:=List.mem_map.1 h;exact hf y
end
end Go.AL
end
section
namespace Go.Proofs
open Go.Shelf
def Tryz.lays137_ren:Go.Shelf.Ren:=⟨fun | 137=>170 | 217=>185 | 266=>195 | n=>n,fun | 9=>9 | 5=>5 | 3=>3 | n=>n,fun | n=>n⟩
theorem Tryz.lays137:Go.Proofs.Lays.n137 Tryz.prog Tryz.lays137_ren:={
  mixed:=by kernel_rfl
  f137:=Tryz.func170.trans (congrArg some (by kernel_rfl))
  f217:=Tryz.func185.trans (congrArg some (by kernel_rfl))
  f266:=Tryz.func195.trans (congrArg some (by kernel_rfl))
  t3:=Tryz.underlying3
  a3:=Tryz.isAgg3
  z3:=Tryz.sizeOf3
  v3:=Tryz.zeroValue3
  t5:=Tryz.underlying5
  a5:=Tryz.isAgg5
  z5:=Tryz.sizeOf5
  v5:=Tryz.zeroValue5
  t9:=Tryz.underlying9
  a9:=Tryz.isAgg9
  z9:=Tryz.sizeOf9
  v9:=Tryz.zeroValue9 }
def Tryz.lays172_ren:Go.Shelf.Ren:=⟨fun | 172=>172 | 244=>188 | 245=>189 | 247=>196 | 279=>197 | 280=>198 | 281=>199 | 282=>200 | 287=>202 | 316=>203 | 171=>88 | 205=>204 | 321=>205 | 322=>206 | 243=>114 | 246=>136 | 283=>165 | 284=>166 | 285=>167 | 286=>168 | 129=>134 | 317=>181 | 318=>182 | 319=>183 | 320=>184 | 337=>193 | 338=>194 | n=>n,fun | 9=>9 | 3=>3 | 75=>132 | 76=>133 | 4=>4 | 5=>5 | 167=>208 | 37=>51 | 0=>0 | 85=>209 | 2=>2 | 168=>211 | 53=>159 | 175=>218 | 46=>37 | 210=>222 | 127=>156 | 145=>227 | 143=>225 | 21=>21 | 171=>192 | 173=>194 | 212=>204 | 51=>170 | 20=>20 | 213=>205 | 232=>216 | 233=>217 | 80=>136 | n=>n,fun | 15=>6 | 16=>7 | 17=>3 | 18=>4 | 19=>5 | n=>n⟩
theorem Tryz.lays172:Go.Proofs.Lays.n172 Tryz.prog Tryz.lays172_ren:={
  mixed:=by kernel_rfl
  f129:=Tryz.func134.trans (congrArg some (by kernel_rfl))
  f171:=Tryz.func88.trans (congrArg some (by kernel_rfl))
  f172:=Tryz.func172.trans (congrArg some (by kernel_rfl))
  f205:=Tryz.func204.trans (congrArg some (by kernel_rfl))
  f243:=Tryz.func114.trans (congrArg some (by kernel_rfl))
  f244:=Tryz.func188.trans (congrArg some (by kernel_rfl))
  f245:=Tryz.func189.trans (congrArg some (by kernel_rfl))
  f246:=Tryz.func136.trans (congrArg some (by kernel_rfl))
  f247:=Tryz.func196.trans (congrArg some (by kernel_rfl))
  f279:=Tryz.func197.trans (congrArg some (by kernel_rfl))
  f280:=Tryz.func198.trans (congrArg some (by kernel_rfl))
  f281:=Tryz.func199.trans (congrArg some (by kernel_rfl))
  f282:=Tryz.func200.trans (congrArg some (by kernel_rfl))
  f283:=Tryz.func165.trans (congrArg some (by kernel_rfl))
  f284:=Tryz.func166.trans (congrArg some (by kernel_rfl))
  f285:=Tryz.func167.trans (congrArg some (by kernel_rfl))
  f286:=Tryz.func168.trans (congrArg some (by kernel_rfl))
  f287:=Tryz.func202.trans (congrArg some (by kernel_rfl))
  f316:=Tryz.func203.trans (congrArg some (by kernel_rfl))
  f317:=Tryz.func181.trans (congrArg some (by kernel_rfl))
  f318:=Tryz.func182.trans (congrArg some (by kernel_rfl))
  f319:=Tryz.func183.trans (congrArg some (by kernel_rfl))
  f320:=Tryz.func184.trans (congrArg some (by kernel_rfl))
  f321:=Tryz.func205.trans (congrArg some (by kernel_rfl))
  f322:=Tryz.func206.trans (congrArg some (by kernel_rfl))
  f337:=Tryz.func193.trans (congrArg some (by kernel_rfl))
  f338:=Tryz.func194.trans (congrArg some (by kernel_rfl))
  t0:=Tryz.underlying0
  a0:=Tryz.isAgg0
  z0:=Tryz.sizeOf0
  v0:=Tryz.zeroValue0
  t2:=Tryz.underlying2
  a2:=Tryz.isAgg2
  z2:=Tryz.sizeOf2
  v2:=Tryz.zeroValue2
  t3:=Tryz.underlying3
  a3:=Tryz.isAgg3
  z3:=Tryz.sizeOf3
  v3:=Tryz.zeroValue3
  t4:=Tryz.underlying4
  a4:=Tryz.isAgg4
  z4:=Tryz.sizeOf4
  v4:=Tryz.zeroValue4
  t5:=Tryz.underlying5
  a5:=Tryz.isAgg5
  z5:=Tryz.sizeOf5
  v5:=Tryz.zeroValue5
  t9:=Tryz.underlying9
  a9:=Tryz.isAgg9
  z9:=Tryz.sizeOf9
  v9:=Tryz.zeroValue9
  t20:=Tryz.underlying20
  a20:=Tryz.isAgg20
  z20:=Tryz.sizeOf20
  v20:=Tryz.zeroValue20
  t21:=Tryz.underlying21
  a21:=Tryz.isAgg21
  z21:=Tryz.sizeOf21
  v21:=Tryz.zeroValue21
  t37:=Tryz.underlying51
  a37:=Tryz.isAgg51
  z37:=Tryz.sizeOf51
  v37:=Tryz.zeroValue51
  t46:=Tryz.underlying37
  a46:=Tryz.isAgg37
  z46:=Tryz.sizeOf37
  v46:=Tryz.zeroValue37
  t51:=Tryz.underlying170
  a51:=Tryz.isAgg170
  z51:=Tryz.sizeOf170
  v51:=Tryz.zeroValue170
  t53:=Tryz.underlying159
  a53:=Tryz.isAgg159
  z53:=Tryz.sizeOf159
  v53:=Tryz.zeroValue159
  t75:=Tryz.underlying132
  a75:=Tryz.isAgg132
  z75:=Tryz.sizeOf132
  v75:=Tryz.zeroValue132
  t76:=Tryz.underlying133
  a76:=Tryz.isAgg133
  z76:=Tryz.sizeOf133
  v76:=Tryz.zeroValue133
  t85:=Tryz.underlying209
  a85:=Tryz.isAgg209
  z85:=Tryz.sizeOf209
  v85:=Tryz.zeroValue209
  t127:=Tryz.underlying156
  a127:=Tryz.isAgg156
  z127:=Tryz.sizeOf156
  v127:=Tryz.zeroValue156
  t143:=Tryz.underlying225
  a143:=Tryz.isAgg225
  z143:=Tryz.sizeOf225
  v143:=Tryz.zeroValue225
  t145:=Tryz.underlying227
  a145:=Tryz.isAgg227
  z145:=Tryz.sizeOf227
  v145:=Tryz.zeroValue227
  t167:=Tryz.underlying208
  a167:=Tryz.isAgg208
  z167:=Tryz.sizeOf208
  v167:=Tryz.zeroValue208
  t168:=Tryz.underlying211
  a168:=Tryz.isAgg211
  z168:=Tryz.sizeOf211
  v168:=Tryz.zeroValue211
  t171:=Tryz.underlying192
  a171:=Tryz.isAgg192
  z171:=Tryz.sizeOf192
  v171:=Tryz.zeroValue192
  t173:=Tryz.underlying194
  a173:=Tryz.isAgg194
  z173:=Tryz.sizeOf194
  v173:=Tryz.zeroValue194
  t175:=Tryz.underlying218
  a175:=Tryz.isAgg218
  z175:=Tryz.sizeOf218
  v175:=Tryz.zeroValue218
  t210:=Tryz.underlying222
  a210:=Tryz.isAgg222
  z210:=Tryz.sizeOf222
  v210:=Tryz.zeroValue222
  t212:=Tryz.underlying204
  a212:=Tryz.isAgg204
  z212:=Tryz.sizeOf204
  v212:=Tryz.zeroValue204
  t213:=Tryz.underlying205
  a213:=Tryz.isAgg205
  z213:=Tryz.sizeOf205
  t232:=Tryz.underlying216
  a232:=Tryz.isAgg216
  z232:=Tryz.sizeOf216
  v232:=Tryz.zeroValue216
  t233:=Tryz.underlying217
  a233:=Tryz.isAgg217
  z233:=Tryz.sizeOf217
  v233:=Tryz.zeroValue217
  g15:=by kernel_rfl
  g16:=by kernel_rfl
  g17:=by kernel_rfl
  g18:=by kernel_rfl
  g19:=by kernel_rfl }
def Tryz.lays99_ren:Go.Shelf.Ren:=⟨fun | 99=>116 | 206=>137 | n=>n,fun | 9=>9 | 4=>4 | 3=>3 | n=>n,fun | n=>n⟩
theorem Tryz.lays99:Go.Proofs.Lays.n99 Tryz.prog Tryz.lays99_ren:={
  mixed:=by kernel_rfl
  f99:=Tryz.func116.trans (congrArg some (by kernel_rfl))
  f206:=Tryz.func137.trans (congrArg some (by kernel_rfl))
  t3:=Tryz.underlying3
  a3:=Tryz.isAgg3
  z3:=Tryz.sizeOf3
  v3:=Tryz.zeroValue3
  t4:=Tryz.underlying4
  a4:=Tryz.isAgg4
  z4:=Tryz.sizeOf4
  v4:=Tryz.zeroValue4
  t9:=Tryz.underlying9
  a9:=Tryz.isAgg9
  z9:=Tryz.sizeOf9
  v9:=Tryz.zeroValue9 }
def Tryz.lays197_ren:Go.Shelf.Ren:=⟨fun | 197=>80 | 260=>106 | n=>n,fun | 9=>9 | 21=>21 | 3=>3 | 4=>4 | 5=>5 | 105=>119 | 119=>145 | 0=>0 | 46=>37 | 139=>148 | 138=>147 | n=>n,fun | 3=>0 | 4=>1 | n=>n⟩
theorem Tryz.lays197:Go.Proofs.Lays.n197 Tryz.prog Tryz.lays197_ren:={
  mixed:=by kernel_rfl
  f197:=Tryz.func80.trans (congrArg some (by kernel_rfl))
  f260:=Tryz.func106.trans (congrArg some (by kernel_rfl))
  t0:=Tryz.underlying0
  a0:=Tryz.isAgg0
  z0:=Tryz.sizeOf0
  v0:=Tryz.zeroValue0
  t3:=Tryz.underlying3
  a3:=Tryz.isAgg3
  z3:=Tryz.sizeOf3
  v3:=Tryz.zeroValue3
  t4:=Tryz.underlying4
  a4:=Tryz.isAgg4
  z4:=Tryz.sizeOf4
  v4:=Tryz.zeroValue4
  t5:=Tryz.underlying5
  a5:=Tryz.isAgg5
  z5:=Tryz.sizeOf5
  v5:=Tryz.zeroValue5
  t9:=Tryz.underlying9
  a9:=Tryz.isAgg9
  z9:=Tryz.sizeOf9
  v9:=Tryz.zeroValue9
  t21:=Tryz.underlying21
  a21:=Tryz.isAgg21
  z21:=Tryz.sizeOf21
  v21:=Tryz.zeroValue21
  t46:=Tryz.underlying37
  a46:=Tryz.isAgg37
  z46:=Tryz.sizeOf37
  v46:=Tryz.zeroValue37
  t105:=Tryz.underlying119
  a105:=Tryz.isAgg119
  z105:=Tryz.sizeOf119
  v105:=Tryz.zeroValue119
  t119:=Tryz.underlying145
  a119:=Tryz.isAgg145
  z119:=Tryz.sizeOf145
  t138:=Tryz.underlying147
  a138:=Tryz.isAgg147
  z138:=Tryz.sizeOf147
  v138:=Tryz.zeroValue147
  t139:=Tryz.underlying148
  a139:=Tryz.isAgg148
  z139:=Tryz.sizeOf148
  v139:=Tryz.zeroValue148
  g3:=by kernel_rfl
  g4:=by kernel_rfl }
def Tryz.lays196_ren:Go.Shelf.Ren:=⟨fun | 196=>72 | 259=>99 | n=>n,fun | 9=>9 | 4=>4 | 3=>3 | 5=>5 | 12=>12 | 119=>145 | 0=>0 | 46=>37 | 139=>148 | 138=>147 | 53=>159 | n=>n,fun | 3=>0 | 4=>1 | n=>n⟩
theorem Tryz.lays196:Go.Proofs.Lays.n196 Tryz.prog Tryz.lays196_ren:={
  mixed:=by kernel_rfl
  f196:=Tryz.func72.trans (congrArg some (by kernel_rfl))
  f259:=Tryz.func99.trans (congrArg some (by kernel_rfl))
  t0:=Tryz.underlying0
  a0:=Tryz.isAgg0
  z0:=Tryz.sizeOf0
  v0:=Tryz.zeroValue0
  t3:=Tryz.underlying3
  a3:=Tryz.isAgg3
  z3:=Tryz.sizeOf3
  v3:=Tryz.zeroValue3
  t4:=Tryz.underlying4
  a4:=Tryz.isAgg4
  z4:=Tryz.sizeOf4
  v4:=Tryz.zeroValue4
  t5:=Tryz.underlying5
  a5:=Tryz.isAgg5
  z5:=Tryz.sizeOf5
  v5:=Tryz.zeroValue5
  t9:=Tryz.underlying9
  a9:=Tryz.isAgg9
  z9:=Tryz.sizeOf9
  v9:=Tryz.zeroValue9
  t12:=Tryz.underlying12
  a12:=Tryz.isAgg12
  z12:=Tryz.sizeOf12
  v12:=Tryz.zeroValue12
  t46:=Tryz.underlying37
  a46:=Tryz.isAgg37
  z46:=Tryz.sizeOf37
  v46:=Tryz.zeroValue37
  t53:=Tryz.underlying159
  a53:=Tryz.isAgg159
  z53:=Tryz.sizeOf159
  v53:=Tryz.zeroValue159
  t119:=Tryz.underlying145
  a119:=Tryz.isAgg145
  z119:=Tryz.sizeOf145
  t138:=Tryz.underlying147
  a138:=Tryz.isAgg147
  z138:=Tryz.sizeOf147
  v138:=Tryz.zeroValue147
  t139:=Tryz.underlying148
  a139:=Tryz.isAgg148
  z139:=Tryz.sizeOf148
  v139:=Tryz.zeroValue148
  g3:=by kernel_rfl
  g4:=by kernel_rfl }
def Tryz.lays151_ren:Go.Shelf.Ren:=⟨fun | 151=>141 | 152=>171 | 137=>170 | 119=>115 | 224=>186 | 225=>187 | 217=>185 | 266=>195 | n=>n,fun | 9=>9 | 21=>21 | 4=>4 | 3=>3 | 5=>5 | 0=>0 | 46=>37 | n=>n,fun | n=>n⟩
theorem Tryz.lays151:Go.Proofs.Lays.n151 Tryz.prog Tryz.lays151_ren:={
  mixed:=by kernel_rfl
  f119:=Tryz.func115.trans (congrArg some (by kernel_rfl))
  f137:=Tryz.func170.trans (congrArg some (by kernel_rfl))
  f151:=Tryz.func141.trans (congrArg some (by kernel_rfl))
  f152:=Tryz.func171.trans (congrArg some (by kernel_rfl))
  f217:=Tryz.func185.trans (congrArg some (by kernel_rfl))
  f224:=Tryz.func186.trans (congrArg some (by kernel_rfl))
  f225:=Tryz.func187.trans (congrArg some (by kernel_rfl))
  f266:=Tryz.func195.trans (congrArg some (by kernel_rfl))
  t0:=Tryz.underlying0
  a0:=Tryz.isAgg0
  z0:=Tryz.sizeOf0
  v0:=Tryz.zeroValue0
  t3:=Tryz.underlying3
  a3:=Tryz.isAgg3
  z3:=Tryz.sizeOf3
  v3:=Tryz.zeroValue3
  t4:=Tryz.underlying4
  a4:=Tryz.isAgg4
  z4:=Tryz.sizeOf4
  v4:=Tryz.zeroValue4
  t5:=Tryz.underlying5
  a5:=Tryz.isAgg5
  z5:=Tryz.sizeOf5
  v5:=Tryz.zeroValue5
  t9:=Tryz.underlying9
  a9:=Tryz.isAgg9
  z9:=Tryz.sizeOf9
  v9:=Tryz.zeroValue9
  t21:=Tryz.underlying21
  a21:=Tryz.isAgg21
  z21:=Tryz.sizeOf21
  v21:=Tryz.zeroValue21
  t46:=Tryz.underlying37
  a46:=Tryz.isAgg37
  z46:=Tryz.sizeOf37
  v46:=Tryz.zeroValue37 }
end Go.Proofs
end
section
namespace Go.AL
open Go.RowKit
variable {P:Program} {GL:List (Nat×List PV)}
theorem ZaG {f:FuncId} {args:List AT} {res:AT} (h:∀(w:World) (I:Nat→Prop) (G:Nat→Option Nat) (vs:List Value),Sr GL w I G []→As w I G (shape []) args vs→
    Calls P f ⟨vs⟩ w fun e w'=>∃v,e = .returned v∧(∀w' I' G' sh,ATr w' I' G' sh res v)∧Below w.heap.size w w'):Sim P GL f args [] res []:=by
  intro w I G vs hs ha
  refine Calls.imp (h w I G vs hs ha) ?_
  rintro e w' ⟨v,rfl,hr,hb⟩
  obtain ⟨s1,k1⟩:=Sr.move (os:=ZG []) (w':=w') (I':=I) hs (fun _ h=>h) (fun k hk=>hb.block k hk) hb.size (fun _ h=>.inl h) (fun k hk=>Nat.lt_of_lt_of_le (hs.lt k hk) hb.size)
  exact ⟨v,I,G,rfl,⟨hb.size,hb.os,hb.tape,hb.output,fun k hk _=>hb.block k hk,fun _ h=>h,fun _ h=>.inl h,fun _ h=>.inl h⟩,s1,hr _ _ _ _,k1.weaken fun _ _=>trivial⟩
theorem ZbQ {w:World} {I:Nat→Prop} {G:Nat→Option Nat} {sh:Sh} {s:List UInt8} {l:List AT} {vs:List Value} (h:As w I G sh (one (.str s) :: l) vs):∃vs',vs = .string ⟨s.toArray⟩ :: vs'∧As w I G sh l vs':=by
  obtain ⟨v,vs',rfl,hv,hl⟩:=h
  have h1:PVr w I (.str s) v:=ZH hv
  cases h1
  exact ⟨vs',rfl,hl⟩
theorem Zi4 {w:World} {I:Nat→Prop} {G:Nat→Option Nat} {sh:Sh} {k:IntKind} {n:Int} {l:List AT} {vs:List Value} (h:As w I G sh (one (.int k n) :: l) vs):∃vs',vs = .int k n :: vs'∧As w I G sh l vs':=by
  obtain ⟨v,vs',rfl,hv,hl⟩:=h
  have h1:PVr w I (.int k n) v:=ZH hv
  cases h1
  exact ⟨vs',rfl,hl⟩
theorem ZbP {w:World} {I:Nat→Prop} {G:Nat→Option Nat} {sh:Sh} {vs:List Value} (h:As w I G sh [] vs):vs=[]:=h
theorem ZpD (b:Bool) (w:World) (I:Nat→Prop) (G:Nat→Option Nat) (sh:Sh):ATr w I G sh (one (.bool b)) (.bool b):=⟨_,rfl,.bool _⟩
end Go.AL
namespace Go.Proofs.YthilboheomikjaaGreatDoor
open Go.AL Go.RowKit
variable {μ:Int}
def GL0 (μ:Int):List (Nat×List PV):=[(0,(List.range 256).map fun c=>.int .u8 (Lib.firstT c)),(1,(List.range 32).map fun i=>.int .u8 (if i % 2=0 then Lib.accLo (i / 2) else Lib.accHi (i / 2))),(2,[.int .i64 μ]),(3,(List.range 20).map fun i=>.int .u64 ((10 ^ i:Nat):Int))]
theorem ZnF {w:World} {I:Nat→Prop} {G:Nat→Option Nat} {os:Objs} (h:Sr (GL0 μ) w I G os):Lib.Utf8Tabs 0 1 w:=by
  obtain ⟨_,h0⟩:=h.gl 0 _ rfl
  obtain ⟨_,h1⟩:=h.gl 1 _ rfl
  refine ⟨fun c hc=>?_,fun i hi=>⟨?_,?_⟩⟩
  · obtain ⟨u,hu,hr⟩:=h0 c (.int .u8 (Lib.firstT c)) (by simp [hc])
    cases hr;exact hu
  · obtain ⟨u,hu,hr⟩:=h1 (2*i) (.int .u8 (Lib.accLo i)) (by
      rw [List.getElem?_map,List.getElem?_range (by omega)]
      simp only [Option.map_some,show 2*i % 2=0 from by omega,if_true,show 2*i / 2=i from by omega])
    cases hr;exact hu
  · obtain ⟨u,hu,hr⟩:=h1 (2*i+1) (.int .u8 (Lib.accHi i)) (by
      rw [List.getElem?_map,List.getElem?_range (by omega)]
      simp only [Option.map_some,show (2*i+1) % 2=1 from by omega,show (2*i+1) / 2=i from by omega]
      rfl)
    cases hr;exact hu
def F80 (k:Nat) (s:List UInt8):Option (Int×Int):=some (((Lib.decodeGo ⟨s.toArray⟩).1:Nat),((Lib.decodeGo ⟨s.toArray⟩).2:Nat))
theorem ZrI (k:Nat) (v0:List UInt8) (r:Int×Int) (hF:F80 k v0=some r):Sim Tryz.prog (GL0 μ) 80 [one (.str v0)] [] (.tup [(false,[.pv (.int .i32 r.1)]),(false,[.pv (.int .i64 r.2)])]) []:=by
  obtain rfl:=zj_ hF
  refine ZaG fun w I G vs hs ha=>?_
  obtain ⟨vs,rfl,hb⟩:=ZbQ ha;clear ha;have ha:=hb;clear hb
  obtain rfl:=ZbP ha
  refine Calls.imp (Any.utf8_DecodeRuneInString Tryz.lays197 ⟨v0.toArray⟩ w (ZnF hs)) ?_
  rintro e w' ⟨rfl,hb⟩
  exact ⟨_,rfl,fun _ _ _ _=>⟨_,rfl,_,_,rfl,⟨_,rfl,.int _ _⟩,_,_,rfl,⟨_,rfl,.int _ _⟩,rfl⟩,hb⟩
def F72 (k:Nat) (s:List UInt8):Option Bool:=if s.length≤9223372036854775807 then some (Lib.validD s) else none
theorem ZrG (k:Nat) (v0:List UInt8) (r:Bool) (hF:F72 k v0=some r):Sim Tryz.prog (GL0 μ) 72 [one (.str v0)] [] (one (.bool r)) []:=by
  obtain ⟨hl,hF⟩:=Zn hF
  obtain rfl:=zj_ hF
  refine ZaG fun w I G vs hs ha=>?_
  obtain ⟨vs,rfl,hb⟩:=ZbQ ha;clear ha;have ha:=hb;clear hb
  obtain rfl:=ZbP ha
  refine Calls.imp (Any.utf8_ValidString Tryz.lays196 ⟨v0.toArray⟩ w (by rw [Zb4];exact hl) (ZnF hs)) ?_
  rintro e w' ⟨rfl,hb⟩
  exact ⟨_,rfl,fun _ _ _ _=>⟨_,rfl,.bool _⟩,hb⟩
def F116 (k:Nat) (s p:List UInt8):Option Bool:=some (Lib.hasPrefix s p)
theorem Zqz (k:Nat) (v0 v1:List UInt8) (r:Bool) (hF:F116 k v0 v1=some r):Sim Tryz.prog (GL0 μ) 116 [one (.str v0),one (.str v1)] [] (one (.bool r)) []:=by
  obtain rfl:=zj_ hF
  refine ZaG fun w I G vs hs ha=>?_
  obtain ⟨vs,rfl,hb⟩:=ZbQ ha;clear ha;have ha:=hb;clear hb
  obtain ⟨vs,rfl,hb⟩:=ZbQ ha;clear ha;have ha:=hb;clear hb
  obtain rfl:=ZbP ha
  refine Calls.imp (Any.strings_HasPrefix Tryz.lays99 ⟨v0.toArray⟩ ⟨v1.toArray⟩ w) ?_
  rintro e w' ⟨rfl,rfl⟩
  exact ⟨_,rfl,fun _ _ _ _=>⟨_,rfl,.bool _⟩,.refl _ _⟩
def F170 (k:Nat) (s:List UInt8) (c:Int):Option Int:=some (Lib.indexByte s c.toNat.toUInt8)
theorem ZjT (k:Nat) (v0:List UInt8) (v1:Int) (r:Int) (hF:F170 k v0 v1=some r):Sim Tryz.prog (GL0 μ) 170 [one (.str v0),one (.int .u8 v1)] [] (one (.int .i64 r)) []:=by
  obtain rfl:=zj_ hF
  refine ZaG fun w I G vs hs ha=>?_
  obtain ⟨vs,rfl,hb⟩:=ZbQ ha;clear ha;have ha:=hb;clear hb
  obtain ⟨vs,rfl,hb⟩:=Zi4 ha;clear ha;have ha:=hb;clear hb
  obtain rfl:=ZbP ha
  refine Calls.imp (Any.strings_IndexByte Tryz.lays137 ⟨v0.toArray⟩ v1 w) ?_
  rintro e w' ⟨rfl,rfl⟩
  exact ⟨_,rfl,fun _ _ _ _=>⟨_,rfl,.int _ _⟩,.refl _ _⟩
def F172 (k:Nat) (s:List UInt8):Option Int:=if s.length≤18 then Lib.atoi s else none
theorem ZqP (k:Nat) (v0:List UInt8) (r:Int) (hF:F172 k v0=some r):Sim Tryz.prog (GL0 μ) 172 [one (.str v0)] [] (.tup [(false,[.pv (.int .i64 r)]),(false,[.pv .nilif])]) []:=by
  obtain ⟨hl,hF⟩:=Zn hF
  refine ZaG fun w I G vs hs ha=>?_
  obtain ⟨vs,rfl,hb⟩:=ZbQ ha;clear ha;have ha:=hb;clear hb
  obtain rfl:=ZbP ha
  refine Calls.imp (Any.strconv_Atoi Tryz.lays172 ⟨v0.toArray⟩ r (by rw [Zb4];exact hl) hF w) ?_
  rintro e w' ⟨rfl,t,rfl⟩
  refine ⟨_,rfl,fun _ _ _ _=>⟨_,rfl,_,_,rfl,⟨_,rfl,.int _ _⟩,_,_,rfl,⟨_,rfl,.nilif⟩,rfl⟩,?_⟩
  exact Lib.bytesWorld_below _ _ _
end Go.Proofs.YthilboheomikjaaGreatDoor
end
section
namespace Go.Proofs
open Go.Shelf
def Tryz.laysM171_ren:Go.Shelf.Ren:=⟨fun | 171=>88 | 243=>114 | 246=>136 | 283=>165 | 284=>166 | 285=>167 | 286=>168 | 129=>134 | 317=>181 | 318=>182 | 319=>183 | 320=>184 | 337=>193 | 338=>194 | n=>n,fun | 3=>3 | 9=>9 | 2=>2 | 4=>4 | 171=>192 | 0=>0 | 53=>159 | 37=>51 | 5=>5 | 173=>194 | 212=>204 | 51=>170 | 20=>20 | 213=>205 | 46=>37 | 232=>216 | 233=>217 | n=>n,fun | 17=>3 | 18=>4 | 19=>5 | n=>n⟩
theorem Tryz.laysM171:Go.Proofs.LaysM.n171 Tryz.prog Tryz.laysM171_ren:={
  mixed:=by kernel_rfl
  f129:=Tryz.func134.trans (congrArg some (by kernel_rfl))
  f171:=Tryz.func88.trans (congrArg some (by kernel_rfl))
  f243:=Tryz.func114.trans (congrArg some (by kernel_rfl))
  f246:=Tryz.func136.trans (congrArg some (by kernel_rfl))
  f283:=Tryz.func165.trans (congrArg some (by kernel_rfl))
  f284:=Tryz.func166.trans (congrArg some (by kernel_rfl))
  f285:=Tryz.func167.trans (congrArg some (by kernel_rfl))
  f286:=Tryz.func168.trans (congrArg some (by kernel_rfl))
  f317:=Tryz.func181.trans (congrArg some (by kernel_rfl))
  f318:=Tryz.func182.trans (congrArg some (by kernel_rfl))
  f319:=Tryz.func183.trans (congrArg some (by kernel_rfl))
  f320:=Tryz.func184.trans (congrArg some (by kernel_rfl))
  f337:=Tryz.func193.trans (congrArg some (by kernel_rfl))
  f338:=Tryz.func194.trans (congrArg some (by kernel_rfl))
  t0:=Tryz.underlying0
  a0:=Tryz.isAgg0
  z0:=Tryz.sizeOf0
  v0:=Tryz.zeroValue0
  t2:=Tryz.underlying2
  a2:=Tryz.isAgg2
  z2:=Tryz.sizeOf2
  v2:=Tryz.zeroValue2
  t3:=Tryz.underlying3
  a3:=Tryz.isAgg3
  z3:=Tryz.sizeOf3
  v3:=Tryz.zeroValue3
  t4:=Tryz.underlying4
  a4:=Tryz.isAgg4
  z4:=Tryz.sizeOf4
  v4:=Tryz.zeroValue4
  t5:=Tryz.underlying5
  a5:=Tryz.isAgg5
  z5:=Tryz.sizeOf5
  v5:=Tryz.zeroValue5
  t9:=Tryz.underlying9
  a9:=Tryz.isAgg9
  z9:=Tryz.sizeOf9
  v9:=Tryz.zeroValue9
  t20:=Tryz.underlying20
  a20:=Tryz.isAgg20
  z20:=Tryz.sizeOf20
  v20:=Tryz.zeroValue20
  t37:=Tryz.underlying51
  a37:=Tryz.isAgg51
  z37:=Tryz.sizeOf51
  v37:=Tryz.zeroValue51
  t46:=Tryz.underlying37
  a46:=Tryz.isAgg37
  z46:=Tryz.sizeOf37
  v46:=Tryz.zeroValue37
  t51:=Tryz.underlying170
  a51:=Tryz.isAgg170
  z51:=Tryz.sizeOf170
  v51:=Tryz.zeroValue170
  t53:=Tryz.underlying159
  a53:=Tryz.isAgg159
  z53:=Tryz.sizeOf159
  v53:=Tryz.zeroValue159
  t171:=Tryz.underlying192
  a171:=Tryz.isAgg192
  z171:=Tryz.sizeOf192
  v171:=Tryz.zeroValue192
  t173:=Tryz.underlying194
  a173:=Tryz.isAgg194
  z173:=Tryz.sizeOf194
  v173:=Tryz.zeroValue194
  t212:=Tryz.underlying204
  a212:=Tryz.isAgg204
  z212:=Tryz.sizeOf204
  v212:=Tryz.zeroValue204
  t213:=Tryz.underlying205
  a213:=Tryz.isAgg205
  z213:=Tryz.sizeOf205
  t232:=Tryz.underlying216
  a232:=Tryz.isAgg216
  z232:=Tryz.sizeOf216
  v232:=Tryz.zeroValue216
  t233:=Tryz.underlying217
  a233:=Tryz.isAgg217
  z233:=Tryz.sizeOf217
  v233:=Tryz.zeroValue217
  g17:=by kernel_rfl
  g18:=by kernel_rfl
  g19:=by kernel_rfl
  i0:=by kernel_rfl
  i2:=by kernel_rfl
  i3:=by kernel_rfl
  i4:=by kernel_rfl
  i5:=by kernel_rfl
  i9:=by kernel_rfl
  i20:=by kernel_rfl
  i37:=by kernel_rfl
  i46:=by kernel_rfl
  i51:=by kernel_rfl
  i53:=by kernel_rfl
  i171:=by kernel_rfl
  i173:=by kernel_rfl
  i212:=by kernel_rfl
  i232:=by kernel_rfl
  i233:=by kernel_rfl
  m17:=by kernel_rfl
  m18:=by kernel_rfl
  m19:=by kernel_rfl }
def Tryz.laysM144_ren:Go.Shelf.Ren:=⟨fun | 144=>122 | 143=>157 | 219=>179 | 217=>185 | 225=>187 | 224=>186 | 267=>192 | 266=>195 | 314=>201 | n=>n,fun | 9=>9 | 4=>4 | 3=>3 | 5=>5 | 46=>37 | 146=>214 | 51=>170 | n=>n,fun | 1=>2 | n=>n⟩
theorem Tryz.laysM144:Go.Proofs.LaysM.n144 Tryz.prog Tryz.laysM144_ren:={
  mixed:=by kernel_rfl
  f143:=Tryz.func157.trans (congrArg some (by kernel_rfl))
  f144:=Tryz.func122.trans (congrArg some (by kernel_rfl))
  f217:=Tryz.func185.trans (congrArg some (by kernel_rfl))
  f219:=Tryz.func179.trans (congrArg some (by kernel_rfl))
  f224:=Tryz.func186.trans (congrArg some (by kernel_rfl))
  f225:=Tryz.func187.trans (congrArg some (by kernel_rfl))
  f266:=Tryz.func195.trans (congrArg some (by kernel_rfl))
  f267:=Tryz.func192.trans (congrArg some (by kernel_rfl))
  f314:=Tryz.func201.trans (congrArg some (by kernel_rfl))
  t3:=Tryz.underlying3
  a3:=Tryz.isAgg3
  z3:=Tryz.sizeOf3
  v3:=Tryz.zeroValue3
  t4:=Tryz.underlying4
  a4:=Tryz.isAgg4
  z4:=Tryz.sizeOf4
  v4:=Tryz.zeroValue4
  t5:=Tryz.underlying5
  a5:=Tryz.isAgg5
  z5:=Tryz.sizeOf5
  v5:=Tryz.zeroValue5
  t9:=Tryz.underlying9
  a9:=Tryz.isAgg9
  z9:=Tryz.sizeOf9
  v9:=Tryz.zeroValue9
  t46:=Tryz.underlying37
  a46:=Tryz.isAgg37
  z46:=Tryz.sizeOf37
  v46:=Tryz.zeroValue37
  t51:=Tryz.underlying170
  a51:=Tryz.isAgg170
  z51:=Tryz.sizeOf170
  v51:=Tryz.zeroValue170
  t146:=Tryz.underlying214
  a146:=Tryz.isAgg214
  z146:=Tryz.sizeOf214
  v146:=Tryz.zeroValue214
  g1:=by kernel_rfl
  i3:=by kernel_rfl
  i4:=by kernel_rfl
  i5:=by kernel_rfl
  i9:=by kernel_rfl
  i46:=by kernel_rfl
  i51:=by kernel_rfl
  i146:=by kernel_rfl
  m1:=by kernel_rfl
  s1_3:=fun w h=>Go.Proofs.cell_of_shapedOpen_int (zero:=#[.int .i64 0]) (t:=3) h (of_decide_eq_true (by kernel_rfl)) (by kernel_rfl) rfl (by kernel_rfl) (by kernel_rfl) Tryz.underlying3 }
def Tryz.lays156_ren:Go.Shelf.Ren:=⟨fun | 156=>82 | 165=>110 | 166=>87 | 169=>90 | 240=>113 | 241=>123 | 276=>135 | 277=>158 | n=>n,fun | 31=>55 | 9=>9 | 3=>3 | 4=>4 | 0=>0 | 20=>20 | 72=>128 | 76=>133 | 70=>126 | 37=>51 | 75=>132 | 127=>156 | 164=>172 | 5=>5 | 80=>136 | n=>n,fun | n=>n⟩
theorem Tryz.lays156:Go.Proofs.Lays.n156 Tryz.prog Tryz.lays156_ren:={
  mixed:=by kernel_rfl
  f156:=Tryz.func82.trans (congrArg some (by kernel_rfl))
  f165:=Tryz.func110.trans (congrArg some (by kernel_rfl))
  f166:=Tryz.func87.trans (congrArg some (by kernel_rfl))
  f169:=Tryz.func90.trans (congrArg some (by kernel_rfl))
  f240:=Tryz.func113.trans (congrArg some (by kernel_rfl))
  f241:=Tryz.func123.trans (congrArg some (by kernel_rfl))
  f276:=Tryz.func135.trans (congrArg some (by kernel_rfl))
  f277:=Tryz.func158.trans (congrArg some (by kernel_rfl))
  t0:=Tryz.underlying0
  a0:=Tryz.isAgg0
  z0:=Tryz.sizeOf0
  v0:=Tryz.zeroValue0
  t3:=Tryz.underlying3
  a3:=Tryz.isAgg3
  z3:=Tryz.sizeOf3
  v3:=Tryz.zeroValue3
  t4:=Tryz.underlying4
  a4:=Tryz.isAgg4
  z4:=Tryz.sizeOf4
  v4:=Tryz.zeroValue4
  t9:=Tryz.underlying9
  a9:=Tryz.isAgg9
  z9:=Tryz.sizeOf9
  v9:=Tryz.zeroValue9
  t20:=Tryz.underlying20
  a20:=Tryz.isAgg20
  z20:=Tryz.sizeOf20
  v20:=Tryz.zeroValue20
  t31:=Tryz.underlying55
  a31:=Tryz.isAgg55
  z31:=Tryz.sizeOf55
  v31:=Tryz.zeroValue55
  t37:=Tryz.underlying51
  a37:=Tryz.isAgg51
  z37:=Tryz.sizeOf51
  v37:=Tryz.zeroValue51
  t70:=Tryz.underlying126
  a70:=Tryz.isAgg126
  z70:=Tryz.sizeOf126
  v70:=Tryz.zeroValue126
  t72:=Tryz.underlying128
  a72:=Tryz.isAgg128
  z72:=Tryz.sizeOf128
  v72:=Tryz.zeroValue128
  t75:=Tryz.underlying132
  a75:=Tryz.isAgg132
  z75:=Tryz.sizeOf132
  v75:=Tryz.zeroValue132
  t76:=Tryz.underlying133
  a76:=Tryz.isAgg133
  z76:=Tryz.sizeOf133
  v76:=Tryz.zeroValue133
  t127:=Tryz.underlying156
  a127:=Tryz.isAgg156
  z127:=Tryz.sizeOf156
  v127:=Tryz.zeroValue156
  t164:=Tryz.underlying172
  a164:=Tryz.isAgg172
  z164:=Tryz.sizeOf172
  v164:=Tryz.zeroValue172 }
theorem Tryz.Builder_Extra_156:Builder.Extra Tryz.prog Tryz.lays156_ren:={
  sizeBuilder:=by kernel_rfl
  liesBuilder:=by kernel_rfl
  t5:=Tryz.underlying5
  a5:=Tryz.isAgg5
  z5:=Tryz.sizeOf5
  v5:=Tryz.zeroValue5
  infoByte:=by kernel_rfl
  cellsByte:=by kernel_rfl
  sizeByte:=by kernel_rfl
  neB5:=by decide }
end Go.Proofs
end
section
namespace Go.Proofs.YthilboheomikjaaGreatDoor
open Go.AL Go.RowKit Go.Shelf Go.Sort
variable {μ:Int}
set_option maxRecDepth 100000
theorem Zr3 {w:World} {I:Nat→Prop} {G:Nat→Option Nat} {os:Objs} (h:Sr (GL0 μ) w I G os):w.cell? ⟨2,0,none⟩=some (.int .i64 μ):=by
  obtain ⟨_,h2⟩:=h.gl 2 _ rfl
  obtain ⟨u,hu,hr⟩:=h2 0 _ rfl
  cases hr;exact hu
theorem Zr9 {w:World} {I:Nat→Prop} {G:Nat→Option Nat} {os:Objs} (h:Sr (GL0 μ) w I G os):∃E z,w.heap[3]?=some (.cells (Lib.pow10Tab.map fun z=>Value.int .u64 z).toArray E z):=by
  obtain ⟨_,h2⟩:=h.gl 3 _ rfl
  have h3:=h.ge 3 _ (Nat.le_refl _) rfl
  have hc:∀j,j<20→w.cell? ⟨3,j,none⟩=some (.int .u64 ((10 ^ j:Nat):Int)):=fun j hj=>by
    obtain ⟨u,hu,hr⟩:=h2 j (.int .u64 ((10 ^ j:Nat):Int)) (by rw [List.getElem?_map,List.getElem?_range hj];rfl)
    cases hr;exact hu
  have hn:w.cell? ⟨3,20,none⟩=none:=h3
  have h0:=hc 0 (by omega)
  unfold World.cell? at hc hn h0
  cases hh:w.heap[3]? with
  | none=>simp [hh] at h0
  | some o=>
    rw [hh] at h0
    cases o with
    | cells cs E z=>
      refine ⟨E,z,?_⟩
      congr 2
      refine Array.ext' (List.ext_getElem? fun j=>?_)
      rw [hh] at hn
      have hn':cs[20]?=none:=by simpa using hn
      have hsz:cs.size≤20:=by rw [Array.getElem?_eq_none_iff] at hn';exact hn'
      by_cases hj:j<20
      · have h:=hc j hj
        rw [hh] at h
        have h':cs[j]?=some (.int .u64 ((10 ^ j:Nat):Int)):=by simpa using h
        rw [Array.getElem?_toList,h',List.getElem?_map,Lib.pow10Tab,List.getElem?_map,List.getElem?_range hj]
        rfl
      · rw [Array.getElem?_toList,Array.getElem?_eq_none (by omega),List.getElem?_eq_none (by rw [List.length_map,Lib.pow10Tab_length];omega)]
    | _=>simp at h0
theorem ZnO {w:World} {k:Nat} {os:Array Go.Obj}:Below w.heap.size w (grow (w.drewN k) os):=
  ⟨rfl,rfl,rfl,by simp [grow,World.drewN],fun j hj=>by simp [grow,World.drewN,Array.getElem?_append_left hj]⟩
def F122 (k:Nat) (s t:List UInt8):Option Bool:=if s.length<4294967281 then some (Lib.contains s t) else none
theorem ZqC (k:Nat) (v0 v1:List UInt8) (r:Bool) (hF:F122 k v0 v1=some r):Sim Tryz.prog (GL0 μ) 122 [one (.str v0),one (.str v1)] [] (one (.bool r)) []:=by
  obtain ⟨hl,hF⟩:=Zn hF
  obtain rfl:=zj_ hF
  refine ZaG fun w I G vs hs ha=>?_
  obtain ⟨vs,rfl,hb⟩:=ZbQ ha;clear ha;have ha:=hb;clear hb
  obtain ⟨vs,rfl,hb⟩:=ZbQ ha;clear ha;have ha:=hb;clear hb
  obtain rfl:=ZbP ha
  refine Calls.imp (Any.strings_Contains { Tryz.laysM144 with } ⟨v0.toArray⟩ ⟨v1.toArray⟩ μ w hl (Zr3 hs)) ?_
  rintro e w' ⟨rfl,rfl⟩
  exact ⟨_,rfl,ZpD _,Below.refl _ _⟩
def F88 (k:Nat) (n:Int):Option (List UInt8):=if -9223372036854775808≤n∧n≤9223372036854775807 then some (Lib.itoa n) else none
theorem Zoy (k:Nat) (v0:Int) (r:List UInt8) (hF:F88 k v0=some r):Sim Tryz.prog (GL0 μ) 88 [one (.int .i64 v0)] [] (one (.str r)) []:=by
  obtain ⟨hl,hF⟩:=Zn hF
  obtain rfl:=zj_ hF
  refine ZaG fun w I G vs hs ha=>?_
  obtain ⟨vs,rfl,hb⟩:=Zi4 ha;clear ha;have ha:=hb;clear hb
  obtain rfl:=ZbP ha
  refine Calls.imp (Any.strconv_Itoa Tryz.laysM171 v0 hl.1 hl.2 w ?_) ?_
  · obtain ⟨E,z,h3⟩:=Zr9 hs
    unfold Lib.TabIs World.var?
    rw [show Tryz.prog.globalNamed _=some 3 from by kernel_rfl]
    simp only [zb_,h3]
  · rintro e w' ⟨rfl,k',os,rfl⟩
    exact ⟨_,rfl,fun _ _ _ _=>⟨_,rfl,.str _⟩,ZnO⟩
theorem Zsh {w:World} {I:Nat→Prop} {G:Nat→Option Nat} {sh:Sh} {els:List (List PV)} {l:List AT} {vs:List Value} (h:As w I G sh (one (.sl els) :: l) vs):∃v vs',vs=v :: vs'∧PVr w I (.sl els) v∧As w I G sh l vs':=by
  obtain ⟨v,vs',rfl,hv,hl⟩:=h
  exact ⟨v,vs',rfl,ZH hv,hl⟩
def F82 (k:Nat) (l:List (List UInt8)) (sep:List UInt8):Option (List UInt8):=if l.length≤140737488355328∧(Lib.join l sep).length≤140737488355328 then some (Lib.join l sep) else none
theorem Zox (k:Nat) (v0:List (List UInt8)) (v1:List UInt8) (r:List UInt8) (hF:F82 k v0 v1=some r):Sim Tryz.prog (GL0 μ) 82 [one (.sl (v0.map eStr)),one (.str v1)] [] (one (.str r)) []:=by
  obtain ⟨hl,hF⟩:=Zn hF
  obtain rfl:=zj_ hF
  refine ZaG fun w I G vs hs ha=>?_
  obtain ⟨v,vs,rfl,hv,hb⟩:=Zsh ha;clear ha;have ha:=hb;clear hb
  obtain ⟨vs,rfl,hb⟩:=ZbQ ha;clear ha;have ha:=hb;clear hb
  obtain rfl:=ZbP ha
  generalize hels:v0.map eStr=els at hv
  cases hv with
  | sl0 A c=>
    have h0:v0=[]:=List.map_eq_nil_iff.1 hels
    subst h0
    refine Calls.imp (Any.strings_Join_none Tryz.lays156 Tryz.Builder_Extra_156 A c ⟨v1.toArray⟩ w) ?_
    rintro e w' ⟨rfl,rfl⟩
    exact ⟨_,rfl,fun _ _ _ _=>⟨_,rfl,.str _⟩,Below.refl _ _⟩
  | sl els b o c s vals hI hc hs' hm h=>
    have hlen:els.length=v0.length:=by rw [←hels,List.length_map]
    have hcells:∀(j:Nat) x,(v0.map fun x=>(⟨x.toArray⟩:ByteArray))[j]?=some x→w.cell? ⟨b,o+j,none⟩=some (.string x):=fun j x hx=>by
      rw [List.getElem?_map] at hx
      cases hj:v0[j]? with
      | none=>rw [hj] at hx;cases hx
      | some y=>
        rw [hj] at hx;cases hx
        have he:els[j]?=some [.str y]:=by rw [←hels,List.getElem?_map,hj];rfl
        have h1:=hs' j _ he
        have h2:=hm j _ 0 (.str y) he rfl
        have h3:=h j _ 0 (.str y) he rfl
        have hs1:s=1:=h1.symm
        subst hs1
        rw [Nat.mul_one,Nat.add_zero] at h2
        generalize vals j 0=u at h2 h3
        cases h3
        exact h2
    have e1:((v0.map fun x=>(⟨x.toArray⟩:ByteArray)).map (·.data.toList))=v0:=by
      rw [List.map_map];exact List.map_id'' (fun x=>rfl) _
    have hj:=Any.strings_Join Tryz.lays156 Tryz.Builder_Extra_156 b o c (v0.map fun x=>(⟨x.toArray⟩:ByteArray)) ⟨v1.toArray⟩ w hcells (hs.lt b hI) (by rw [List.length_map];exact hl.1) (by rw [List.length_map];omega) (by rw [e1];exact hl.2)
    rw [e1,List.length_map,←hlen] at hj
    refine Calls.imp hj ?_
    rintro e w' ⟨rfl,hb⟩
    exact ⟨_,rfl,fun _ _ _ _=>⟨_,rfl,.str _⟩,hb⟩
end Go.Proofs.YthilboheomikjaaGreatDoor
end
section
namespace Go.Proofs.YthilboheomikjaaGreatDoor
open Go.AL Go.RowKit Go.Shelf Go.Lib Go.ChangeShapes Go.WideShapes Go.ChangeAt
variable {μ:Int}
set_option maxRecDepth 100000
theorem own:ownKnob Tryz.prog.godebug=none:=by kernel_rfl
theorem ZpK:Go.Pinned.utf8First=firstData:=by kernel_rfl
theorem ZoB:(Rows.laid_unicode_utf8_acceptRanges:DataW Unit)=acceptData:=by kernel_rfl
theorem u8x:U8Extra Tryz.prog Tryz.lays197_ren:=⟨by kernel_rfl,by kernel_rfl,by kernel_rfl,by kernel_rfl,by kernel_rfl,by kernel_rfl,by kernel_rfl⟩
theorem Zo7 {W:World} {n:String} (h:Lib.VarReads Tryz.prog W n Rows.laid_internal_strconv_uint64pow10) (hn:Tryz.prog.globalNamed n=some 3):∃E z,W.heap[3]?=some (.cells (Lib.pow10Tab.map fun z=>Value.int .u64 z).toArray E z):=by
  obtain ⟨g,t,cs,fuel,p,h1,h2,h3,h4⟩:=h
  obtain rfl:=zj_ (hn.symm.trans h1)
  obtain rfl:=zj_ ((show (Tryz.prog.globals[3]?).map (·.type)=some 204 by kernel_rfl).symm.trans h2)
  have e:(Rows.laid_internal_strconv_uint64pow10:DataW Unit)=Lib.tabData .u64 Lib.pow10Tab:=by kernel_rfl
  rw [e] at h4
  have hc:=Lib.cells_of_tab Tryz.underlying204 Tryz.underlying159 (by kernel_rfl) (by kernel_rfl) h4
  unfold World.var? at h3
  rw [hn,zb_] at h3
  split at h3
  · rename_i cs' E z hh
    obtain rfl:=zj_ h3
    refine ⟨E,z,?_⟩
    rw [hh,←hc]
  · cases h3
def Tabs (μ:Int) (W:World):Prop:=Lib.Utf8Tabs 0 1 W∧W.cell? ⟨2,0,none⟩=some (.int .i64 μ)∧∃E z,W.heap[3]?=some (.cells (Lib.pow10Tab.map fun z=>Value.int .u64 z).toArray E z)
theorem ZnV {H:Type} {enc:TypeId×Value→H} {C:Checked} {os:Os} {f:FuncId} {fn:Func} {s:ChangeSpec} {conds:List PathCond} {apart Zad handsOn again:Bool} {X:World→Array Value→Prop}
    (hX:∀(w w':World) (args:Array Value),w.heap=w'.heap→X w args→X w' args) (own:ownKnob C.prog.godebug=none) (started:os.Started) (noInit:C.prog.inits.idxOf? f=none) (hfn:C.prog.funcs[f]?=some fn)
    (witness:∃(w:World) (tape:Tape) (i:Input),w.os=os∧(w.forCall tape i).Shaped C.prog∧i.vars=[]∧Input.okWide C.prog (w.forCall tape i) .any w.heap.size f i∧
      ((s.pre enc C.prog fn conds apart (w.forCall tape i).memory i.args∧X (w.forCall tape i).memory i.args)∧sizedMet enc C.prog fn (OpenSpec.ofChange s) apart (w.forCall tape i).memory i.args)∧Assume.holds {} C.prog (lone (Frame.enter C.prog f i.args .normal) [] (w.forCall tape i)))
    (contract:∀(W:World) (base:Nat) (args:Array Value) (ds gs:List (DataW H)) (before:List MemPlace),W.ShapedOpen C.prog→
      (∀(j:Nat) t v,fn.params[j]?=some t→args[j]?=some v→Value.okWide C.prog W .any base t v)→DataW.Whole enc C.prog fn.params.toList s.vars apart W args.toList ds gs before→
      (DataW.weightsEach C.prog (fn.params.toList ++ s.plain.varTypes C.prog) (ds ++ gs)).all (·≤reachBytes)=true→X W args→
      Calls C.prog f args W fun e W'=>∃v,e = .returned v∧s.post enc C.prog fn apart Zad handsOn again W args v W') :
    ReturnsInHanded {} C os f .any (fun w args=>(s.pre enc C.prog fn conds apart w args∧X w args)∧sizedMet enc C.prog fn (OpenSpec.ofChange s) apart w args) (s.post enc C.prog fn apart Zad handsOn again):=by
  refine returnsInHanded_of_calls own started noInit witness fun w tape i _ hsh _ hok hpre _=>?_
  obtain ⟨_,_,_,fn',hfn',_,_,_,_,hval⟩:=hok
  obtain rfl:fn'=fn:=zj_ (hfn'.symm.trans hfn)
  obtain ⟨⟨⟨ds,gs,before,hw,_⟩,hx⟩,hz⟩:=hpre
  refine (contract (w.forCall tape i) w.heap.size i.args ds gs before hsh hval (DataW.Whole.of_heap (w':=w.forCall tape i) (by rfl) hw) (hz.weights hw) (hX _ _ _ (by rfl) hx)).mono fun e W' ⟨v,he,hp⟩=>?_
  subst he
  exact ChangeSpec.post_blind hp
theorem Zn9 {W:World} (hT:Tabs μ W):Sr (GL0 μ) W (fun k=>k<4) (fun _=>none) []:=by
  obtain ⟨h,hm,E,z,hpw⟩:=hT
  have hb:∀{b o:Nat} {v:Value},W.cell? ⟨b,o,none⟩=some v→b<W.heap.size:=fun {b o v} h=>by
    simp only [World.cell?] at h
    cases hq:W.heap[b]? with
    | none=>rw [hq] at h;cases h
    | some x=>exact (Array.getElem?_eq_some_iff.1 hq).1
  refine ⟨fun g ps hg=>?_,(fun id o h1=>by cases h1),(fun id o b h1=>by cases h1),(fun id id' o o' b h1=>by cases h1),fun k hk=>?_,fun g ps h3 hg=>?_⟩
  · match g,hg with
    | 0,hg=>
      cases hg
      refine ⟨by omega,fun j p hp=>?_⟩
      simp only [List.getElem?_map] at hp
      have hj:j<256:=by
        rcases Nat.lt_or_ge j 256 with h | h
        · exact h
        · rw [List.getElem?_eq_none (by simpa using h)] at hp;cases hp
      rw [List.getElem?_range hj] at hp
      cases hp
      exact ⟨_,h.1 j hj,.int _ _⟩
    | 1,hg=>
      cases hg
      refine ⟨by omega,fun j p hp=>?_⟩
      simp only [List.getElem?_map] at hp
      have hj:j<32:=by
        rcases Nat.lt_or_ge j 32 with h | h
        · exact h
        · rw [List.getElem?_eq_none (by simpa using h)] at hp;cases hp
      rw [List.getElem?_range hj] at hp
      cases hp
      obtain ⟨h1,h2⟩:=h.2 (j / 2) (by omega)
      rcases Nat.mod_two_eq_zero_or_one j with e | e
      · show ∃u,_∧PVr _ _ (PV.int IntKind.u8 (if j % 2=0 then _ else _)) u
        rw [if_pos e]
        have:2*(j / 2)=j:=by omega
        rw [this] at h1
        exact ⟨_,h1,.int _ _⟩
      · show ∃u,_∧PVr _ _ (PV.int IntKind.u8 (if j % 2=0 then _ else _)) u
        rw [if_neg (by omega)]
        have:2*(j / 2)+1=j:=by omega
        rw [this] at h2
        exact ⟨_,h2,.int _ _⟩
    | 2,hg=>
      cases hg
      refine ⟨by omega,fun j p hp=>?_⟩
      match j,hp with
      | 0,hp=>cases hp;exact ⟨_,hm,.int _ _⟩
      | j+1,hp=>simp at hp
    | 3,hg=>
      cases hg
      refine ⟨by omega,fun j p hp=>?_⟩
      simp only [List.getElem?_map] at hp
      have hj:j<20:=by
        rcases Nat.lt_or_ge j 20 with h | h
        · exact h
        · rw [List.getElem?_eq_none (by simpa using h)] at hp;cases hp
      rw [List.getElem?_range hj] at hp
      cases hp
      refine ⟨_,?_,.int _ _⟩
      simp only [World.cell?,hpw]
      simp [Lib.pow10Tab,List.getElem?_range hj]
    | g+4,hg=>cases hg
  · have:k=0∨k=1∨k=2∨k=3:=by omega
    rcases this with rfl | rfl | rfl | rfl
    · exact hb (h.1 0 (by omega))
    · exact hb (h.2 0 (by omega)).1
    · exact hb hm
    · exact (Array.getElem?_eq_some_iff.1 hpw).1
  · match g,hg with
    | 3,hg=>
      cases hg
      simp only [World.cell?,hpw]
      simp [Lib.pow10Tab]
    | g+4,hg=>cases hg
    | 0,_=>omega
    | 1,_=>omega
    | 2,_=>omega
theorem ZmJ {f:FuncId} {args:List AT} {vs:List Value} {W:World} {I:Nat→Prop} (h:Sim Tryz.prog (GL0 μ) f args [] (one (.bool true)) []) (hs:Sr (GL0 μ) W I (fun _=>none) []) (ha:As W I (fun _=>none) (Go.AL.shape []) args vs) :
    Calls Tryz.prog f ⟨vs⟩ W fun e w'=>e = .returned (.bool true)∧Below W.heap.size W w':=by
  refine Calls.imp (h W I (fun _=>none) vs hs ha) ?_
  rintro e w' ⟨v,I',G',rfl,h1,h2,h3,h4⟩
  have hb:v = .bool true:=by
    obtain ⟨c,e,hr⟩:=h3;cases e;cases hr;rfl
  subst hb
  exact ⟨rfl,h1.os,h1.tape,h1.output,h1.size,fun k hk=>h1.keep k hk fun ⟨id,o,q,_⟩=>by cases q⟩
end Go.Proofs.YthilboheomikjaaGreatDoor
end
section
namespace Go.AL
variable {P:Program} {GL:List (Nat×List PV)} {C:Spec} {st:S} {N:Nat} {F:Exit→S→Prop}
theorem zl:type_of% (And.intro @List.length_map.{0,0} <| And.intro @List.length_append.{0} <| And.intro @List.length_cons.{0} <| And.intro @List.length_nil.{0} <| And.intro @List.length_set.{0} <| And.intro @List.length_replicate.{0} <| And.intro @List.length_take.{0} @List.length_drop.{0}):=And.intro @List.length_map.{0,0} <| And.intro @List.length_append.{0} <| And.intro @List.length_cons.{0} <| And.intro @List.length_nil.{0} <| And.intro @List.length_set.{0} <| And.intro @List.length_replicate.{0} <| And.intro @List.length_take.{0} @List.length_drop.{0}
theorem zr:type_of% (And.intro @Znl <| And.intro @Zj3 <| And.intro @Zih <| And.intro @Zh0 <| And.intro @Zkh @Zny):=And.intro @Znl <| And.intro @Zj3 <| And.intro @Zih <| And.intro @Zh0 <| And.intro @Zkh @Zny
theorem zq:type_of% (And.intro @List.map_append.{0,0} <| And.intro @List.map_cons.{0,0} <| And.intro @List.map_nil.{0,0} <| And.intro @List.map_take.{0,0} <| And.intro @List.map_drop.{0,0} <| And.intro @List.map_set.{0,0} <| And.intro @List.map_replicate.{0,0} @List.length_map.{0,0}):=And.intro @List.map_append.{0,0} <| And.intro @List.map_cons.{0,0} <| And.intro @List.map_nil.{0,0} <| And.intro @List.map_take.{0,0} <| And.intro @List.map_drop.{0,0} <| And.intro @List.map_set.{0,0} <| And.intro @List.map_replicate.{0,0} @List.length_map.{0,0}
theorem WA.rm {α:Type} {raw can:α} (T:α→List (Nat×AT)×Objs×List Prop) (hm:raw=can) {id:Nat} {l:List Oper} (ts ids:List Nat) (hs_:List (Nat×Hint))
    (he:(ZW P GL C N l hs_ 0 l st).map (fun p=>(ZI p.1.env ts,ZI p.1.os ids,p.2))=some (T raw)) (hC:ZaY P GL C) (hO:All (T can).2.2) (h:F .normal ⟨(T can).1,(T can).2.1⟩) :
    WA P GL N (.region id l.toArray false) st F:=WA.regM T hm ts ids hs_ he rfl hC hO h
theorem WA.rdm {α:Type} {raw can:α} (T:α→List (Nat×AT)×Objs×List Prop) (hm:raw=can) {id:Nat} {l:List Oper} (ts ids:List Nat) (hs_:List (Nat×Hint))
    (hmx:P.follows .mixedOrders=true) (hd:ZcO GL l hs_ (ZaV P GL C N l hs_ 0 l st) st=true)
    (he:(ZW P GL C N l hs_ 0 l st).map (fun p=>(ZI p.1.env ts,ZI p.1.os ids,p.2))=some (T raw)) (hC:ZaY P GL C) (hO:All (T can).2.2) (h:F .normal ⟨(T can).1,(T can).2.1⟩) :
    WA P GL N (.region id l.toArray true) st F:=WA.regDM T hm ts ids hs_ hmx hd he rfl hC hO h
theorem kr {p:Prop} (h:p:=by kernel_rfl):p:=h
end Go.AL
end
section
namespace Go.Proofs.YthilboheomikjaaGreatDoor
open Go.AL Go.RowKit
variable {μ:Int}
abbrev oi (x:Int):AT:=one (.int .i64 x)
abbrev ob (x:Bool):AT:=one (.bool x)
abbrev pt (i:Nat):AT:=.val false [.ptr i 1 0 0]
abbrev ar (i n:Nat):AT:=.val false [.arr i n]
abbrev bx (l:List PV):Go.AL.Obj:=.box (pvL l)
abbrev tv (l:List PV):AT:=.val true (pvL l)
abbrev SM (μ:Int):=Sim Tryz.prog (GL0 μ)
variable {N id:Nat} {l:List Oper} {st:S} {F:Exit→S→Prop} {y:Code}
theorem nd {p:Prop} [Decidable p] (h:p:=by decide):p:=h
theorem Wr (H:List (Nat×Hint)) (E:List (Nat×AT)) (Q:Objs) (h:F .normal ⟨E,Q⟩)
    (he:(ZW Tryz.prog (GL0 μ) (Sim Tryz.prog (GL0 μ)) N l H 0 l st).map (fun p=>(ZI p.1.env (E.map Prod.fst),ZI p.1.os (Q.map Prod.fst),p.2))=some (E,Q,[]):=by kernel_rfl) :
    WA Tryz.prog (GL0 μ) N (.region id l.toArray false) st F:=WA.reg _ _ H he (sound _ _) trivial h
theorem Ws (H:List (Nat×Hint)) (E:List (Nat×AT)) (Q:Objs) (h:WA Tryz.prog (GL0 μ) N y ⟨E,Q⟩ F)
    (he:(ZW Tryz.prog (GL0 μ) (Sim Tryz.prog (GL0 μ)) N l H 0 l st).map (fun p=>(ZI p.1.env (E.map Prod.fst),ZI p.1.os (Q.map Prod.fst),p.2))=some (E,Q,[]):=by kernel_rfl) :
    WA Tryz.prog (GL0 μ) N (.seq (.region id l.toArray false) y) st F:=WA.seq (Wr H E Q h he)
theorem Wo (H:List (Nat×Hint)) (E:List (Nat×AT)) (Q:Objs) (O:List Prop) (hO:All O) (h:F .normal ⟨E,Q⟩)
    (he:(ZW Tryz.prog (GL0 μ) (Sim Tryz.prog (GL0 μ)) N l H 0 l st).map (fun p=>(ZI p.1.env (E.map Prod.fst),ZI p.1.os (Q.map Prod.fst),p.2))=some (E,Q,O):=by kernel_rfl) :
    WA Tryz.prog (GL0 μ) N (.region id l.toArray false) st F:=WA.reg _ _ H he (sound _ _) hO h
theorem Wos (H:List (Nat×Hint)) (E:List (Nat×AT)) (Q:Objs) (O:List Prop) (hO:All O) (h:WA Tryz.prog (GL0 μ) N y ⟨E,Q⟩ F)
    (he:(ZW Tryz.prog (GL0 μ) (Sim Tryz.prog (GL0 μ)) N l H 0 l st).map (fun p=>(ZI p.1.env (E.map Prod.fst),ZI p.1.os (Q.map Prod.fst),p.2))=some (E,Q,O):=by kernel_rfl) :
    WA Tryz.prog (GL0 μ) N (.seq (.region id l.toArray false) y) st F:=WA.seq (Wo H E Q O hO h he)
theorem mixd:Tryz.prog.follows .mixedOrders=true:=by kernel_rfl
theorem Wd (H:List (Nat×Hint)) (E:List (Nat×AT)) (Q:Objs) (O:List Prop) (hO:All O) (h:F .normal ⟨E,Q⟩)
    (hd:ZcO (GL0 μ) l H (ZaV Tryz.prog (GL0 μ) (Sim Tryz.prog (GL0 μ)) N l H 0 l st) st=true:=by kernel_rfl)
    (he:(ZW Tryz.prog (GL0 μ) (Sim Tryz.prog (GL0 μ)) N l H 0 l st).map (fun p=>(ZI p.1.env (E.map Prod.fst),ZI p.1.os (Q.map Prod.fst),p.2))=some (E,Q,O):=by kernel_rfl) :
    WA Tryz.prog (GL0 μ) N (.region id l.toArray true) st F:=WA.regD mixd _ _ H hd he (sound _ _) hO h
theorem Wm {α:Type} (raw can:α) (T:α→List (Nat×AT)×Objs×List Prop) (hm:raw=can) (H:List (Nat×Hint)) (hO:All (T can).2.2) (h:F .normal ⟨(T can).1,(T can).2.1⟩)
    (he:(ZW Tryz.prog (GL0 μ) (Sim Tryz.prog (GL0 μ)) N l H 0 l st).map (fun p=>(ZI p.1.env ((T raw).1.map Prod.fst),ZI p.1.os ((T raw).2.1.map Prod.fst),p.2))=some (T raw):=by kernel_rfl) :
    WA Tryz.prog (GL0 μ) N (.region id l.toArray false) st F:=WA.rm T hm _ _ H he (sound _ _) hO h
theorem Wdm {α:Type} (raw can:α) (T:α→List (Nat×AT)×Objs×List Prop) (hm:raw=can) (H:List (Nat×Hint)) (hO:All (T can).2.2) (h:F .normal ⟨(T can).1,(T can).2.1⟩)
    (hd:ZcO (GL0 μ) l H (ZaV Tryz.prog (GL0 μ) (Sim Tryz.prog (GL0 μ)) N l H 0 l st) st=true:=by kernel_rfl)
    (he:(ZW Tryz.prog (GL0 μ) (Sim Tryz.prog (GL0 μ)) N l H 0 l st).map (fun p=>(ZI p.1.env ((T raw).1.map Prod.fst),ZI p.1.os ((T raw).2.1.map Prod.fst),p.2))=some (T raw):=by kernel_rfl) :
    WA Tryz.prog (GL0 μ) N (.region id l.toArray true) st F:=WA.rdm T hm _ _ H mixd hd he (sound _ _) hO h
def J (s:S) (E:List (Nat×AT)) (Q:Objs):Prop:=ZI s.env (E.map Prod.fst)=E∧ZI s.os (Q.map Prod.fst)=Q
theorem jk {s:S} {E:List (Nat×AT)} {Q:Objs} (h1:ZI s.env (E.map Prod.fst)=E:=by kernel_rfl) (h2:ZI s.os (Q.map Prod.fst)=Q:=by kernel_rfl):J s E Q:=⟨h1,h2⟩
theorem Wj {E:List (Nat×AT)} {Q:Objs} (hj:J st E Q) (h:WA Tryz.prog (GL0 μ) N y ⟨E,Q⟩ F):WA Tryz.prog (GL0 μ) N y st F:=WA.keep _ _ hj.1 hj.2 h
theorem Wk (E:List (Nat×AT)) (Q:Objs) (h:WA Tryz.prog (GL0 μ) N y ⟨E,Q⟩ F) (hj:J st E Q:=by exact jk):WA Tryz.prog (GL0 μ) N y st F:=WA.keep _ _ hj.1 hj.2 h
end Go.Proofs.YthilboheomikjaaGreatDoor
end
section
namespace Go.Proofs.YthilboheomikjaaGreatDoor
open Go.AL
variable {μ:Int}
set_option maxRecDepth 100000
structure Zb where
  f_Lo:Int
  f_Hi:Int
def Za (x:Zb):List PV:=[.int .i64 x.f_Lo,.int .i64 x.f_Hi]
theorem ZT (l:List Zb):∀es,es∈l.map Za→es.length=2:=fun es h=>by obtain ⟨y,_,rfl⟩:=List.mem_map.1 h;rfl
structure Zd where
  f_Kind:Int
  f_Set:List Zb
  f_L:List Zd
  f_Min:Int
  f_Max:Int
mutual
def Zd1:Zd→List PV
  | ⟨x0,x1,x2,x3,x4⟩=>[.int .i64 x0,.sl (x1.map Za),.sl (Zm x2),.int .i64 x3,.int .i64 x4]
def Zm:List Zd→List (List PV)
  | []=>[]
  | x :: l=>Zd1 x :: Zm l
end
def Zc (x:Zd):List PV:=[.int .i64 x.f_Kind,.sl (x.f_Set.map Za),.sl (Zm x.f_L),.int .i64 x.f_Min,.int .i64 x.f_Max]
theorem Zah (x:Zd):Zd1 x=Zc x:=by cases x;simp [Zd1,Zc]
theorem Zaa (l:List Zd):Zm l=l.map Zc:=by induction l with | nil=>rfl | cons x l ih=>simp [Zm,ih,Zah]
theorem ZO {l:List Zd} {i:Int} {x:Zd} (h:idxL l i=some x):idxL (Zm l) i=some (Zc x):=by rw [Zaa];exact Zs _ h
theorem Zi (l:List Zd):(Zm l).length=l.length:=by rw [Zaa,List.length_map]
theorem Zi3 (a b:List Zd):Zm a ++ Zm b=Zm (a ++ b):=by simp only [Zaa,Zah];exact Zj3 ..
theorem ZhS (l:List Zd) (n:Nat):(Zm l).take n=Zm (l.take n):=by simp only [Zaa,Zah];exact Zih ..
theorem ZhG (l:List Zd) (n:Nat):(Zm l).drop n=Zm (l.drop n):=by simp only [Zaa,Zah];exact Zh0 ..
theorem ZjA (l:List Zd) (i:Nat) (x:Zd):(Zm l).set i (Zd1 x)=Zm (l.set i x):=by simp only [Zaa,Zah];exact Zkh ..
theorem Zd8:type_of% (And.intro @Zi <| And.intro @Zi3 <| And.intro @ZhS <| And.intro @ZhG <| And.intro @ZjA @Zah):=And.intro @Zi <| And.intro @Zi3 <| And.intro @ZhS <| And.intro @ZhG <| And.intro @ZjA @Zah
theorem ZbA:type_of% (And.intro @Zaa @Zah):=And.intro @Zaa @Zah
theorem zt {p:Prop} (h:p:=by first | omega | (simp only [zl,Zi];done) | (simp only [zl,Zi];omega) | (simp only [zl,Zi] at *;omega)):p:=h
theorem zm {p:Prop} (h:p:=by first | (simp only [zr,Zd8,Zm];done) | (simp only [zq,ZbA];done)):p:=h
theorem Zcj (l:List Zd):∀es,es∈Zm l→es.length=5:=fun es h=>by rw [Zaa] at h;obtain ⟨y,_,rfl⟩:=List.mem_map.1 h;rfl
def ZeV (a:Bool):Option Bool:=
  some a
def F67 (k:Nat) (v0:Int):Option Bool:=
  (cond (decide (v0≥0)) (cond (decide (v0≤1114111)) (cond (decide (v0<55296)) ((ZeV true)) ((ZeV (decide (v0 > 57343))))) ((ZeV false))) ((ZeV false)))
theorem Zay (k:Nat) (v0:Int) (r:Bool) (b:F67 k v0=some r):SM μ 67 [oi v0] [] (ob r) []:=by
 refine Zz [] Tryz.func67 rfl kr kr ?_
 show WA _ _ 17 _ _ _
 refine Ws [] [(0,oi v0)] [] ?_
 refine WA.join (fun g=>∃(e:Bool),J g [(2,ob e)] []∧ZeV e=some r) ?_ ?_
 {
 rintro g ⟨e,f,b⟩
 refine Wj f ?_
 clear f
 refine WA.ret ?_
 obtain rfl:=zj_ b
 exact Zo (ob e) [] kr kr kr kr nd rfl rfl }
 {
 rcases zo_ (decide (v0≥0)) with a | a
 {
 have b:=Zk b a
 rcases zo_ (decide (v0≤1114111)) with c | c
 {
 have b:=Zk b c
 rcases zo_ (decide (v0<55296)) with d | d
 {
 have b:=Zk b d
 refine Wo [(2,.bool true),(6,.bool true),(9,.bool true)] [(2,ob true)] [] [(decide (v0≥0))=true,(decide (v0≤1114111))=true,(decide (v0<55296))=true] ⟨a,c,d,trivial⟩ ?_
 exact ⟨true,jk,b⟩ }
 {
 have b:=Zj b d
 refine Wo [(2,.bool true),(6,.bool true),(9,.bool false)] [(2,ob (decide (v0 > 57343)))] [] [(decide (v0≥0))=true,(decide (v0≤1114111))=true,(decide (v0<55296))=false] ⟨a,c,d,trivial⟩ ?_
 exact ⟨(decide (v0 > 57343)),jk,b⟩ } }
 {
 have b:=Zj b c
 refine Wo [(2,.bool true),(6,.bool false)] [(2,ob false)] [] [(decide (v0≥0))=true,(decide (v0≤1114111))=false] ⟨a,c,trivial⟩ ?_
 exact ⟨false,jk,b⟩ } }
 {
 have b:=Zj b a
 refine Wo [(2,.bool false)] [(2,ob false)] [] [(decide (v0≥0))=false] ⟨a,trivial⟩ ?_
 exact ⟨false,jk,b⟩ } }
def ZiD (a:Int) (b:Int) (c:Bool):Option (Int×Int):=
  cond c ((some ((-1),1))) (((some (b,a))))
def ZeN (k:Nat) (d:Int→Int→Option (Int×Int)) (v0:List UInt8) (v1:Int) (c:Int) (e:Int) (a:Int) (b:Int):Option (Int×Int):=
  (cond (decide (b<c)) ((idxL v0 (w64 (v1+b))).bind fun f=>(cond ((ZB .and .u8 (f.toNat:Int) 192) != 128) ((some ((-1),1))) ((idxL v0 (w64 (v1+b))).bind fun g=>(d (w64 ((w64 (a*64))+(w64 (ZB .and .u8 (g.toNat:Int) 63)))) (w64 (b+1)))))) ((cond (decide (a<e)) ((ZiD c a true)) ((F67 k a).bind fun h=>(ZiD c a (!h))))))
def ZcH (k:Nat) (v0:List UInt8) (v1:Int) (a:Int) (b:Int):Nat→Int→Int→Option (Int×Int)
  | 0,_,_=>none
  | e+1,c,d=>ZeN k (ZcH k v0 v1 a b e) v0 v1 a b c d
def Zbt (k:Nat) (v0:List UInt8) (v1:Int) (b:Int) (a:Int) (c:Int):Option (Int×Int):=
  (cond (decide ((w64 (v1+a)) > (v0.length:Int))) ((some ((-1),1))) (((ZcH k v0 v1 a c k b 1))))
def ZiC (k:Nat) (v0:List UInt8) (v1:Int) (b:UInt8) (a:Bool):Option (Int×Int):=
  cond a ((Zbt k v0 v1 (ZB .and .i64 (w64 (b.toNat:Int)) 7) 4 65536)) ((some ((-1),1)))
def ZiB (k:Nat) (v0:List UInt8) (v1:Int) (a:UInt8) (b:Bool):Option (Int×Int):=
  cond b ((Zbt k v0 v1 (ZB .and .i64 (w64 (a.toNat:Int)) 15) 3 2048)) (cond (decide ((w64 (a.toNat:Int))≥240)) ((ZiC k v0 v1 a (decide ((w64 (a.toNat:Int))<248)))) ((ZiC k v0 v1 a false)))
def ZiA (k:Nat) (v0:List UInt8) (v1:Int) (a:UInt8) (b:Bool):Option (Int×Int):=
  cond b ((Zbt k v0 v1 (ZB .and .i64 (w64 (a.toNat:Int)) 31) 2 128)) (cond (decide ((w64 (a.toNat:Int))≥224)) ((ZiB k v0 v1 a (decide ((w64 (a.toNat:Int))<240)))) ((ZiB k v0 v1 a false)))
def Zf1 (k:Nat) (v0:List UInt8) (v1:Int) (b:Bool):Option (Int×Int):=
  cond b ((some (0,0))) ((idxL v0 v1).bind fun a=>(((cond (decide ((w64 (a.toNat:Int))<128)) ((some ((w64 (a.toNat:Int)),1))) (cond (decide ((w64 (a.toNat:Int))≥192)) ((ZiA k v0 v1 a (decide ((w64 (a.toNat:Int))<224)))) ((ZiA k v0 v1 a false)))))))
def F46 (k:Nat) (v0:List UInt8) (v1:Int):Option (Int×Int):=
  (cond (decide (v1<0)) ((Zf1 k v0 v1 true)) ((Zf1 k v0 v1 (decide (v1≥(v0.length:Int))))))
theorem Zlm (k:Nat) (v0:List UInt8) (v1:Int) (r:Int×Int) (a:F46 k v0 v1=some r):SM μ 46 [one (.str v0),oi v1] [] (.tup [(false,[.pv (.int .i64 r.1)]),(false,[.pv (.int .i64 r.2)])]) []:=by
 refine Zz [] Tryz.func46 rfl kr kr ?_
 show WA _ _ 91 _ _ _
 refine Ws [] [(0,one (.str v0)),(1,oi v1)] [] ?_
 refine WA.seq ?_
 refine WA.join (fun j=>∃(a3:Bool),J j [(0,one (.str v0)),(1,oi v1),(17,ob a3)] []∧Zf1 k v0 v1 a3=some r) ?_ ?_
 {
 rintro j ⟨a3,i,a⟩
 refine Wj i ?_
 clear i
 refine WA.cond (b:=a3) rfl (fun u=>?_) (fun u=>?_)
 {
 have a:=Zk a u
 refine Ws [] [(4,oi 0),(5,oi 0)] [] ?_
 refine WA.ret ?_
 obtain rfl:=zj_ a
 exact Zo (.tup [(false,[.pv (.int .i64 0)]),(false,[.pv (.int .i64 0)])]) [] kr kr kr kr nd rfl rfl }
 {
 have a:=Zj a u
 refine WA.skip ?_
 obtain ⟨c,b1,a⟩:=Zh a
 refine Wos [(2,.num (c.toNat:Int))] [(0,one (.str v0)),(1,oi v1),(6,oi (w64 (c.toNat:Int)))] [] [(idxL v0 v1).map (fun b=>(b.toNat:Int))=some (c.toNat:Int)] ⟨(by rw [b1];rfl),trivial⟩ ?_
 refine Ws [] [(0,one (.str v0)),(1,oi v1),(6,oi (w64 (c.toNat:Int)))] [] ?_
 refine WA.join (fun j=>∃(s:Int) (d:Int) (f:Int),J j [(0,one (.str v0)),(1,oi v1),(6,oi s),(7,oi d),(8,oi f)] []∧Zbt k v0 v1 s d f=some r) ?_ ?_
 {
 rintro j ⟨s,d,f,i,a⟩
 refine Wj i ?_
 clear i
 refine WA.seq ?_
 refine Ws [] [(0,one (.str v0)),(1,oi v1),(6,oi s),(7,oi d),(8,oi f),(58,ob (decide ((w64 (v1+d)) > (v0.length:Int))))] [] ?_
 refine WA.cond (b:=(decide ((w64 (v1+d)) > (v0.length:Int)))) rfl (fun z=>?_) (fun z=>?_)
 {
 have a:=Zk a z
 refine Ws [] [(4,oi (-1)),(5,oi 1)] [] ?_
 refine WA.ret ?_
 obtain rfl:=zj_ a
 exact Zo (.tup [(false,[.pv (.int .i64 (-1))]),(false,[.pv (.int .i64 1)])]) [] kr kr kr kr nd rfl rfl }
 {
 have a:=Zj a z
 refine WA.skip ?_
 refine WA.seq ?_
 refine Ws [] [(0,one (.str v0)),(1,oi v1),(6,oi s),(7,oi d),(8,oi f),(9,oi 1)] [] ?_
 refine WA.block ?_
 refine WA.loop (fun m j=>∃(e:Int) (h:Int),J j [(0,one (.str v0)),(1,oi v1),(6,oi e),(7,oi d),(8,oi f),(9,oi h)] []∧ZcH k v0 v1 d f m e h=some r) k ⟨s,1,jk,a⟩ ?_
 clear a
 rintro m5 j ⟨e,h,i,a⟩
 refine Wj i ?_
 clear i
 cases m5 with
 | zero=>cases a
 | succ m5=>
  obtain ⟨b5,b0⟩:∃g,g=ZcH k v0 v1 d f m5:=⟨_,rfl⟩
  have a:ZeN k b5 v0 v1 d f e h=some r:=by first | (rw [b0];exact a) | exact a
  refine WA.seq ?_
  refine Ws [] [(0,one (.str v0)),(1,oi v1),(6,oi e),(7,oi d),(8,oi f),(9,oi h),(61,ob (decide (h<d)))] [] ?_
  refine WA.cond (b:=(decide (h<d))) rfl (fun a0=>?_) (fun a0=>?_)
  {
 have a:=Zk a a0
 refine WA.skip ?_
 refine WA.seq ?_
 refine WA.block ?_
 refine WA.seq ?_
 obtain ⟨a8,b2,a⟩:=Zh a
 refine Wos [(4,.num (a8.toNat:Int))] [(0,one (.str v0)),(1,oi v1),(6,oi e),(7,oi d),(8,oi f),(9,oi h),(70,ob ((ZB .and .u8 (a8.toNat:Int) 192) != 128))] [] [(idxL v0 (w64 (v1+h))).map (fun b=>(b.toNat:Int))=some (a8.toNat:Int)] ⟨(by rw [b2];rfl),trivial⟩ ?_
 refine WA.cond (b:=((ZB .and .u8 (a8.toNat:Int) 192) != 128)) rfl (fun a1=>?_) (fun a1=>?_)
 {
 have a:=Zk a a1
 refine Ws [] [(4,oi (-1)),(5,oi 1)] [] ?_
 refine WA.ret ?_
 obtain rfl:=zj_ a
 exact Zo (.tup [(false,[.pv (.int .i64 (-1))]),(false,[.pv (.int .i64 1)])]) [] kr kr kr kr nd rfl rfl }
 {
 have a:=Zj a a1
 refine WA.skip ?_
 obtain ⟨t,b3,a⟩:=Zh a
 refine Wo [(6,.num (t.toNat:Int))] [(0,one (.str v0)),(1,oi v1),(6,oi (w64 ((w64 (e*64))+(w64 (ZB .and .u8 (t.toNat:Int) 63))))),(7,oi d),(8,oi f),(9,oi h)] [] [(idxL v0 (w64 (v1+h))).map (fun b=>(b.toNat:Int))=some (t.toNat:Int)] ⟨(by rw [b3];rfl),trivial⟩ ?_
 refine Wr [] [(0,one (.str v0)),(1,oi v1),(6,oi (w64 ((w64 (e*64))+(w64 (ZB .and .u8 (t.toNat:Int) 63))))),(7,oi d),(8,oi f),(9,oi (w64 (h+1)))] [] ?_
 exact ⟨m5,zl_ _,(w64 ((w64 (e*64))+(w64 (ZB .and .u8 (t.toNat:Int) 63)))),(w64 (h+1)),jk,by rw [b0] at a;exact a⟩ } }
  {
 have a:=Zj a a0
 refine WA.exit ?_
 refine WA.seq ?_
 refine WA.join (fun j=>∃(a7:Bool),J j [(6,oi e),(7,oi d),(88,ob a7)] []∧ZiD d e a7=some r) ?_ ?_
 {
 rintro j ⟨a7,i,a⟩
 refine Wj i ?_
 clear i
 refine WA.cond (b:=a7) rfl (fun a2=>?_) (fun a2=>?_)
 {
 have a:=Zk a a2
 refine Ws [] [(4,oi (-1)),(5,oi 1)] [] ?_
 refine WA.ret ?_
 obtain rfl:=zj_ a
 exact Zo (.tup [(false,[.pv (.int .i64 (-1))]),(false,[.pv (.int .i64 1)])]) [] kr kr kr kr nd rfl rfl }
 {
 have a:=Zj a a2
 refine WA.skip ?_
 refine Ws [] [(4,oi e),(5,oi d)] [] ?_
 refine WA.ret ?_
 obtain rfl:=zj_ a
 exact Zo (.tup [(false,[.pv (.int .i64 e)]),(false,[.pv (.int .i64 d)])]) [] kr kr kr kr nd rfl rfl } }
 {
 rcases zo_ (decide (e<f)) with q | q
 {
 have a:=Zk a q
 refine Wo [(3,.bool true)] [(6,oi e),(7,oi d),(88,ob true)] [] [(decide (e<f))=true] ⟨q,trivial⟩ ?_
 exact ⟨true,jk,a⟩ }
 {
 have a:=Zj a q
 obtain ⟨a9,b4,a⟩:=Zh a
 refine Wo [(3,.bool false),(5,.callR [] (ob a9))] [(6,oi e),(7,oi d),(88,ob (!a9))] [] [(decide (e<f))=false,SM μ 67 [oi e] [] (ob a9) [],([]:List Nat).Nodup] ⟨q,(Zay k _ _ b4),nd,trivial⟩ ?_
 exact ⟨(!a9),jk,a⟩ } } } } }
 {
 refine WA.block ?_
 refine Ws [] [(0,one (.str v0)),(1,oi v1),(6,oi (w64 (c.toNat:Int))),(22,ob (decide ((w64 (c.toNat:Int))<128)))] [] ?_
 refine WA.cond (b:=(decide ((w64 (c.toNat:Int))<128))) rfl (fun v=>?_) (fun v=>?_)
 {
 have a:=Zk a v
 refine Ws [] [(4,oi (w64 (c.toNat:Int))),(5,oi 1)] [] ?_
 refine WA.ret ?_
 obtain rfl:=zj_ a
 exact Zo (.tup [(false,[.pv (.int .i64 (w64 (c.toNat:Int)))]),(false,[.pv (.int .i64 1)])]) [] kr kr kr kr nd rfl rfl }
 {
 have a:=Zj a v
 refine WA.join (fun j=>∃(a4:Bool),J j [(0,one (.str v0)),(1,oi v1),(6,oi (w64 (c.toNat:Int))),(26,ob a4)] []∧ZiA k v0 v1 c a4=some r) ?_ ?_
 {
 rintro j ⟨a4,i,a⟩
 refine Wj i ?_
 clear i
 refine WA.cond (b:=a4) rfl (fun w=>?_) (fun w=>?_)
 {
 have a:=Zk a w
 refine Wr [] [(0,one (.str v0)),(1,oi v1),(6,oi (ZB .and .i64 (w64 (c.toNat:Int)) 31)),(7,oi 2),(8,oi 128)] [] ?_
 exact ⟨(ZB .and .i64 (w64 (c.toNat:Int)) 31),2,128,jk,a⟩ }
 {
 have a:=Zj a w
 refine WA.join (fun j=>∃(a5:Bool),J j [(0,one (.str v0)),(1,oi v1),(6,oi (w64 (c.toNat:Int))),(35,ob a5)] []∧ZiB k v0 v1 c a5=some r) ?_ ?_
 {
 rintro j ⟨a5,i,a⟩
 refine Wj i ?_
 clear i
 refine WA.cond (b:=a5) rfl (fun x=>?_) (fun x=>?_)
 {
 have a:=Zk a x
 refine Wr [] [(0,one (.str v0)),(1,oi v1),(6,oi (ZB .and .i64 (w64 (c.toNat:Int)) 15)),(7,oi 3),(8,oi 2048)] [] ?_
 exact ⟨(ZB .and .i64 (w64 (c.toNat:Int)) 15),3,2048,jk,a⟩ }
 {
 have a:=Zj a x
 refine WA.join (fun j=>∃(a6:Bool),J j [(0,one (.str v0)),(1,oi v1),(6,oi (w64 (c.toNat:Int))),(44,ob a6)] []∧ZiC k v0 v1 c a6=some r) ?_ ?_
 {
 rintro j ⟨a6,i,a⟩
 refine Wj i ?_
 clear i
 refine WA.cond (b:=a6) rfl (fun y=>?_) (fun y=>?_)
 {
 have a:=Zk a y
 refine Wr [] [(0,one (.str v0)),(1,oi v1),(6,oi (ZB .and .i64 (w64 (c.toNat:Int)) 7)),(7,oi 4),(8,oi 65536)] [] ?_
 exact ⟨(ZB .and .i64 (w64 (c.toNat:Int)) 7),4,65536,jk,a⟩ }
 {
 have a:=Zj a y
 refine Ws [] [(4,oi (-1)),(5,oi 1)] [] ?_
 refine WA.ret ?_
 obtain rfl:=zj_ a
 exact Zo (.tup [(false,[.pv (.int .i64 (-1))]),(false,[.pv (.int .i64 1)])]) [] kr kr kr kr nd rfl rfl } }
 {
 rcases zo_ (decide ((w64 (c.toNat:Int))≥240)) with p | p
 {
 have a:=Zk a p
 refine Wo [(2,.bool true)] [(0,one (.str v0)),(1,oi v1),(6,oi (w64 (c.toNat:Int))),(44,ob (decide ((w64 (c.toNat:Int))<248)))] [] [(decide ((w64 (c.toNat:Int))≥240))=true] ⟨p,trivial⟩ ?_
 exact ⟨(decide ((w64 (c.toNat:Int))<248)),jk,a⟩ }
 {
 have a:=Zj a p
 refine Wo [(2,.bool false)] [(0,one (.str v0)),(1,oi v1),(6,oi (w64 (c.toNat:Int))),(44,ob false)] [] [(decide ((w64 (c.toNat:Int))≥240))=false] ⟨p,trivial⟩ ?_
 exact ⟨false,jk,a⟩ } } } }
 {
 rcases zo_ (decide ((w64 (c.toNat:Int))≥224)) with o | o
 {
 have a:=Zk a o
 refine Wo [(2,.bool true)] [(0,one (.str v0)),(1,oi v1),(6,oi (w64 (c.toNat:Int))),(35,ob (decide ((w64 (c.toNat:Int))<240)))] [] [(decide ((w64 (c.toNat:Int))≥224))=true] ⟨o,trivial⟩ ?_
 exact ⟨(decide ((w64 (c.toNat:Int))<240)),jk,a⟩ }
 {
 have a:=Zj a o
 refine Wo [(2,.bool false)] [(0,one (.str v0)),(1,oi v1),(6,oi (w64 (c.toNat:Int))),(35,ob false)] [] [(decide ((w64 (c.toNat:Int))≥224))=false] ⟨o,trivial⟩ ?_
 exact ⟨false,jk,a⟩ } } } }
 {
 rcases zo_ (decide ((w64 (c.toNat:Int))≥192)) with n | n
 {
 have a:=Zk a n
 refine Wo [(2,.bool true)] [(0,one (.str v0)),(1,oi v1),(6,oi (w64 (c.toNat:Int))),(26,ob (decide ((w64 (c.toNat:Int))<224)))] [] [(decide ((w64 (c.toNat:Int))≥192))=true] ⟨n,trivial⟩ ?_
 exact ⟨(decide ((w64 (c.toNat:Int))<224)),jk,a⟩ }
 {
 have a:=Zj a n
 refine Wo [(2,.bool false)] [(0,one (.str v0)),(1,oi v1),(6,oi (w64 (c.toNat:Int))),(26,ob false)] [] [(decide ((w64 (c.toNat:Int))≥192))=false] ⟨n,trivial⟩ ?_
 exact ⟨false,jk,a⟩ } } } } } }
 {
 rcases zo_ (decide (v1<0)) with l | l
 {
 have a:=Zk a l
 refine Wo [(2,.bool true)] [(0,one (.str v0)),(1,oi v1),(17,ob true)] [] [(decide (v1<0))=true] ⟨l,trivial⟩ ?_
 exact ⟨true,jk,a⟩ }
 {
 have a:=Zj a l
 refine Wo [(2,.bool false)] [(0,one (.str v0)),(1,oi v1),(17,ob (decide (v1≥(v0.length:Int))))] [] [(decide (v1<0))=false] ⟨l,trivial⟩ ?_
 exact ⟨(decide (v1≥(v0.length:Int))),jk,a⟩ } }
def Zin (k:Nat) (c:Int→Option Bool) (v0:List UInt8) (a:Int):Option Bool:=
  (cond (decide (a<(v0.length:Int))) ((F46 k v0 a).bind fun b=>((cond (decide (b.1<0)) ((some false)) ((c (w64 (a+b.2))))))) (((some true))))
def ZfU (k:Nat) (v0:List UInt8):Nat→Int→Option Bool
  | 0,_=>none
  | b+1,a=>Zin k (ZfU k v0 b) v0 a
def F25 (k:Nat) (v0:List UInt8):Option Bool:=
  ((ZfU k v0 k 0))
theorem Zog (k:Nat) (v0:List UInt8) (r:Bool) (d:F25 k v0=some r):SM μ 25 [one (.str v0)] [] (ob r) []:=by
 refine Zz [] Tryz.func25 rfl kr kr ?_
 show WA _ _ 21 _ _ _
 refine Ws [] [(0,one (.str v0))] [] ?_
 refine WA.seq ?_
 refine Ws [] [(0,one (.str v0)),(3,oi 0)] [] ?_
 refine WA.block ?_
 refine WA.loop (fun m n=>∃(a:Int),J n [(0,one (.str v0)),(3,oi a)] []∧ZfU k v0 m a=some r) k ⟨0,jk,d⟩ ?_
 clear d
 rintro m0 n ⟨a,l,d⟩
 refine Wj l ?_
 clear l
 cases m0 with
 | zero=>cases d
 | succ m0=>
  obtain ⟨j,h⟩:∃g,g=ZfU k v0 m0:=⟨_,rfl⟩
  have d:Zin k j v0 a=some r:=by first | (rw [h];exact d) | exact d
  refine WA.seq ?_
  refine Ws [] [(0,one (.str v0)),(3,oi a),(9,ob (decide (a<(v0.length:Int))))] [] ?_
  refine WA.cond (b:=(decide (a<(v0.length:Int)))) rfl (fun e=>?_) (fun e=>?_)
  {
 have d:=Zk d e
 refine WA.skip ?_
 refine WA.block ?_
 obtain ⟨c,i,d⟩:=Zh d
 refine Wos [(2,.callR [] (.tup [(false,[.pv (.int .i64 c.1)]),(false,[.pv (.int .i64 c.2)])]))] [(0,one (.str v0)),(3,oi a),(4,oi c.1),(5,oi c.2)] [] [SM μ 46 [one (.str v0),oi a] [] (.tup [(false,[.pv (.int .i64 c.1)]),(false,[.pv (.int .i64 c.2)])]) [],([]:List Nat).Nodup] ⟨(Zlm k _ _ _ i),nd,trivial⟩ ?_
 refine WA.seq ?_
 refine Ws [] [(0,one (.str v0)),(3,oi a),(5,oi c.2),(17,ob (decide (c.1<0)))] [] ?_
 refine WA.cond (b:=(decide (c.1<0))) rfl (fun f=>?_) (fun f=>?_)
 {
 have d:=Zk d f
 refine Ws [] [(2,ob false)] [] ?_
 refine WA.ret ?_
 obtain rfl:=zj_ d
 exact Zo (ob false) [] kr kr kr kr nd rfl rfl }
 {
 have d:=Zj d f
 refine WA.skip ?_
 refine Wr [] [(0,one (.str v0)),(3,oi (w64 (a+c.2)))] [] ?_
 exact ⟨m0,zl_ _,(w64 (a+c.2)),jk,by rw [h] at d;exact d⟩ } }
  {
 have d:=Zj d e
 refine WA.exit ?_
 refine Ws [] [(2,ob true)] [] ?_
 refine WA.ret ?_
 obtain rfl:=zj_ d
 exact Zo (ob true) [] kr kr kr kr nd rfl rfl }
def ZeO (R50:Zd→Option Int) (c:Int→Int→Option Int) (v0:Zd) (b:Int) (a:Int):Option Int:=
  (cond (decide (a<(v0.f_L.length:Int))) ((idxL v0.f_L a).bind fun d=>(R50 d).bind fun e=>(c (mx b e) (w64 (a+1)))) (((some (w64 (b+1))))))
def ZcI (R50:Zd→Option Int) (v0:Zd):Nat→Int→Int→Option Int
  | 0,_,_=>none
  | c+1,a,b=>ZeO R50 (ZcI R50 v0 c) v0 a b
def Zqd (R50:Zd→Option Int) (k:Nat) (v0:Zd):Option Int:=
  (((ZcI R50 v0 k 0 0)))
theorem Zpr (R50:Zd→Option Int) (IH50:∀(v0:Zd) (r:Int),R50 v0=some r→SM μ 50 [tv (Zc v0)] [] (oi r) []) (k:Nat) (v0:Zd) (r:Int) (d:Zqd R50 k v0=some r):SM μ 50 [tv (Zc v0)] [] (oi r) []:=by
 refine Zz [] Tryz.func50 rfl kr kr ?_
 show WA _ _ 20 _ _ _
 refine Ws [(0,.obj 101)] [(1,pt 101)] [(101,bx (Zc v0))] ?_
 refine Ws [] [(1,pt 101),(3,oi 0)] [(101,bx (Zc v0))] ?_
 refine WA.seq ?_
 refine WA.seq ?_
 refine Wm ((Zm v0.f_L).length:Int) (v0.f_L.length:Int) (fun q=>([(3,oi 0),(7,one (.sl (Zm v0.f_L))),(8,oi q),(9,oi 0)],[],[])) ((by first | (simp only [zl,Zi];done) | (simp only [zl,Zi];omega) | omega)) [] trivial ?_
 refine WA.block ?_
 refine WA.loop (fun m p=>∃(c:Int) (a:Int),J p [(3,oi c),(7,one (.sl (Zm v0.f_L))),(8,oi (v0.f_L.length:Int)),(9,oi a)] []∧ZcI R50 v0 m c a=some r) k ⟨0,0,jk,d⟩ ?_
 clear d
 rintro m0 p ⟨c,a,o,d⟩
 refine Wj o ?_
 clear o
 cases m0 with
 | zero=>cases d
 | succ m0=>
  obtain ⟨n,i⟩:∃g,g=ZcI R50 v0 m0:=⟨_,rfl⟩
  have d:ZeO R50 n v0 c a=some r:=by first | (rw [i];exact d) | exact d
  refine Ws [] [(3,oi c),(7,one (.sl (Zm v0.f_L))),(8,oi (v0.f_L.length:Int)),(9,oi a),(10,ob (decide (a<(v0.f_L.length:Int))))] [] ?_
  refine WA.seq ?_
  refine WA.cond (b:=(decide (a<(v0.f_L.length:Int)))) rfl (fun f=>?_) (fun f=>?_)
  {
 have d:=Zk d f
 refine WA.skip ?_
 refine WA.seq ?_
 refine WA.block ?_
 obtain ⟨h,j,d⟩:=Zh d
 refine Wos [(0,.cells (Zc h)),(2,.obj 105)] [(3,oi c),(5,pt 105),(7,one (.sl (Zm v0.f_L))),(8,oi (v0.f_L.length:Int)),(9,oi a)] [(105,bx (Zc h))] [idxL (Zm v0.f_L) a=some (Zc h)] ⟨(ZO j),trivial⟩ ?_
 obtain ⟨e,l,d⟩:=Zh d
 refine Wo [(2,.callR [] (oi e))] [(3,oi (mx c e)),(7,one (.sl (Zm v0.f_L))),(8,oi (v0.f_L.length:Int)),(9,oi a)] [] [SM μ 50 [tv (Zc h)] [] (oi e) [],([]:List Nat).Nodup] ⟨(IH50 _ _ l),nd,trivial⟩ ?_
 refine Wr [] [(3,oi (mx c e)),(7,one (.sl (Zm v0.f_L))),(8,oi (v0.f_L.length:Int)),(9,oi (w64 (a+1)))] [] ?_
 exact ⟨m0,zl_ _,(mx c e),(w64 (a+1)),jk,by rw [i] at d;exact d⟩ }
  {
 have d:=Zj d f
 refine WA.exit ?_
 refine Ws [] [(2,oi (w64 (c+1)))] [] ?_
 refine WA.ret ?_
 obtain rfl:=zj_ d
 exact Zo (oi (w64 (c+1))) [] kr kr kr kr nd rfl rfl }
def F50:Nat→Zd→Option Int
  | 0,_=>none
  | k+1,v0=>Zqd (F50 k) k v0
theorem Zlo:∀(k:Nat),∀(v0:Zd) (r:Int),F50 k v0=some r→SM μ 50 [tv (Zc v0)] [] (oi r) []
  | 0=>fun _ _ a=>by cases a
  | k+1=>fun v0 r a=>Zpr (F50 k) (Zlo k) k v0 r a
def ZfX (R41:Zd→Int→Option Int) (c:Int→Int→Option Int) (v0:Zd) (v1:Int) (a:Int) (b:Int) (d:Bool):Option Int:=
  cond d ((idxL v0.f_L b).bind fun e=>(R41 e (w64 (v1-1))).bind fun f=>(c (w64 (a+f)) (w64 (b+1)))) (((some a)))
def ZeB (R41:Zd→Int→Option Int) (c:Int→Int→Option Int) (v0:Zd) (v1:Int) (a:Int) (b:Int):Option Int:=
  cond (decide (b<(v0.f_L.length:Int))) ((ZfX R41 c v0 v1 a b (decide (a<1000)))) ((ZfX R41 c v0 v1 a b false))
def ZeC (R41:Zd→Int→Option Int) (v0:Zd) (v1:Int):Nat→Int→Int→Option Int
  | 0,_,_=>none
  | c+1,a,b=>ZeB R41 (ZeC R41 v0 v1 c) v0 v1 a b
def ZfW (R41:Zd→Int→Option Int) (k:Nat) (v0:Zd) (v1:Int) (a:Bool):Option Int:=
  cond a ((some 1000)) ((((ZeC R41 v0 v1 k (w64 (1+(v0.f_Set.length:Int))) 0))))
def Zk0 (R41:Zd→Int→Option Int) (k:Nat) (v0:Zd) (v1:Int):Option Int:=
  (cond (v1 == 0) ((ZfW R41 k v0 v1 true)) (cond (decide ((v0.f_L.length:Int) > 300)) ((ZfW R41 k v0 v1 true)) ((ZfW R41 k v0 v1 (decide ((v0.f_Set.length:Int) > 300))))))
theorem Zpm (R41:Zd→Int→Option Int) (IH41:∀(v0:Zd) (v1:Int) (r:Int),R41 v0 v1=some r→SM μ 41 [tv (Zc v0),oi v1] [] (oi r) []) (k:Nat) (v0:Zd) (v1:Int) (r:Int) (a:Zk0 R41 k v0 v1=some r):SM μ 41 [tv (Zc v0),oi v1] [] (oi r) []:=by
 refine Zz [] Tryz.func41 rfl kr kr ?_
 show WA _ _ 47 _ _ _
 refine Ws [(0,.obj 102)] [(1,oi v1),(2,pt 102)] [(102,bx (Zc v0))] ?_
 refine WA.seq ?_
 refine WA.join (fun t=>∃(o:Bool),J t [(1,oi v1),(2,pt 102),(20,ob o)] [(102,bx (Zc v0))]∧ZfW R41 k v0 v1 o=some r) ?_ ?_
 {
 rintro t ⟨o,q,a⟩
 refine Wj q ?_
 clear q
 refine WA.cond (b:=o) rfl (fun l=>?_) (fun l=>?_)
 {
 have a:=Zk a l
 refine Ws [] [(4,oi 1000)] [] ?_
 refine WA.ret ?_
 obtain rfl:=zj_ a
 exact Zo (oi 1000) [] kr kr kr kr nd rfl rfl }
 {
 have a:=Zj a l
 refine WA.skip ?_
 refine WA.seq ?_
 refine Wm ((v0.f_Set.map Za).length:Int) (v0.f_Set.length:Int) (fun j=>([(1,oi v1),(2,pt 102),(5,oi (w64 (1+j)))],[(102,bx (Zc v0))],[])) ((by first | (simp only [zl,Zi];done) | (simp only [zl,Zi];omega) | omega)) [] trivial ?_
 refine WA.seq ?_
 refine Ws [] [(1,oi v1),(2,pt 102),(5,oi (w64 (1+(v0.f_Set.length:Int)))),(6,oi 0)] [(102,bx (Zc v0))] ?_
 refine WA.block ?_
 refine WA.loop (fun m t=>∃(c:Int) (d:Int),J t [(1,oi v1),(2,pt 102),(5,oi c),(6,oi d)] [(102,bx (Zc v0))]∧ZeC R41 v0 v1 m c d=some r) k ⟨(w64 (1+(v0.f_Set.length:Int))),0,jk,a⟩ ?_
 clear a
 rintro m3 t ⟨c,d,q,a⟩
 refine Wj q ?_
 clear q
 cases m3 with
 | zero=>cases a
 | succ m3=>
  obtain ⟨v,s⟩:∃g,g=ZeC R41 v0 v1 m3:=⟨_,rfl⟩
  have a:ZeB R41 v v0 v1 c d=some r:=by first | (rw [s];exact a) | exact a
  refine WA.seq ?_
  refine WA.join (fun t=>∃(p:Bool),J t [(1,oi v1),(2,pt 102),(5,oi c),(6,oi d),(33,ob p)] [(102,bx (Zc v0))]∧ZfX R41 v v0 v1 c d p=some r) ?_ ?_
  {
 rintro t ⟨p,q,a⟩
 refine Wj q ?_
 clear q
 refine WA.cond (b:=p) rfl (fun n=>?_) (fun n=>?_)
 {
 have a:=Zk a n
 refine WA.skip ?_
 refine WA.seq ?_
 refine WA.block ?_
 obtain ⟨u,w,a⟩:=Zh a
 obtain ⟨i,x,a⟩:=Zh a
 refine Wo [(4,.cells (Zc u)),(8,.callR [] (oi i))] [(1,oi v1),(2,pt 102),(5,oi (w64 (c+i))),(6,oi d)] [(102,bx (Zc v0))] [idxL (Zm v0.f_L) d=some (Zc u),SM μ 41 [tv (Zc u),oi (w64 (v1-1))] [] (oi i) [],([]:List Nat).Nodup] ⟨(ZO w),(IH41 _ _ _ x),nd,trivial⟩ ?_
 refine Wr [] [(1,oi v1),(2,pt 102),(5,oi (w64 (c+i))),(6,oi (w64 (d+1)))] [(102,bx (Zc v0))] ?_
 exact ⟨m3,zl_ _,(w64 (c+i)),(w64 (d+1)),jk,by rw [s] at a;exact a⟩ }
 {
 have a:=Zj a n
 refine WA.exit ?_
 refine Ws [] [(4,oi c)] [] ?_
 refine WA.ret ?_
 obtain rfl:=zj_ a
 exact Zo (oi c) [] kr kr kr kr nd rfl rfl } }
  {
 rcases zo_ (decide (d<(v0.f_L.length:Int))) with h | h
 {
 have a:=Zk a h
 refine Wm ((Zm v0.f_L).length:Int) (v0.f_L.length:Int) (fun j=>([(1,oi v1),(2,pt 102),(5,oi c),(6,oi d),(33,ob (decide (c<1000)))],[(102,bx (Zc v0))],[(decide (d<j))=true])) ((by first | (simp only [zl,Zi];done) | (simp only [zl,Zi];omega) | omega)) [(5,.bool true)] ⟨h,trivial⟩ ?_
 exact ⟨(decide (c<1000)),jk,a⟩ }
 {
 have a:=Zj a h
 refine Wm ((Zm v0.f_L).length:Int) (v0.f_L.length:Int) (fun j=>([(1,oi v1),(2,pt 102),(5,oi c),(6,oi d),(33,ob false)],[(102,bx (Zc v0))],[(decide (d<j))=false])) ((by first | (simp only [zl,Zi];done) | (simp only [zl,Zi];omega) | omega)) [(5,.bool false)] ⟨h,trivial⟩ ?_
 exact ⟨false,jk,a⟩ } } } }
 {
 rcases zo_ (v1 == 0) with e | e
 {
 have a:=Zk a e
 refine Wo [(2,.bool true)] [(1,oi v1),(2,pt 102),(20,ob true)] [(102,bx (Zc v0))] [(v1 == 0)=true] ⟨e,trivial⟩ ?_
 exact ⟨true,jk,a⟩ }
 {
 have a:=Zj a e
 rcases zo_ (decide ((v0.f_L.length:Int) > 300)) with f | f
 {
 have a:=Zk a f
 refine Wm ((Zm v0.f_L).length:Int) (v0.f_L.length:Int) (fun j=>([(1,oi v1),(2,pt 102),(20,ob true)],[(102,bx (Zc v0))],[(v1 == 0)=false,(decide (j > 300))=true])) ((by first | (simp only [zl,Zi];done) | (simp only [zl,Zi];omega) | omega)) [(2,.bool false),(8,.bool true)] ⟨e,f,trivial⟩ ?_
 exact ⟨true,jk,a⟩ }
 {
 have a:=Zj a f
 refine Wm ((((v0.f_Set.map Za).length:Int),((Zm v0.f_L).length:Int)):Int×Int) ((v0.f_Set.length:Int),(v0.f_L.length:Int)) (fun j=>([(1,oi v1),(2,pt 102),(20,ob (decide (j.1 > 300)))],[(102,bx (Zc v0))],[(v1 == 0)=false,(decide (j.2 > 300))=false])) (ZJ (by first | (simp only [zl,Zi];done) | (simp only [zl,Zi];omega) | omega) (by first | (simp only [zl,Zi];done) | (simp only [zl,Zi];omega) | omega)) [(2,.bool false),(8,.bool false)] ⟨e,f,trivial⟩ ?_
 exact ⟨(decide ((v0.f_Set.length:Int) > 300)),jk,a⟩ } } }
def F41:Nat→Zd→Int→Option Int
  | 0,_,_=>none
  | k+1,v0,v1=>Zk0 (F41 k) k v0 v1
theorem Zoj:∀(k:Nat),∀(v0:Zd) (v1:Int) (r:Int),F41 k v0 v1=some r→SM μ 41 [tv (Zc v0),oi v1] [] (oi r) []
  | 0=>fun _ _ _ a=>by cases a
  | k+1=>fun v0 v1 r a=>Zpm (F41 k) (Zoj k) k v0 v1 r a
def ZbL (R42:Zd→Int→Option Int) (c:Int→Int→Option Int) (v0:Zd) (v1:Int) (b:Int) (a:Int):Option Int:=
  (cond (decide (a<(v0.f_L.length:Int))) ((idxL v0.f_L a).bind fun d=>(R42 d (w64 (v1+1))).bind fun e=>(c (mx b e) (w64 (a+1)))) (((some b))))
def ZcF (R42:Zd→Int→Option Int) (v0:Zd) (v1:Int):Nat→Int→Int→Option Int
  | 0,_,_=>none
  | c+1,a,b=>ZbL R42 (ZcF R42 v0 v1 c) v0 v1 a b
def Zhg (R42:Zd→Int→Option Int) (k:Nat) (v0:Zd) (v1:Int):Option Int:=
  ((cond (decide (v1 > 16)) ((some v1)) ((((ZcF R42 v0 v1 k v1 0))))))
theorem Zpn (R42:Zd→Int→Option Int) (IH42:∀(v0:Zd) (v1:Int) (r:Int),R42 v0 v1=some r→SM μ 42 [tv (Zc v0),oi v1] [] (oi r) []) (k:Nat) (v0:Zd) (v1:Int) (r:Int) (a:Zhg R42 k v0 v1=some r):SM μ 42 [tv (Zc v0),oi v1] [] (oi r) []:=by
 refine Zz [] Tryz.func42 rfl kr kr ?_
 show WA _ _ 29 _ _ _
 refine Ws [(0,.obj 102)] [(1,oi v1),(2,pt 102)] [(102,bx (Zc v0))] ?_
 refine WA.seq ?_
 refine Ws [] [(1,oi v1),(2,pt 102),(8,ob (decide (v1 > 16)))] [(102,bx (Zc v0))] ?_
 refine WA.cond (b:=(decide (v1 > 16))) rfl (fun f=>?_) (fun f=>?_)
 {
 have a:=Zk a f
 refine Ws [] [(4,oi v1)] [] ?_
 refine WA.ret ?_
 obtain rfl:=zj_ a
 exact Zo (oi v1) [] kr kr kr kr nd rfl rfl }
 {
 have a:=Zj a f
 refine WA.skip ?_
 refine Ws [] [(1,oi v1),(2,pt 102),(5,oi v1)] [(102,bx (Zc v0))] ?_
 refine WA.seq ?_
 refine Ws [] [(1,oi v1),(2,pt 102),(5,oi v1),(6,oi 0)] [(102,bx (Zc v0))] ?_
 refine WA.block ?_
 refine WA.loop (fun m q=>∃(d:Int) (c:Int),J q [(1,oi v1),(2,pt 102),(5,oi d),(6,oi c)] [(102,bx (Zc v0))]∧ZcF R42 v0 v1 m d c=some r) k ⟨v1,0,jk,a⟩ ?_
 clear a
 rintro m0 q ⟨d,c,p,a⟩
 refine Wj p ?_
 clear p
 cases m0 with
 | zero=>cases a
 | succ m0=>
  obtain ⟨o,i⟩:∃g,g=ZcF R42 v0 v1 m0:=⟨_,rfl⟩
  have a:ZbL R42 o v0 v1 d c=some r:=by first | (rw [i];exact a) | exact a
  refine WA.seq ?_
  refine WA.seq ?_
  refine Wm ((Zm v0.f_L).length:Int) (v0.f_L.length:Int) (fun s=>([(1,oi v1),(2,pt 102),(5,oi d),(6,oi c),(15,ob (decide (c<s)))],[(102,bx (Zc v0))],[])) ((by first | (simp only [zl,Zi];done) | (simp only [zl,Zi];omega) | omega)) [] trivial ?_
  refine WA.cond (b:=(decide (c<(v0.f_L.length:Int)))) rfl (fun h=>?_) (fun h=>?_)
  {
 have a:=Zk a h
 refine WA.skip ?_
 refine WA.seq ?_
 refine WA.block ?_
 obtain ⟨j,l,a⟩:=Zh a
 obtain ⟨e,n,a⟩:=Zh a
 refine Wo [(4,.cells (Zc j)),(8,.callR [] (oi e))] [(1,oi v1),(2,pt 102),(5,oi (mx d e)),(6,oi c)] [(102,bx (Zc v0))] [idxL (Zm v0.f_L) c=some (Zc j),SM μ 42 [tv (Zc j),oi (w64 (v1+1))] [] (oi e) [],([]:List Nat).Nodup] ⟨(ZO l),(IH42 _ _ _ n),nd,trivial⟩ ?_
 refine Wr [] [(1,oi v1),(2,pt 102),(5,oi (mx d e)),(6,oi (w64 (c+1)))] [(102,bx (Zc v0))] ?_
 exact ⟨m0,zl_ _,(mx d e),(w64 (c+1)),jk,by rw [i] at a;exact a⟩ }
  {
 have a:=Zj a h
 refine WA.exit ?_
 refine Ws [] [(4,oi d)] [] ?_
 refine WA.ret ?_
 obtain rfl:=zj_ a
 exact Zo (oi d) [] kr kr kr kr nd rfl rfl } }
def F42:Nat→Zd→Int→Option Int
  | 0,_,_=>none
  | k+1,v0,v1=>Zhg (F42 k) k v0 v1
theorem ZfY:∀(k:Nat),∀(v0:Zd) (v1:Int) (r:Int),F42 k v0 v1=some r→SM μ 42 [tv (Zc v0),oi v1] [] (oi r) []
  | 0=>fun _ _ _ a=>by cases a
  | k+1=>fun v0 v1 r a=>Zpn (F42 k) (ZfY k) k v0 v1 r a
end Go.Proofs.YthilboheomikjaaGreatDoor
end
section
namespace Go.Proofs.YthilboheomikjaaGreatDoor
open Go.AL Go.RowKit Go.Shelf Go.Lib Go.ChangeShapes Go.WideShapes Go.ChangeAt
variable {μ:Int}
set_option maxRecDepth 100000
theorem Zrb:laidOutB Tryz.prog=true:=by kernel_rfl
def Old (w:World) (k:Nat):Prop:=k<w.heap.size
theorem ZlI {w:World} {b o:Nat} {s:Option Nat} {v:Value} (h:w.cell? ⟨b,o,s⟩=some v):Old w b∧s=none:=by
  simp only [World.cell?] at h
  cases hq:w.heap[b]? with
  | none=>rw [hq] at h;cases h
  | some x=>
    refine ⟨(Array.getElem?_eq_some_iff.1 hq).1,?_⟩
    rw [hq] at h
    cases x with
    | cells c E f=>
      simp only at h
      cases s with
      | none=>rfl
      | some q=>simp at h
    | _=>cases h
theorem Zsd {W:World} (h:Tabs μ W):Sr (GL0 μ) W (Old W) (fun _=>none) []:=by
  have hs:=Zn9 h
  refine ⟨fun g ps hg=>?_,(fun id o h1=>by cases h1),(fun id o b h1=>by cases h1),(fun id id' o o' b h1=>by cases h1),fun k hk=>hk,hs.ge⟩
  obtain ⟨h1,h2⟩:=hs.gl g ps hg
  refine ⟨hs.lt g h1,fun j p hp=>?_⟩
  obtain ⟨u,hu,hr⟩:=h2 j p hp
  exact ⟨u,hu,hr.mono (fun _ _=>rfl) (fun k hk=>hs.lt k hk)⟩
section
variable {H:Type} {enc:TypeId×Value→H} {w:World} {base:Nat} {spare:Nat→Bool} {held:Bool}
def Cells (w:World) (ps:List PV) (cs:List Value):Prop:=cs.length=ps.length∧∀(j:Nat) (p:PV),ps[j]?=some p→∃u,cs[j]?=some u∧PVr w (Old w) p u
theorem Znq {β:Type} [Inhabited β] {t e:TypeId} {s:Nat} {f:β→List PV} {fuel:Nat} {cs:List Value} {x:DataW H×List MemPlace} (ht:Tryz.prog.underlying t=some (.slice e)) (hc:Tryz.prog.cellsOf e=s) (hs:0<s) (hf:∀b,(f b).length=s)
    (hel:∀(n:Nat) (cs:List Value) (y:DataW H×List MemPlace),n<fuel→DataW.trod enc Tryz.prog w base spare held n e cs=some y→∃b,Cells w (f b) cs) (h:DataW.trod enc Tryz.prog w base spare held fuel t cs=some x) :
    ∃(l:List β) (v:Value),cs=[v]∧PVr w (Old w) (.sl (l.map f)) v:=by
  rcases DataW.trod_slice ht h with ⟨rfl,_⟩ | ⟨a,len,cap,elems,rest,n,rfl,rfl,_,hb,hl,hm,hlen,he,_,_⟩
  · exact ⟨[],_,rfl,.sl0 _ _⟩
  · rw [hc] at he
    by_cases h0:len=0
    · subst h0;exact ⟨[],_,rfl,.sl0 _ _⟩
    have each:∀i:Nat,∃b:β,i<len→∃cs',(∀j,j<s→w.cell? ((a.add (i*s)).add j)=cs'[j]?)∧Cells w (f b) cs':=fun i=>by
      by_cases hi:i<len
      · have h1:=he i hi
        obtain ⟨y,hy⟩:∃y,elems[i]?=some y:=⟨_,List.getElem?_eq_getElem (by omega)⟩
        rw [hy,Option.bind_eq_some_iff] at h1
        obtain ⟨cs',h2,h3⟩:=h1
        obtain ⟨b,hb⟩:=hel n cs' y (zl_ _) h3
        exact ⟨b,fun _=>⟨cs',(World.cells?_some h2).2.2,hb⟩⟩
      · exact ⟨default,fun h=>absurd h hi⟩
    obtain ⟨g,hg⟩:=Classical.axiomOfChoice each
    have hadd:∀q:Nat,(a.add q).block=a.block∧(a.add q).off=a.off+q:=fun q=>by unfold Addr.add;split <;> simp_all
    have hcell:∀i,i<len→∀j p,(f (g i))[j]?=some p→∃u,w.cell? ⟨a.block,a.off+(i*s+j),none⟩=some u∧PVr w (Old w) p u:=fun i hi j p hp=>by
      obtain ⟨cs',c1,c2,c3⟩:=hg i hi
      obtain ⟨u,hu,hr⟩:=c3 j p hp
      have hj:j<s:=by have:=(List.getElem?_eq_some_iff.1 hp).1;rw [hf] at this;exact this
      have h4:=c1 j hj
      rw [hu] at h4
      have e1:(a.add (i*s)).add j=⟨a.block,a.off+(i*s+j),((a.add (i*s)).add j).spot⟩:=by
        have h5:=hadd (i*s)
        have h6:((a.add (i*s)).add j).block=(a.add (i*s)).block∧((a.add (i*s)).add j).off=(a.add (i*s)).off+j:=by unfold Addr.add;split <;> split <;> simp_all
        rw [h5.1,h5.2] at h6
        cases hq:(a.add (i*s)).add j
        rw [hq] at h6
        simp only at h6
        rw [h6.1,h6.2,Nat.add_assoc]
      rw [e1] at h4
      have h7:=(ZlI h4).2
      rw [h7] at h4
      exact ⟨u,h4,hr⟩
    have hsp:a=⟨a.block,a.off,none⟩∧Old w a.block:=by
      obtain ⟨cs',c1,c2,c3⟩:=hg 0 (by omega)
      obtain ⟨p,hp⟩:∃p,(f (g 0))[0]?=some p:=⟨_,List.getElem?_eq_getElem (by rw [hf];exact hs)⟩
      obtain ⟨u,hu,_⟩:=c3 0 p hp
      have h4:=c1 0 hs
      rw [hu,Nat.zero_mul] at h4
      have e1:(a.add 0).add 0=a:=by simp [Addr.add]
      rw [e1] at h4
      obtain ⟨ab,ao,asp⟩:=a
      obtain ⟨q1,rfl⟩:=ZlI h4
      exact ⟨rfl,q1⟩
    have hlen':((List.range len).map fun i=>f (g i)).length=len:=by simp
    refine ⟨(List.range len).map g,.slice (some a) len cap,rfl,?_⟩
    rw [List.map_map,hsp.1]
    have key:=PVr.sl (w:=w) (I:=Old w) ((List.range len).map fun i=>f (g i)) a.block a.off cap s (fun i j=>(w.cell? ⟨a.block,a.off+(i*s+j),none⟩).getD default) hsp.2 (by rw [hlen'];exact hl)
      (fun i es hi=>by
        obtain ⟨h1,h2⟩:=List.getElem?_eq_some_iff.1 hi
        rw [←h2,List.getElem_map];exact hf _)
      (fun i es j p hi hp=>by
        obtain ⟨h1,h2⟩:=List.getElem?_eq_some_iff.1 hi
        rw [List.getElem_map,List.getElem_range] at h2
        subst h2
        obtain ⟨u,hu,_⟩:=hcell i (by rw [hlen'] at h1;exact h1) j p hp
        rw [hu];rfl)
      (fun i es j p hi hp=>by
        obtain ⟨h1,h2⟩:=List.getElem?_eq_some_iff.1 hi
        rw [List.getElem_map,List.getElem_range] at h2
        subst h2
        obtain ⟨u,hu,hr⟩:=hcell i (by rw [hlen'] at h1;exact h1) j p hp
        rw [hu];exact hr)
    rw [hlen'] at key
    exact key
theorem Zfu {t:TypeId} {fuel:Nat} {cs:List Value} {x:DataW H×List MemPlace} (ht:Tryz.prog.underlying t=some (.int .i64)) (h:DataW.trod enc Tryz.prog w base spare held fuel t cs=some x):∃n:Int,cs=[.int .i64 n]:=by
  obtain ⟨n,rfl,_⟩:=DataW.trod_int ht h
  exact ⟨n,rfl⟩
instance:Inhabited Zb:=⟨⟨0,0⟩⟩
instance:Inhabited Zd:=⟨⟨0,[],[],0,0⟩⟩
theorem ZhB {cs:List Value} {i:Nat} {v:Value} (h:(cs.drop i).take 1=[v]):cs[i]?=some v:=by
  have:((cs.drop i).take 1)[0]?=some v:=by rw [h];rfl
  rw [List.getElem?_take,if_pos (by omega),List.getElem?_drop] at this
  exact this
theorem ZnZ {fuel:Nat} {cs:List Value} {x:DataW H×List MemPlace} (h:DataW.trod enc Tryz.prog w base spare held fuel 60 cs=some x):∃r:Zb,Cells w (Za r) cs:=by
  obtain ⟨xs,n,_,_,hl,hlen,hf⟩:=DataW.trod_struct Tryz.underlying60 h
  have hc:Tryz.prog.cellsOf 60=2:=by kernel_rfl
  have c3:Tryz.prog.cellsOf 3=1:=by kernel_rfl
  rw [hc] at hl
  have at_:∀(i:Nat) (fd:Field),(#[{ name:= "Lo",type:=3,offset:=0,embedded:=false,tag:= "",pkgPath:= "",byteOffset:=0 },{ name:= "Hi",type:=3,offset:=1,embedded:=false,tag:= "",pkgPath:= "",byteOffset:=8 }]:Array Field)[i]?=some fd→fd.type=3→∃z:Int,cs[fd.offset]?=some (.int .i64 z):=fun i fd hi h3=>by
    have h1:=hf i fd hi
    obtain ⟨y,hy⟩:∃y,xs[i]?=some y:=⟨_,List.getElem?_eq_getElem (by have:=(Array.getElem?_eq_some_iff.1 hi).1;omega)⟩
    rw [hy,h3,c3] at h1
    obtain ⟨z,hz⟩:=Zfu Tryz.underlying3 h1
    exact ⟨z,ZhB hz⟩
  obtain ⟨lo,h0⟩:=at_ 0 _ rfl rfl
  obtain ⟨hi,h1⟩:=at_ 1 _ rfl rfl
  refine ⟨⟨lo,hi⟩,hl,fun j p hp=>?_⟩
  match j,hp with
  | 0,hp=>cases hp;exact ⟨_,h0,.int _ _⟩
  | 1,hp=>cases hp;exact ⟨_,h1,.int _ _⟩
  | j+2,hp=>exact absurd (List.getElem?_eq_some_iff.1 hp).1 (by simp [Za])
theorem Zrh:∀(fuel:Nat) (cs:List Value) (x:DataW H×List MemPlace),DataW.trod enc Tryz.prog w base spare held fuel 35 cs=some x→∃r:Zd,Cells w (Zc r) cs:=by
  intro fuel
  induction fuel using Nat.strongRecOn with
  | ind fuel ih=>
    intro cs x h
    obtain ⟨xs,n,rfl,_,hl,hlen,hf⟩:=DataW.trod_struct Tryz.underlying35 h
    have hc:Tryz.prog.cellsOf 35=5:=by kernel_rfl
    have c3:Tryz.prog.cellsOf 3=1:=by kernel_rfl
    have c33:Tryz.prog.cellsOf 33=1:=by kernel_rfl
    have c22:Tryz.prog.cellsOf 22=1:=by kernel_rfl
    have c60:Tryz.prog.cellsOf 60=2:=by kernel_rfl
    rw [hc] at hl
    have hlen5:xs.length=5:=hlen
    have sub:∀(i:Nat) (fd:Field),i<5→(#[{ name:= "Kind",type:=3,offset:=0,embedded:=false,tag:= "",pkgPath:= "",byteOffset:=0 },
        { name:= "Set",type:=33,offset:=1,embedded:=false,tag:= "",pkgPath:= "",byteOffset:=8 },
        { name:= "L",type:=22,offset:=2,embedded:=false,tag:= "",pkgPath:= "",byteOffset:=32 },
        { name:= "Min",type:=3,offset:=3,embedded:=false,tag:= "",pkgPath:= "",byteOffset:=56 },
        { name:= "Max",type:=3,offset:=4,embedded:=false,tag:= "",pkgPath:= "",byteOffset:=64 }]:Array Field)[i]?=some fd→∃y,DataW.trod enc Tryz.prog w base spare held n fd.type ((cs.drop fd.offset).take (Tryz.prog.cellsOf fd.type))=some y:=fun i fd hi hfd=>by
      have h1:=hf i fd hfd
      obtain ⟨y,hy⟩:∃y,xs[i]?=some y:=⟨_,List.getElem?_eq_getElem (by omega)⟩
      rw [hy] at h1
      exact ⟨y,h1⟩
    obtain ⟨y0,g0⟩:∃y,DataW.trod enc Tryz.prog w base spare held n 3 ((cs.drop 0).take (Tryz.prog.cellsOf 3))=some y:=sub 0 _ (by omega) rfl
    obtain ⟨y1,g1⟩:∃y,DataW.trod enc Tryz.prog w base spare held n 33 ((cs.drop 1).take (Tryz.prog.cellsOf 33))=some y:=sub 1 _ (by omega) rfl
    obtain ⟨y2,g2⟩:∃y,DataW.trod enc Tryz.prog w base spare held n 22 ((cs.drop 2).take (Tryz.prog.cellsOf 22))=some y:=sub 2 _ (by omega) rfl
    obtain ⟨y3,g3⟩:∃y,DataW.trod enc Tryz.prog w base spare held n 3 ((cs.drop 3).take (Tryz.prog.cellsOf 3))=some y:=sub 3 _ (by omega) rfl
    obtain ⟨y4,g4⟩:∃y,DataW.trod enc Tryz.prog w base spare held n 3 ((cs.drop 4).take (Tryz.prog.cellsOf 3))=some y:=sub 4 _ (by omega) rfl
    rw [c3] at g0 g3 g4
    rw [c33] at g1
    rw [c22] at g2
    obtain ⟨k,e0⟩:=Zfu Tryz.underlying3 g0
    obtain ⟨mn,e3⟩:=Zfu Tryz.underlying3 g3
    obtain ⟨mx,e4⟩:=Zfu Tryz.underlying3 g4
    obtain ⟨st,v1,e1,r1⟩:=Znq (f:=Za) Tryz.underlying33 c60 (by omega) (fun _=>rfl) (fun n cs y _ h=>ZnZ h) g1
    obtain ⟨l,v2,e2,r2⟩:=Znq (f:=Zc) Tryz.underlying22 hc (by omega) (fun _=>rfl) (fun m cs y hm h=>ih m (by omega) cs y h) g2
    refine ⟨⟨k,st,l,mn,mx⟩,hl,fun j p hp=>?_⟩
    match j,hp with
    | 0,hp=>cases hp;exact ⟨_,ZhB e0,.int _ _⟩
    | 1,hp=>cases hp;exact ⟨_,ZhB e1,r1⟩
    | 2,hp=>cases hp;exact ⟨_,ZhB e2,by rw [Zaa];exact r2⟩
    | 3,hp=>cases hp;exact ⟨_,ZhB e3,.int _ _⟩
    | 4,hp=>cases hp;exact ⟨_,ZhB e4,.int _ _⟩
    | j+5,hp=>exact absurd (List.getElem?_eq_some_iff.1 hp).1 (by simp [Zc])
theorem ZrV {G:Nat→Option Nat} {sh:Sh}:∀{ps:List PV} {cs:List Value},Cells w ps cs→CSr w (Old w) G sh (pvL ps) cs:=by
  intro ps cs h
  refine CSr.of (by unfold pvL;rw [List.length_map];exact h.1) fun i c v hc hv=>?_
  unfold pvL at hc
  rw [List.getElem?_map] at hc
  cases hp:ps[i]? with
  | none=>rw [hp] at hc;cases hc
  | some p=>
    rw [hp] at hc
    cases hc
    obtain ⟨u,hu,hr⟩:=h.2 i p hp
    rw [hv] at hu
    cases hu
    exact hr
theorem ZrR {r:Go.Reach} {b0:Nat} {G:Nat→Option Nat} {sh:Sh} {v:Value} {d:DataW H} {ps:List MemPlace} (hval:Value.okWide Tryz.prog w r b0 35 v) (hd:DataW.Trod enc Tryz.prog w base spare held 35 v d ps) :
    ∃x:Zd,ATr w (Old w) G sh (.val true (pvL (Zc x))) v:=by
  obtain ⟨cs,rfl,_⟩:=okWide_struct Tryz.underlying35 hval
  obtain ⟨fuel,hf⟩:=hd
  obtain ⟨x,hx⟩:=Zrh fuel _ _ hf
  exact ⟨x,cs.toList,by simp,ZrV hx⟩
end
end Go.Proofs.YthilboheomikjaaGreatDoor
end
section
namespace Go.AL
variable {D:List Deferred}
variable {P:Program} {GL:List (Nat×List PV)} {C:Spec} {st:S} {N:Nat} {F:Exit→S→Prop}
def ZdU (pv:Value):List PanicEntry:=[{ v:=pv,recovered:=false }]
def ZaZ (l:List (List PV)):List Obj:=l.map fun ps=>.box (pvL ps)
def ZlC (P:Program) (GL:List (Nat×List PV)) (pv:Value) (f:FuncId) (args:List AT) (os:List Obj):Prop:=
  ∀(w:World) (I:Nat→Prop) (G:Nat→Option Nat) (vs:List Value),Sr GL w I G (ZG os)→As w I G (shape (ZG os)) args vs→
    Calls P f ⟨vs⟩ w fun e w'=>∃I' G' psl,e = .panicked (ZdU pv)∧psl.length=os.length∧Ext w w' I I' (Mine G (ZG os)) (Mine G' (ZG (ZaZ psl)))∧Sr GL w' I' G' (ZG (ZaZ psl))∧
      ZN (· < os.length) w w' I I' G G' (shape (ZG os)) (shape (ZG (ZaZ psl)))
def SimP (P:Program) (GL:List (Nat×List PV)) (pv:Value) (f:FuncId) (args:List AT) (os:List Obj):Option (AT×List Obj)→Prop
  | some (res,os')=>Sim P GL f args os res os'
  | none=>ZlC P GL pv f args os
theorem Znx (ids:List Nat):∀ps:List PV,renL ids (pvL ps)=some (pvL ps)
  | []=>rfl
  | p :: ps=>by
    have ih:=Znx ids ps
    simp only [pvL,List.map_cons,renL,renC] at ih ⊢
    rw [ih]
theorem Zeh (ids:List Nat):∀l:List (List PV),Zaw ids (ZaZ l)=some (ZaZ l)
  | []=>rfl
  | ps :: l=>by
    have ih:=Zeh ids l
    simp only [ZaZ,List.map_cons,Zaw,renO,Znx,Option.map_some] at ih ⊢
    rw [ih]
theorem ZdO {ops:List Oper} {hs_:List (Nat×Hint)} (hC:ZaY P GL C) (tail:List Oper):∀(pre:List Oper) (i:Nat) (st st':S) (O:List Prop) (w:World) (I:Nat→Prop) (G:Nat→Option Nat) (a:Act) (Q:Exit→Act→World→Prop),
    ZW P GL C N ops hs_ i pre st=some (st',O)→All O→Sr GL w I G st.os→Fr D w I G (shape st.os) N a st.env→
    (∀w' I' G' a',Ext w w' I I' (Mine G st.os) (Mine G' st'.os)→ZN (· < 100) w w' I I' G G' (shape st.os) (shape st'.os)→Sr GL w' I' G' st'.os→Fr D w' I' G' (shape st'.os) N a' st'.env→wpList P ops.toArray Q tail a' w')→
    wpList P ops.toArray Q (pre ++ tail) a w
  | [],i,st,st',O,w,I,G,a,Q,he,hO,hs,hf,hQ=>by
    cases he
    exact hQ w I G a (.refl _ _ _) (.refl _ _ _ _ _) hs hf
  | o :: rest,i,st,st',O,w,I,G,a,Q,he,hO,hs,hf,hQ=>by
    simp only [ZW] at he
    split at he
    · rename_i hw hd
      have hw':=Zbz hf hw
      rw [List.cons_append]
      unfold wpList
      rw [hw']
      simp only [Bool.false_eq_true,if_false]
      exact ZdO hC tail rest (i+1) _ st' O w I G _ Q he hO hs (Zgq hf hd (fun _ _ _ _ h=>h) ⟨[],rfl,rfl⟩) hQ
    · rename_i hw hd
      have hw':=Zbz hf hw
      split at he
      · cases he
      · rename_i x os O1 he1
        split at he
        · cases he
        · rename_i st2 O2 he2
          cases he
          obtain ⟨h1,h2⟩:=hO.append
          rw [List.cons_append]
          unfold wpList
          rw [hw']
          simp only [if_true]
          refine .inl (Zhs he1 h1 hC hs hf fun v w' I' G' e1 s1 x1 m1=>?_)
          exact ZdO hC tail rest (i+1) _ st' O2 w' I' G' _ Q he2 h2 s1 (Zgq hf hd m1.env x1) (fun w2 I2 G2 a2 e2 k2 s2 f2=>hQ w2 I2 G2 a2 (e1.trans e2) (m1.keeps.trans k2) s2 f2)
    · cases he
def Zqm (P:Program) (GL:List (Nat×List PV)) (C:Spec) (N:Nat) (l:List Oper) (hs_:List (Nat×Hint)) (n:Nat) (ids ts:List Nat) (st:S):Option (FuncId×List AT×List Obj×List (Nat×AT)×Objs×List Prop):=
  match ZW P GL C N l hs_ 0 (l.take n) st,l[n]? with
  | some (st1,O),some o=>match Zan l st1 o,o.op with
    | some true,.call ⟨.value (.func f),⟨xs⟩,_⟩=>match (P.funcs[f]?).map (fun fn=>(fn.body.isSome,fn.name == "runtime.NumGoroutine")),(opds GL st1 xs).bind (unAs ids),(ZY st1.os ids).bind (unOs ids),Nat.ble ids.length 100 with
      | some (true,false),some args,some os,true=>some (f,args,os,ZI st1.env ts,st1.os,O)
      | _,_,_,_=>none
    | _,_=>none
  | _,_=>none
theorem WA.regP {id:Nat} {l:List Oper} (n:Nat) (ids ts:List Nat) (hs_:List (Nat×Hint)) (pv:Value) {f:FuncId} {args:List AT} {os:List Obj} {env1:List (Nat×AT)} {os1:Objs} {O:List Prop}
    (he:Zqm P GL C N l hs_ n ids ts st=some (f,args,os,env1,os1,O)) (hC:ZaY P GL C) (hO:All O) (hnd:ids.Nodup) (hp:ZlC P GL pv f args os)
    (h:∀psl:List (List PV),psl.length=ids.length→F (.panic (ZdU pv)) ⟨env1,ZaM os1 ids (ZaZ psl)⟩) :
    WA P GL N (.region id l.toArray false) st F:=fun D w0 I0 G0 os0 w I G a h1 h2 h3 h4=>by
  unfold Zqm at he
  split at he
  · rename_i st1 O' o hev ho
    split at he
    · rename_i f' xs tys hw hop
      split at he
      · rename_i args' os' hfn hargs hos h100
        cases he
        have hn:=(List.getElem?_eq_some_iff.1 ho).1
        have hl:l=l.take n ++ (o :: l.drop (n+1)):=by
          have h2:=(List.getElem?_eq_some_iff.1 ho).2
          rw [←h2,←List.drop_eq_getElem_cons hn,List.take_append_drop]
        refine wp_region_list ?_
        have key:=ZdO (N:=N) (hs_:=hs_) hC (o :: l.drop (n+1)) (l.take n) 0 st st1 O w I G a (Post GL N D w0 I0 G0 os0 F) hev hO h3 h4 fun w' I' G' a' e k s fr=>?_
        · rw [←hl] at key;exact key
        · have hw':=Zbz fr hw
          unfold wpList
          rw [hw']
          simp only [if_true]
          refine .inl ?_
          obtain ⟨az,ha1,ha2⟩:=Zh hargs
          obtain ⟨zs,hz1,hz2⟩:=Zh hos
          obtain ⟨ho1,ho2⟩:=ZdV hz2
          have ho':Eqs (Zaw ids os) (ZY st1.os ids):=⟨zs,ho1,hz1⟩
          obtain ⟨yl,yg⟩:=Zbk hz1
          have hlen:ids.length=os.length:=by omega
          obtain ⟨hin,hshc⟩:=ZgE ho'
          have hGc:∀(p k:Nat),ids[p]?=some k→(fun k=>(ids[k]?).bind G') p=G' k:=fun p k h=>by simp [h]
          have hsc:=s.ren ho' hnd hlen
          have hargs2:=ZfK hGc hshc (Zij ha2) (Zmd s fr ha1)
          have hcall:=hp w' I' (fun k=>(ids[k]?).bind G') (xs.map a'.eval) hsc hargs2
          obtain ⟨fn,hfn1,hfb⟩:=map_some hfn
          simp only [Prod.mk.injEq] at hfb
          obtain ⟨dst,op,ty,pos,after,guard⟩:=o
          simp only at hop;subst hop
          unfold Oper.wp
          have hbody:fn.body.isNone=false:=by rw [←Option.not_isSome,hfb.1];rfl
          have hrun:(execOp a'.eval { dst,op:=.call ⟨.value (.func f),⟨xs⟩,tys⟩,type:=ty,pos,after,guard }).run P w' = .ok (.enter f (xs.map a'.eval).toArray) w':=by
            have hname:¬fn.name = "runtime.NumGoroutine":=by simpa using hfb.2
            have hbn:¬fn.body=none:=fun e=>by rw [e] at hbody;cases hbody
            simp [execOp,resolve,Act.eval,Deferred.ofValue,invoke,callFunc,hfn1]
            rw [if_neg hname,if_neg hbn]
          rw [hrun,Oper.upon_enter]
          refine Calls.imp hcall ?_
          rintro e' w2 ⟨I2,G1,psl,rfl,hpl,p1,p2,p3⟩
          have hbl:(ZaZ psl).length=psl.length:=by simp [ZaZ]
          obtain ⟨G2,q1,q2,q3,q4,q5⟩:=Zkn (new:=[]) (os':=ZaZ psl) (rs:=ZaZ psl) (os2:=ZaM st1.os ids (ZaZ psl)) s ho' hnd hlen (by rw [hbl,hpl,hlen];exact Nat.le_refl _) (Nat.le_of_ble_eq_true h100) (Zeh _ _)
            (by rw [List.take_of_length_le (by rw [hbl,hpl,hlen];exact Nat.le_refl _),List.drop_of_length_le (by rw [hbl,hpl,hlen];exact Nat.le_refl _)];rfl) p1 p2 p3
          exact ⟨I2,G2,_,(h1.trans e).trans q3,(h2.trans k).trans q5.keeps,q4,⟨fr.size,fr.defers,fun t x hx=>⟨(fr.slot t x (Z0 hx)).1,q5.env t x _ (Z0 hx) (fr.slot t x (Z0 hx)).2⟩⟩,h psl (by rw [hpl,hlen])⟩
      · cases he
    · cases he
  · cases he
end Go.AL
end
section
namespace Go.AL
variable {D:List Deferred}
variable {P:Program} {GL:List (Nat×List PV)} {C:Spec} {st:S} {N:Nat} {F:Exit→S→Prop}
def Znf (P:Program) (GL:List (Nat×List PV)) (C:Spec) (N:Nat) (l:List Oper) (ts:List Nat) (st:S):Option (TypeId×List (Nat×AT)×Objs×List Prop):=
  match l with
  | [o0,o1,o2]=>match ZW P GL C N [o0,o1,o2] [] 0 [o0] st,o1.op,o1.dst,o1.guard,o2.op,o2.guard with
    | some (st1,O),.makeInterface t (.tmp d0),some d1,none,.panic (.tmp d2),none=>match look st1.env d0,P.concrete t,Nat.beq d1 d2,Nat.blt d1 N with
      | some (.val true []),true,true,true=>match ts.all fun t=>!Nat.beq t d1 with
        | true=>some (t,ZI st1.env ts,st1.os,O)
        | false=>none
      | _,_,_,_=>none
    | _,_,_,_,_,_=>none
  | _=>none
theorem WA.bad {id:Nat} {l:List Oper} (ts:List Nat) {t:TypeId} {env1:List (Nat×AT)} {os1:Objs} {O:List Prop} (he:Znf P GL C N l ts st=some (t,env1,os1,O)) (hC:ZaY P GL C) (hO:All O)
    (h:F (.panic (ZdU (.iface t (.agg #[])))) ⟨env1,os1⟩):WA P GL N (.region id l.toArray false) st F:=fun D w0 I0 G0 os0 w I G a h1 h2 h3 h4=>by
  unfold Znf at he
  split at he
  · rename_i o0 o1 o2
    split at he
    · rename_i s1 O' t' d0 d1 d2 hev hop1 hd1 hg1 hop2 hg2
      split at he
      · rename_i hl hcc hdd hlt
        split at he
        case h_2=>cases he
        rename_i hts
        cases he
        have hdd:=Nat.eq_of_beq_eq_true hdd
        subst hdd
        have hlt:d1<N:=Nat.le_of_ble_eq_true hlt
        refine wp_region_list ?_
        refine ZdO (N:=N) (hs_:=[]) hC [o1,o2] [o0] 0 st s1 O w I G a (Post GL N D w0 I0 G0 os0 F) hev hO h3 h4 fun w' I' G' a' e k s fr=>?_
        obtain ⟨vs,hv,hvs⟩:=(fr.slot d0 _ hl).2
        have hvs0:vs=[]:=by
          have h':CSr w' I' G' (shape s1.os) [] vs:=hvs
          cases vs with
          | nil=>rfl
          | cons v vs=>exact absurd h' (by simp [CSr])
        subst hvs0
        obtain ⟨dst1,op1,ty1,pos1,af1,gd1⟩:=o1
        obtain ⟨dst2,op2,ty2,pos2,af2,gd2⟩:=o2
        simp only at hop1 hd1 hg1 hop2 hg2
        subst hop1;subst hd1;subst hg1;subst hop2;subst hg2
        unfold wpList
        rw [show ∀y,Region.wanted ⟨some d1,.makeInterface t (.tmp d0),ty1,pos1,af1,none⟩ y=true from fun _=>rfl]
        simp only [if_true]
        refine .inl ?_
        unfold Oper.wp
        have hr1:(execOp a'.eval ⟨some d1,.makeInterface t (.tmp d0),ty1,pos1,af1,none⟩).run P w' = .ok (.value (.iface t (.agg #[]))) w':=by
          have:a'.eval (.tmp d0) = .agg #[]:=hv
          simp [execOp,this,run_makeInterface _ _ _ hcc]
        rw [hr1]
        show wpList P _ _ _ (a'.put (some d1) (.iface t (.agg #[]))) w'
        unfold wpList
        rw [show ∀y,Region.wanted ⟨dst2,.panic (.tmp d1),ty2,pos2,af2,none⟩ y=true from fun _=>rfl]
        simp only [if_true]
        refine .inl ?_
        unfold Oper.wp
        have hr2:(execOp (a'.put (some d1) (.iface t (.agg #[]))).eval ⟨dst2,.panic (.tmp d1),ty2,pos2,af2,none⟩).run P w' = .halt (.panic (.iface t (.agg #[]))) w':=by
          have:(a'.put (some d1) (.iface t (.agg #[]))).eval (.tmp d1) = .iface t (.agg #[]):=by
            show (a'.tmps.setIfInBounds d1 _).getD d1 undef=_
            rw [Array.getD_eq_getD_getElem?,Array.getElem?_setIfInBounds_self_of_lt (by rw [fr.size];exact hlt)];rfl
          simp [execOp,this,Instr.panic,goPanic]
        rw [hr2,Oper.upon_panic]
        refine ⟨I',G',⟨ZI s1.env ts,s1.os⟩,h1.trans e,h2.trans k,s,⟨?_,?_,fun u x hx=>?_⟩,h⟩
        · simp [Act.put,fr.size]
        · simp [Act.put,fr.defers]
        · have hmem:∀{l:List Nat},look (ZI s1.env l) u=some x→u∈l:=by
            intro l
            induction l with
            | nil=>intro h;cases h
            | cons q l ih=>
              intro h
              simp only [ZI] at h
              split at h
              · rw [ZD] at h
                split at h
                · subst_vars;simp
                · exact List.mem_cons_of_mem _ (ih h)
              · exact List.mem_cons_of_mem _ (ih h)
          have hne:u≠d1:=fun e=>by
            have:=List.all_eq_true.1 hts u (hmem hx)
            rw [e,Nat.beq_refl] at this;cases this
          have hp:(a'.put (some d1) (.iface t (.agg #[]))).tmps.getD u undef=a'.tmps.getD u undef:=by
            show (a'.tmps.setIfInBounds d1 _).getD u undef=_
            rw [Array.getD_eq_getD_getElem?,Array.getElem?_setIfInBounds_ne (Ne.symm hne),←Array.getD_eq_getD_getElem?]
          rw [hp]
          exact fr.slot u x (Z0 hx)
      · cases he
    · cases he
  · cases he
def OutP (P:Program) (pv:Value) (rv:List ResultVar) (outs:List Nat) (m:Nat):Option (AT×List Obj)→Exit→S→Prop
  | some (res,os'),e,s=>Out P rv outs m res os' e s
  | none,.panic ch,s=>ch=ZdU pv∧∃psl,ZY s.os (List.range m)=some (ZaZ psl)∧psl.length=m
  | none,_,_=>False
theorem Zbl {f:FuncId} {fn:Func} {code:Code} {args:List AT} {os:List Obj} {pv:Value} {o:Option (AT×List Obj)} (outs:List Nat) (hf:P.funcs[f]?=some fn) (hb:fn.body=some code) (hn:Nat.ble args.length fn.ntmps=true)
    (hm:Nat.ble os.length 100=true) (h:WA P GL fn.ntmps code ⟨numA 0 args,ZG os⟩ (OutP P pv fn.results.toList outs os.length o)):SimP P GL pv f args os o:=by
  cases o with
  | some r=>exact Zz outs hf hb hn hm h
  | none=>
    have hn:=Nat.le_of_ble_eq_true hn
    have hm:=Nat.le_of_ble_eq_true hm
    intro w I G vs hs ha
    obtain ⟨hal,hag⟩:=ha.get
    refine calls_of_wp hf hb (wp_mono (h [] w I G (ZG os) w I G _ (.refl _ _ _) (.refl _ _ _ _ _) hs ?_) ?_)
    · refine ⟨by simp [hal];omega,rfl,fun t x hx=>?_⟩
      simp only [Zgr,Nat.zero_le,if_true,Nat.sub_zero] at hx
      obtain ⟨v,hv,hr⟩:=hag t x hx
      have hlt:=(List.getElem?_eq_some_iff.1 hx).1
      refine ⟨by omega,?_⟩
      rw [Array.getD_eq_getD_getElem?,Array.getElem?_append_left (by simp [hal];omega)]
      simp only [List.getElem?_toArray,hv];exact hr
    · rintro e a' w' ⟨I',G',s,q1,q2,q3,q4,q5⟩
      cases e with
      | panic ch=>
        obtain ⟨rfl,psl,r1,r2⟩:=q5
        have hEq:Eqs (Zaw (List.range os.length) (ZaZ psl)) (ZY s.os (List.range os.length)):=⟨_,Zeh _ _,r1⟩
        have hbl:(ZaZ psl).length=psl.length:=by simp [ZaZ]
        obtain ⟨hin,hsh⟩:=ZgE hEq
        have hnd:(List.range os.length).Nodup:=List.nodup_range
        have hG:∀(p k:Nat),(List.range os.length)[p]?=some k→(fun k=>((List.range os.length)[k]?).bind G') p=G' k:=fun p k h=>by simp [h]
        refine ⟨q4.defers,I',fun k=>((List.range os.length)[k]?).bind G',psl,rfl,r2,?_,q3.ren hEq hnd (by simp [hbl,r2]),?_⟩
        · refine ⟨q1.size,q1.os,q1.tape,q1.output,q1.keep,q1.imm,q1.inew,fun b hb=>?_⟩
          obtain ⟨p,o,h1,h2⟩:=hb
          rw [ZK] at h1
          cases hk:(List.range os.length)[p]? with
          | none=>simp [hk] at h2
          | some k=>
            obtain ⟨_,o',_,_,h3⟩:=hin p k hk
            exact q1.mnew b ⟨k,o',h3,by simpa [hk] using h2⟩
        · refine ⟨q2.heap,q2.imm,fun p s' m hp hsp=>?_⟩
          have hp':p<os.length:=hp
          have hk:(List.range os.length)[p]?=some p:=List.getElem?_range hp'
          rw [hsh p p hk] at hsp
          obtain ⟨m0,e1,e2,e3⟩:=q2.objs p s' m (by show p<100;omega) hsp
          refine ⟨m0,e1,e2,fun e=>?_⟩
          have:=e3 e
          simpa [hk] using this
      | normal=>exact q5.elim
      | ret=>exact q5.elim
      | exit _=>exact q5.elim
      | goto _=>exact q5.elim
      | outgrown=>exact q5.elim
def orP {α β:Type} (o:Option (Option α)) (f:α→Option (Option β)):Option (Option β):=o.bind fun y=>match y with
  | none=>some none
  | some z=>f z
theorem Zab {α β:Type} {o:Option (Option α)} {f:α→Option (Option β)} {r:Option β} (h:orP o f=some r):(o=some none∧r=none)∨∃z,o=some (some z)∧f z=some r:=by
  unfold orP at h
  cases o with
  | none=>cases h
  | some y=>
    cases y with
    | none=>cases h;exact .inl ⟨rfl,rfl⟩
    | some z=>exact .inr ⟨z,rfl,h⟩
theorem Z1 {α:Type} {l:List α} (h:l.length=1):∃x,l=[x]:=by
  match l,h with
  | [x],_=>exact ⟨x,rfl⟩
end Go.AL
end
section
namespace Go.AL
variable {D:List Deferred}
variable {P:Program} {GL:List (Nat×List PV)} {C:Spec} {st:S} {N:Nat} {F:Exit→S→Prop}
theorem WA.nilTest {id:Nat} {d1 d2 x t e ty1 ty2 ty3:Nat} {p1 p2:String} {a1 a2:Array Edge} {els:List (List PV)} (ho:look st.env x=some (one (.sl els))) (hu:P.underlying t=some (.slice e)) (hd1:Nat.blt d1 N=true) (hd2:Nat.blt d2 N=true)
    (h:∀b:Bool,(b=true→els=[])→F .normal ⟨(d2,one (.bool b)) :: (d1,one (.sl els)) :: st.env,st.os⟩) :
    WA P GL N (.region id (List.toArray [⟨some d1,.move (.tmp x),ty1,p1,a1,none⟩,⟨some d2,.binOp .eql t (.tmp d1) (.const (.slice none 0 0)) ty3,ty2,p2,a2,none⟩]) false) st F:=fun D w0 I0 G0 os0 w I G a h1 h2 h3 h4=>by
  refine wp_region_list ?_
  have hev:ZW P GL (Sim P GL) N [⟨some d1,.move (.tmp x),ty1,p1,a1,none⟩,⟨some d2,.binOp .eql t (.tmp d1) (.const (.slice none 0 0)) ty3,ty2,p2,a2,none⟩] [] 0 [⟨some d1,.move (.tmp x),ty1,p1,a1,none⟩] st=some (⟨(d1,one (.sl els)) :: st.env,st.os⟩,[]):=by
    simp [ZW,Zan,Zd0,hd1,Z3,Zw,look,opd,ho,putE]
  refine ZdO (N:=N) (hs_:=[]) (sound P GL) [_] [_] 0 st _ [] w I G a (Post GL N D w0 I0 G0 os0 F) hev trivial h3 h4 fun w' I' G' a' ee k s fr=>?_
  have hl:look ((d1,one (.sl els)) :: st.env) d1=some (one (.sl els)):=by simp [ZD]
  have hv:PVr w' I' (.sl els) (a'.tmps.getD d1 undef):=ZH (fr.slot d1 _ hl).2
  obtain ⟨A,l,c,hval,hnil⟩:∃A l c,a'.tmps.getD d1 undef = .slice A l c∧(A.isNone=true→els=[]):=by
    generalize a'.tmps.getD d1 undef=v at hv
    cases hv with
    | sl0 A c=>exact ⟨A,0,c,rfl,fun _=>rfl⟩
    | sl els b o c s' vals hI hc hss hm hr'=>exact ⟨_,_,_,rfl,fun h=>by cases h⟩
  unfold wpList
  rw [show ∀y,Region.wanted ⟨some d2,.binOp .eql t (.tmp d1) (.const (.slice none 0 0)) ty3,ty2,p2,a2,none⟩ y=true from fun _=>rfl]
  simp only [if_true]
  refine .inl ?_
  unfold Oper.wp
  have hr:(execOp a'.eval ⟨some d2,.binOp .eql t (.tmp d1) (.const (.slice none 0 0)) ty3,ty2,p2,a2,none⟩).run P w' = .ok (.value (.bool A.isNone)) w':=by
    have h5:a'.eval (.tmp d1) = .slice A l c:=hval
    have h6:a'.eval (.const (.slice none 0 0)) = .slice none 0 0:=rfl
    simp [execOp,h5,h6,eqGuard,binOp,run_equal_slice_nil w' t e A l c hu]
  rw [hr]
  show Post GL N D w0 I0 G0 os0 F .normal (a'.put (some d2) (.bool A.isNone)) w'
  have hd2':Zd0 N (⟨some d2,.binOp .eql t (.tmp d1) (.const (.slice none 0 0)) ty3,ty2,p2,a2,none⟩:Oper)=true:=hd2
  have hx:ATr w' I' G' (shape st.os) (one (.bool A.isNone)) (.bool A.isNone):=⟨_,rfl,.bool _⟩
  exact ⟨I',G',⟨(d2,one (.bool A.isNone)) :: (d1,one (.sl els)) :: st.env,st.os⟩,h1.trans ee,h2.trans k,s,Zgq (o:=⟨some d2,.binOp .eql t (.tmp d1) (.const (.slice none 0 0)) ty3,ty2,p2,a2,none⟩) (st:=⟨(d1,one (.sl els)) :: st.env,st.os⟩) (os':=st.os) fr hd2' (fun _ _ _ _ h=>h) hx,h A.isNone hnil⟩
end Go.AL
end
section
namespace Go.Proofs.YthilboheomikjaaGreatDoor
open Go.AL
variable {μ:Int}
set_option maxRecDepth 100000
def Zlr (a:Int×Int) (b:Bool):Option (Int×Int):=
  cond b ((some ((-1),1))) (((some ((w64 a.1),a.2))))
def Zlq (k:Nat) (v0:List UInt8) (v1:Int) (b:Bool):Option (Int×Int):=
  cond b ((some (0,0))) ((if (0:Int)≤v1∧(v1:Int)≤(v0.length:Int)∧(v0.length:Int)≤(v0.length:Int) then (F80 k ((v0.take (Int.toNat (v0.length:Int))).drop (Int.toNat v1))).bind fun a=>(cond (a.1 == 65533) ((Zlr a (a.2 == 1))) ((Zlr a false))) else none))
def F55 (k:Nat) (v0:List UInt8) (v1:Int):Option (Int×Int):=
  (cond (decide (v1<0)) ((Zlq k v0 v1 true)) ((Zlq k v0 v1 (decide (v1≥(v0.length:Int))))))
theorem Zls (k:Nat) (v0:List UInt8) (v1:Int) (r:Int×Int) (c:F55 k v0 v1=some r):SM μ 55 [one (.str v0),oi v1] [] (.tup [(false,[.pv (.int .i64 r.1)]),(false,[.pv (.int .i64 r.2)])]) []:=by
 refine Zz [] Tryz.func55 rfl kr kr ?_
 show WA _ _ 32 _ _ _
 refine Ws [] [(0,one (.str v0)),(1,oi v1)] [] ?_
 refine WA.seq ?_
 refine WA.join (fun m=>∃(i:Bool),J m [(0,one (.str v0)),(1,oi v1),(15,ob i)] []∧Zlq k v0 v1 i=some r) ?_ ?_
 {
 rintro m ⟨i,l,c⟩
 refine Wj l ?_
 clear l
 refine WA.cond (b:=i) rfl (fun f=>?_) (fun f=>?_)
 {
 have c:=Zk c f
 refine Ws [] [(4,oi 0),(5,oi 0)] [] ?_
 refine WA.ret ?_
 obtain rfl:=zj_ c
 exact Zo (.tup [(false,[.pv (.int .i64 0)]),(false,[.pv (.int .i64 0)])]) [] kr kr kr kr nd rfl rfl }
 {
 have c:=Zj c f
 refine WA.skip ?_
 obtain ⟨h,c⟩:=Zn c
 obtain ⟨a,n,c⟩:=Zh c
 refine Wos [(3,.callR [] (.tup [(false,[.pv (.int .i32 a.1)]),(false,[.pv (.int .i64 a.2)])]))] [(6,one (.int .i32 a.1)),(7,oi a.2)] [] [(0:Int)≤v1,(v1:Int)≤(v0.length:Int),(v0.length:Int)≤(v0.length:Int),SM μ 80 [one (.str ((v0.take (Int.toNat (v0.length:Int))).drop (Int.toNat v1)))] [] (.tup [(false,[.pv (.int .i32 a.1)]),(false,[.pv (.int .i64 a.2)])]) [],([]:List Nat).Nodup] ⟨h.1,h.2.1,h.2.2,(ZrI k _ _ n),nd,trivial⟩ ?_
 refine WA.seq ?_
 refine WA.join (fun m=>∃(j:Bool),J m [(6,one (.int .i32 a.1)),(7,oi a.2),(28,ob j)] []∧Zlr a j=some r) ?_ ?_
 {
 rintro m ⟨j,l,c⟩
 refine Wj l ?_
 clear l
 refine WA.cond (b:=j) rfl (fun g=>?_) (fun g=>?_)
 {
 have c:=Zk c g
 refine Ws [] [(4,oi (-1)),(5,oi 1)] [] ?_
 refine WA.ret ?_
 obtain rfl:=zj_ c
 exact Zo (.tup [(false,[.pv (.int .i64 (-1))]),(false,[.pv (.int .i64 1)])]) [] kr kr kr kr nd rfl rfl }
 {
 have c:=Zj c g
 refine WA.skip ?_
 refine Ws [] [(4,oi (w64 a.1)),(5,oi a.2)] [] ?_
 refine WA.ret ?_
 obtain rfl:=zj_ c
 exact Zo (.tup [(false,[.pv (.int .i64 (w64 a.1))]),(false,[.pv (.int .i64 a.2)])]) [] kr kr kr kr nd rfl rfl } }
 {
 rcases zo_ (a.1 == 65533) with e | e
 {
 have c:=Zk c e
 refine Wo [(2,.bool true)] [(6,one (.int .i32 a.1)),(7,oi a.2),(28,ob (a.2 == 1))] [] [(a.1 == 65533)=true] ⟨e,trivial⟩ ?_
 exact ⟨(a.2 == 1),jk,c⟩ }
 {
 have c:=Zj c e
 refine Wo [(2,.bool false)] [(6,one (.int .i32 a.1)),(7,oi a.2),(28,ob false)] [] [(a.1 == 65533)=false] ⟨e,trivial⟩ ?_
 exact ⟨false,jk,c⟩ } } } }
 {
 rcases zo_ (decide (v1<0)) with d | d
 {
 have c:=Zk c d
 refine Wo [(2,.bool true)] [(0,one (.str v0)),(1,oi v1),(15,ob true)] [] [(decide (v1<0))=true] ⟨d,trivial⟩ ?_
 exact ⟨true,jk,c⟩ }
 {
 have c:=Zj c d
 refine Wo [(2,.bool false)] [(0,one (.str v0)),(1,oi v1),(15,ob (decide (v1≥(v0.length:Int))))] [] [(decide (v1<0))=false] ⟨d,trivial⟩ ?_
 exact ⟨(decide (v1≥(v0.length:Int))),jk,c⟩ } }
def F49 (k:Nat) (v0:List UInt8):Option Bool:=
  (F72 k v0).bind fun a=>(some a)
theorem ZiF (k:Nat) (v0:List UInt8) (r:Bool) (c:F49 k v0=some r):SM μ 49 [one (.str v0)] [] (ob r) []:=by
 refine Zz [] Tryz.func49 rfl kr kr ?_
 show WA _ _ 5 _ _ _
 refine Ws [] [(0,one (.str v0))] [] ?_
 obtain ⟨a,b,c⟩:=Zh c
 refine Wos [(1,.callR [] (ob a))] [(2,ob a)] [] [SM μ 72 [one (.str v0)] [] (ob a) [],([]:List Nat).Nodup] ⟨(ZrG k _ _ b),nd,trivial⟩ ?_
 refine WA.ret ?_
 obtain rfl:=zj_ c
 exact Zo (ob a) [] kr kr kr kr nd rfl rfl
def F59 (k:Nat):Option (List Zb):=
  ((some ([(⟨0,55295⟩:Zb),(⟨57344,1114111⟩:Zb)]:List Zb)))
theorem ZeT (k:Nat) (r:List Zb) (a:F59 k=some r):SM μ 59 [] [] (one (.sl (r.map Za))) []:=by
 refine Zz [] Tryz.func59 rfl kr kr ?_
 show WA _ _ 4 _ _ _
 refine Ws [] [] [] ?_
 refine Ws [] [(0,one (.sl (([(⟨0,55295⟩:Zb),(⟨57344,1114111⟩:Zb)]:List Zb).map Za)))] [] ?_
 refine WA.ret ?_
 obtain rfl:=zj_ a
 exact Zo (one (.sl (([(⟨0,55295⟩:Zb),(⟨57344,1114111⟩:Zb)]:List Zb).map Za))) [] kr kr kr kr nd rfl rfl
def F58 (k:Nat) (v0:List Zb):Option Zd:=
  ((some (⟨1,v0,([]:List Zd),0,0⟩:Zd)))
theorem ZeS (k:Nat) (v0:List Zb) (r:Zd) (a:F58 k v0=some r):SM μ 58 [one (.sl (v0.map Za))] [] (tv (Zc r)) []:=by
 refine Zz [] Tryz.func58 rfl kr kr ?_
 show WA _ _ 5 _ _ _
 refine Ws [(0,.obj 102)] [(0,one (.sl (v0.map Za))),(2,pt 102)] [(102,bx (Zc (⟨0,([]:List Zb),([]:List Zd),0,0⟩:Zd)))] ?_
 refine Ws [] [(2,pt 102)] [(102,bx (Zc (⟨1,v0,([]:List Zd),0,0⟩:Zd)))] ?_
 refine WA.ret ?_
 obtain rfl:=zj_ a
 exact Zo (tv (Zc (⟨1,v0,([]:List Zd),0,0⟩:Zd))) [] kr kr kr kr nd rfl rfl
def ZeA (a:Int→Int→Option Int) (b:Int) (c:Int):Option Int:=
  a c (w64 (b+1))
def ZbK (R32:Zd→Option Int) (a:Int→Int→Option Int) (b:Int) (c:Int) (e:Zd) (d:Bool):Option Int:=
  cond d ((R32 e).bind fun f=>(ZeA a c (mn (w64 (b+f)) 1000))) ((ZeA a c b))
def Zb6 (a:Int) (b:Int):Option Int:=
  (some (mn (w64 ((w64 (a*(mn (mx b 1) 1000)))+1)) 1000))
def ZaR (R32:Zd→Option Int) (c:Int→Int→Option Int) (v0:Zd) (a:Int) (b:Int):Option Int:=
  (cond (decide (b<(v0.f_L.length:Int))) ((idxL v0.f_L b).bind fun d=>(cond (v0.f_Kind == 2) ((ZbK R32 c a b d true)) (cond (v0.f_Kind == 3) ((ZbK R32 c a b d true)) (cond (v0.f_Kind == 4) ((ZbK R32 c a b d (b == 0))) ((ZbK R32 c a b d false)))))) ((((cond (v0.f_Kind == 1) ((some 1)) ((cond (v0.f_Kind == 4) (((cond (decide (v0.f_Max<0)) ((Zb6 a (w64 (v0.f_Min+1)))) ((Zb6 a v0.f_Max))))) (((some (mn (w64 (a+1)) 1000)))))))))))
def ZaK (R32:Zd→Option Int) (v0:Zd):Nat→Int→Int→Option Int
  | 0,_,_=>none
  | c+1,a,b=>ZaR R32 (ZaK R32 v0 c) v0 a b
def Zqb (R32:Zd→Option Int) (k:Nat) (v0:Zd):Option Int:=
  (((ZaK R32 v0 k 0 0)))
theorem Zpl (R32:Zd→Option Int) (IH32:∀(v0:Zd) (r:Int),R32 v0=some r→SM μ 32 [tv (Zc v0)] [] (oi r) []) (k:Nat) (v0:Zd) (r:Int) (a:Zqb R32 k v0=some r):SM μ 32 [tv (Zc v0)] [] (oi r) []:=by
 refine Zz [] Tryz.func32 rfl kr kr ?_
 show WA _ _ 61 _ _ _
 refine Ws [(0,.obj 101)] [(1,pt 101)] [(101,bx (Zc v0))] ?_
 refine Ws [] [(1,pt 101),(3,oi 0)] [(101,bx (Zc v0))] ?_
 refine WA.seq ?_
 refine WA.seq ?_
 refine Wm ((Zm v0.f_L).length:Int) (v0.f_L.length:Int) (fun m_=>([(1,pt 101),(3,oi 0),(8,one (.sl (Zm v0.f_L))),(9,oi m_),(10,oi 0)],[(101,bx (Zc v0))],[])) ((by first | (simp only [zl,Zi];done) | (simp only [zl,Zi];omega) | omega)) [] trivial ?_
 refine WA.block ?_
 refine WA.loop (fun m l=>∃(c:Int) (d:Int),J l [(1,pt 101),(3,oi c),(8,one (.sl (Zm v0.f_L))),(9,oi (v0.f_L.length:Int)),(10,oi d)] [(101,bx (Zc v0))]∧ZaK R32 v0 m c d=some r) k ⟨0,0,jk,a⟩ ?_
 clear a
 rintro m4 l ⟨c,d,j,a⟩
 refine Wj j ?_
 clear j
 cases m4 with
 | zero=>cases a
 | succ m4=>
  obtain ⟨v,y⟩:∃g,g=ZaK R32 v0 m4:=⟨_,rfl⟩
  have a:ZaR R32 v v0 c d=some r:=by first | (rw [y];exact a) | exact a
  refine Ws [] [(1,pt 101),(3,oi c),(8,one (.sl (Zm v0.f_L))),(9,oi (v0.f_L.length:Int)),(10,oi d),(11,ob (decide (d<(v0.f_L.length:Int))))] [(101,bx (Zc v0))] ?_
  refine WA.seq ?_
  refine WA.cond (b:=(decide (d<(v0.f_L.length:Int)))) rfl (fun p=>?_) (fun p=>?_)
  {
 have a:=Zk a p
 refine WA.skip ?_
 refine WA.join (fun l=>∃(n:Int),J l [(1,pt 101),(3,oi n),(8,one (.sl (Zm v0.f_L))),(9,oi (v0.f_L.length:Int)),(10,oi d)] [(101,bx (Zc v0))]∧ZeA v d n=some r) ?_ ?_
 {
 rintro l ⟨n,j,a⟩
 refine Wj j ?_
 clear j
 refine Wr [] [(1,pt 101),(3,oi n),(8,one (.sl (Zm v0.f_L))),(9,oi (v0.f_L.length:Int)),(10,oi (w64 (d+1)))] [(101,bx (Zc v0))] ?_
 exact ⟨m4,zl_ _,n,(w64 (d+1)),jk,by rw [y] at a;exact a⟩ }
 {
 refine WA.block ?_
 obtain ⟨e,z,a⟩:=Zh a
 refine Wos [(1,.cells (Zc e)),(3,.obj 105)] [(1,pt 101),(3,oi c),(4,oi d),(5,pt 105),(8,one (.sl (Zm v0.f_L))),(9,oi (v0.f_L.length:Int)),(10,oi d)] [(101,bx (Zc v0)),(105,bx (Zc e))] [idxL (Zm v0.f_L) d=some (Zc e)] ⟨(ZO z),trivial⟩ ?_
 refine WA.join (fun l=>∃(w:Bool),J l [(1,pt 101),(3,oi c),(5,pt 105),(8,one (.sl (Zm v0.f_L))),(9,oi (v0.f_L.length:Int)),(10,oi d),(31,ob w)] [(101,bx (Zc v0)),(105,bx (Zc e))]∧ZbK R32 v c d e w=some r) ?_ ?_
 {
 rintro l ⟨w,j,a⟩
 refine Wj j ?_
 clear j
 refine WA.cond (b:=w) rfl (fun q=>?_) (fun q=>?_)
 {
 have a:=Zk a q
 obtain ⟨x,a0,a⟩:=Zh a
 refine Wo [(2,.callR [] (oi x))] [(1,pt 101),(3,oi (mn (w64 (c+x)) 1000)),(8,one (.sl (Zm v0.f_L))),(9,oi (v0.f_L.length:Int)),(10,oi d)] [(101,bx (Zc v0))] [SM μ 32 [tv (Zc e)] [] (oi x) [],([]:List Nat).Nodup] ⟨(IH32 _ _ a0),nd,trivial⟩ ?_
 exact ⟨(mn (w64 (c+x)) 1000),jk,a⟩ }
 {
 have a:=Zj a q
 refine WA.skip ?_
 exact ⟨c,jk,a⟩ } }
 {
 rcases zo_ (v0.f_Kind == 2) with f | f
 {
 have a:=Zk a f
 refine Wo [(3,.bool true)] [(1,pt 101),(3,oi c),(5,pt 105),(8,one (.sl (Zm v0.f_L))),(9,oi (v0.f_L.length:Int)),(10,oi d),(31,ob true)] [(101,bx (Zc v0)),(105,bx (Zc e))] [(v0.f_Kind == 2)=true] ⟨f,trivial⟩ ?_
 exact ⟨true,jk,a⟩ }
 {
 have a:=Zj a f
 rcases zo_ (v0.f_Kind == 3) with h | h
 {
 have a:=Zk a h
 refine Wo [(3,.bool false),(8,.bool true)] [(1,pt 101),(3,oi c),(5,pt 105),(8,one (.sl (Zm v0.f_L))),(9,oi (v0.f_L.length:Int)),(10,oi d),(31,ob true)] [(101,bx (Zc v0)),(105,bx (Zc e))] [(v0.f_Kind == 2)=false,(v0.f_Kind == 3)=true] ⟨f,h,trivial⟩ ?_
 exact ⟨true,jk,a⟩ }
 {
 have a:=Zj a h
 rcases zo_ (v0.f_Kind == 4) with i | i
 {
 have a:=Zk a i
 refine Wo [(3,.bool false),(8,.bool false),(12,.bool true)] [(1,pt 101),(3,oi c),(5,pt 105),(8,one (.sl (Zm v0.f_L))),(9,oi (v0.f_L.length:Int)),(10,oi d),(31,ob (d == 0))] [(101,bx (Zc v0)),(105,bx (Zc e))] [(v0.f_Kind == 2)=false,(v0.f_Kind == 3)=false,(v0.f_Kind == 4)=true] ⟨f,h,i,trivial⟩ ?_
 exact ⟨(d == 0),jk,a⟩ }
 {
 have a:=Zj a i
 refine Wo [(3,.bool false),(8,.bool false),(12,.bool false)] [(1,pt 101),(3,oi c),(5,pt 105),(8,one (.sl (Zm v0.f_L))),(9,oi (v0.f_L.length:Int)),(10,oi d),(31,ob false)] [(101,bx (Zc v0)),(105,bx (Zc e))] [(v0.f_Kind == 2)=false,(v0.f_Kind == 3)=false,(v0.f_Kind == 4)=false] ⟨f,h,i,trivial⟩ ?_
 exact ⟨false,jk,a⟩ } } } } } }
  {
 have a:=Zj a p
 refine WA.exit ?_
 refine WA.seq ?_
 refine Ws [] [(1,pt 101),(3,oi c),(39,oi v0.f_Kind)] [(101,bx (Zc v0))] ?_
 refine WA.block ?_
 refine Ws [] [(1,pt 101),(3,oi c),(39,oi v0.f_Kind),(40,ob (v0.f_Kind == 1))] [(101,bx (Zc v0))] ?_
 refine WA.cond (b:=(v0.f_Kind == 1)) rfl (fun s=>?_) (fun s=>?_)
 {
 have a:=Zk a s
 refine Ws [] [(2,oi 1)] [] ?_
 refine WA.ret ?_
 obtain rfl:=zj_ a
 exact Zo (oi 1) [] kr kr kr kr nd rfl rfl }
 {
 have a:=Zj a s
 refine Ws [] [(1,pt 101),(3,oi c),(42,ob (v0.f_Kind == 4))] [(101,bx (Zc v0))] ?_
 refine WA.cond (b:=(v0.f_Kind == 4)) rfl (fun t=>?_) (fun t=>?_)
 {
 have a:=Zk a t
 refine Ws [] [(1,pt 101),(3,oi c),(6,oi v0.f_Max)] [(101,bx (Zc v0))] ?_
 refine WA.join (fun l=>∃(o:Int),J l [(3,oi c),(6,oi o)] []∧Zb6 c o=some r) ?_ ?_
 {
 rintro l ⟨o,j,a⟩
 refine Wj j ?_
 clear j
 refine Ws [] [(2,oi (mn (w64 ((w64 (c*(mn (mx o 1) 1000)))+1)) 1000))] [] ?_
 refine WA.ret ?_
 obtain rfl:=zj_ a
 exact Zo (oi (mn (w64 ((w64 (c*(mn (mx o 1) 1000)))+1)) 1000)) [] kr kr kr kr nd rfl rfl }
 {
 refine Ws [] [(1,pt 101),(3,oi c),(6,oi v0.f_Max),(47,ob (decide (v0.f_Max<0)))] [(101,bx (Zc v0))] ?_
 refine WA.cond (b:=(decide (v0.f_Max<0))) rfl (fun u=>?_) (fun u=>?_)
 {
 have a:=Zk a u
 refine Wr [] [(3,oi c),(6,oi (w64 (v0.f_Min+1)))] [] ?_
 exact ⟨(w64 (v0.f_Min+1)),jk,a⟩ }
 {
 have a:=Zj a u
 refine WA.skip ?_
 exact ⟨v0.f_Max,jk,a⟩ } } }
 {
 have a:=Zj a t
 refine WA.skip ?_
 refine Ws [] [(2,oi (mn (w64 (c+1)) 1000))] [] ?_
 refine WA.ret ?_
 obtain rfl:=zj_ a
 exact Zo (oi (mn (w64 (c+1)) 1000)) [] kr kr kr kr nd rfl rfl } } }
def F32:Nat→Zd→Option Int
  | 0,_=>none
  | k+1,v0=>Zqb (F32 k) k v0
theorem Zir:∀(k:Nat),∀(v0:Zd) (r:Int),F32 k v0=some r→SM μ 32 [tv (Zc v0)] [] (oi r) []
  | 0=>fun _ _ a=>by cases a
  | k+1=>fun v0 r a=>Zpl (F32 k) (Zir k) k v0 r a
def ZeZ (d:Int→Option Bool) (v0:List Zb) (v1:List Zb) (a:Int):Option Bool:=
  (cond (decide (a<(v0.length:Int))) (((idxL v0 a).bind fun b=>(idxL v1 a).bind fun c=>(cond (!((b.f_Lo == c.f_Lo) && ((b.f_Hi == c.f_Hi) && true))) ((some false)) ((d (w64 (a+1))))))) (((some true))))
def Ze0 (v0:List Zb) (v1:List Zb):Nat→Int→Option Bool
  | 0,_=>none
  | b+1,a=>ZeZ (Ze0 v0 v1 b) v0 v1 a
def F75 (k:Nat) (v0:List Zb) (v1:List Zb):Option Bool:=
  ((cond ((v0.length:Int) != (v1.length:Int)) ((some false)) (((Ze0 v0 v1 k 0)))))
theorem ZrH (k:Nat) (v0:List Zb) (v1:List Zb) (r:Bool) (c:F75 k v0 v1=some r):SM μ 75 [one (.sl (v0.map Za)),one (.sl (v1.map Za))] [] (ob r) []:=by
 refine Zz [] Tryz.func75 rfl kr kr ?_
 show WA _ _ 26 _ _ _
 refine Ws [] [(0,one (.sl (v0.map Za))),(1,one (.sl (v1.map Za)))] [] ?_
 refine WA.seq ?_
 refine WA.seq ?_
 refine Wm ((((v0.map Za).length:Int),((v1.map Za).length:Int)):Int×Int) ((v0.length:Int),(v1.length:Int)) (fun o=>([(0,one (.sl (v0.map Za))),(1,one (.sl (v1.map Za))),(10,ob (o.1 != o.2))],[],[])) (ZJ (by first | (simp only [zl,Zi];done) | (simp only [zl,Zi];omega) | omega) (by first | (simp only [zl,Zi];done) | (simp only [zl,Zi];omega) | omega)) [] trivial ?_
 refine WA.cond (b:=((v0.length:Int) != (v1.length:Int))) rfl (fun f=>?_) (fun f=>?_)
 {
 have c:=Zk c f
 refine Ws [] [(4,ob false)] [] ?_
 refine WA.ret ?_
 obtain rfl:=zj_ c
 exact Zo (ob false) [] kr kr kr kr nd rfl rfl }
 {
 have c:=Zj c f
 refine WA.skip ?_
 refine WA.seq ?_
 refine WA.seq ?_
 refine Wm ((v0.map Za).length:Int) (v0.length:Int) (fun o=>([(0,one (.sl (v0.map Za))),(1,one (.sl (v1.map Za))),(12,oi o),(13,oi 0)],[],[])) ((by first | (simp only [zl,Zi];done) | (simp only [zl,Zi];omega) | omega)) [] trivial ?_
 refine WA.block ?_
 refine WA.loop (fun m s=>∃(a:Int),J s [(0,one (.sl (v0.map Za))),(1,one (.sl (v1.map Za))),(12,oi (v0.length:Int)),(13,oi a)] []∧Ze0 v0 v1 m a=some r) k ⟨0,jk,c⟩ ?_
 clear c
 rintro m0 s ⟨a,q,c⟩
 refine Wj q ?_
 clear q
 cases m0 with
 | zero=>cases c
 | succ m0=>
  obtain ⟨p,j⟩:∃g,g=Ze0 v0 v1 m0:=⟨_,rfl⟩
  have c:ZeZ p v0 v1 a=some r:=by first | (rw [j];exact c) | exact c
  refine Ws [] [(0,one (.sl (v0.map Za))),(1,one (.sl (v1.map Za))),(12,oi (v0.length:Int)),(13,oi a),(14,ob (decide (a<(v0.length:Int))))] [] ?_
  refine WA.seq ?_
  refine WA.cond (b:=(decide (a<(v0.length:Int)))) rfl (fun h=>?_) (fun h=>?_)
  {
 have c:=Zk c h
 refine WA.skip ?_
 refine WA.seq ?_
 refine WA.block ?_
 refine Ws [] [(0,one (.sl (v0.map Za))),(1,one (.sl (v1.map Za))),(5,oi a),(12,oi (v0.length:Int)),(13,oi a)] [] ?_
 refine WA.seq ?_
 obtain ⟨d,l,c⟩:=Zh c
 obtain ⟨e,n,c⟩:=Zh c
 refine Wd [(2,.cells (Za d)),(6,.cells (Za e))] [(0,one (.sl (v0.map Za))),(1,one (.sl (v1.map Za))),(12,oi (v0.length:Int)),(13,oi a),(24,ob (!((d.f_Lo == e.f_Lo) && ((d.f_Hi == e.f_Hi) && true))))] [] [idxL (v0.map Za) a=some (Za d),idxL (v1.map Za) a=some (Za e)] ⟨(Zs _ l),(Zs _ n),trivial⟩ ?_
 refine WA.cond (b:=(!((d.f_Lo == e.f_Lo) && ((d.f_Hi == e.f_Hi) && true)))) rfl (fun i=>?_) (fun i=>?_)
 {
 have c:=Zk c i
 refine Ws [] [(4,ob false)] [] ?_
 refine WA.ret ?_
 obtain rfl:=zj_ c
 exact Zo (ob false) [] kr kr kr kr nd rfl rfl }
 {
 have c:=Zj c i
 refine WA.skip ?_
 refine Wr [] [(0,one (.sl (v0.map Za))),(1,one (.sl (v1.map Za))),(12,oi (v0.length:Int)),(13,oi (w64 (a+1)))] [] ?_
 exact ⟨m0,zl_ _,(w64 (a+1)),jk,by rw [j] at c;exact c⟩ } }
  {
 have c:=Zj c h
 refine WA.exit ?_
 refine Ws [] [(4,ob true)] [] ?_
 refine WA.ret ?_
 obtain rfl:=zj_ c
 exact Zo (ob true) [] kr kr kr kr nd rfl rfl } }
def Zlh (k:Nat) (e:(List Zd)→Int→Option Zd) (v0:List UInt8) (a:List Zd) (c:Int) (f:Bool):Option Zd:=
  cond f ((F55 k v0 c).bind fun b=>(F58 k ([(⟨b.1,b.1⟩:Zb)]:List Zb)).bind fun d=>if a.length+([d]:List Zd).length≤1073741824 then (e (a ++ ([d]:List Zd)) (w64 (c+b.2))) else none) (((cond ((a.length:Int) == 1) (if (0:Int)≤0∧0<(a.length:Int) then (idxL a 0).bind fun g=>(some g) else none) (((some (⟨2,([]:List Zb),a,0,0⟩:Zd)))))))
def Zoi (k:Nat) (b:(List Zd)→Int→Option Zd) (v0:List UInt8) (c:List Zd) (a:Int):Option Zd:=
  (F49 k v0).bind fun d=>cond d ((Zlh k b v0 c a (decide (a<(v0.length:Int))))) ((Zlh k b v0 c a false))
def Zis (k:Nat) (v0:List UInt8):Nat→(List Zd)→Int→Option Zd
  | 0,_,_=>none
  | c+1,a,b=>Zoi k (Zis k v0 c) v0 a b
def F33 (k:Nat) (v0:List UInt8):Option Zd:=
  (((Zis k v0 k ([]:List Zd) 0)))
theorem Zli (k:Nat) (v0:List UInt8) (r:Zd) (c:F33 k v0=some r):SM μ 33 [one (.str v0)] [] (tv (Zc r)) []:=by
 refine Zz [] Tryz.func33 rfl kr kr ?_
 show WA _ _ 40 _ _ _
 refine Ws [(0,.obj 102)] [(0,one (.str v0)),(2,pt 102)] [(102,bx (Zc (⟨0,([]:List Zb),([]:List Zd),0,0⟩:Zd)))] ?_
 refine Ws [(0,.obj 103)] [(0,one (.str v0)),(2,pt 102),(3,ar 103 0)] [(102,bx (Zc (⟨0,([]:List Zb),([]:List Zd),0,0⟩:Zd))),(103,.arr 5 (Zm ([]:List Zd)))] ?_
 refine WA.seq ?_
 refine Ws [] [(0,one (.str v0)),(2,pt 102),(3,ar 103 0),(4,oi 0)] [(102,bx (Zc (⟨0,([]:List Zb),([]:List Zd),0,0⟩:Zd))),(103,.arr 5 (Zm ([]:List Zd)))] ?_
 refine WA.block ?_
 refine WA.loop (fun m s_=>∃(a:List Zd) (d:Nat) (e:Int),J s_ [(0,one (.str v0)),(2,pt 102),(3,ar 103 d),(4,oi e)] [(102,bx (Zc (⟨0,([]:List Zb),([]:List Zd),0,0⟩:Zd))),(103,.arr 5 (Zm a))]∧d=(a:List _).length∧Zis k v0 m a e=some r) k ⟨([]:List Zd),0,0,jk,zt,c⟩ ?_
 clear c
 rintro m2 s_ ⟨a,d,e,y,a4,c⟩
 refine Wj y ?_
 clear y
 cases m2 with
 | zero=>cases c
 | succ m2=>
  obtain ⟨x,t⟩:∃g,g=Zis k v0 m2:=⟨_,rfl⟩
  have c:Zoi k x v0 a e=some r:=by first | (rw [t];exact c) | exact c
  refine WA.seq ?_
  refine WA.join (fun s_=>∃(p:Bool),J s_ [(0,one (.str v0)),(2,pt 102),(3,ar 103 d),(4,oi e),(14,ob p)] [(102,bx (Zc (⟨0,([]:List Zb),([]:List Zd),0,0⟩:Zd))),(103,.arr 5 (Zm a))]∧Zlh k x v0 a e p=some r) ?_ ?_
  {
 rintro s_ ⟨p,y,c⟩
 refine Wj y ?_
 clear y
 refine WA.cond (b:=p) rfl (fun l=>?_) (fun l=>?_)
 {
 have c:=Zk c l
 refine WA.skip ?_
 refine WA.block ?_
 obtain ⟨f,a1,c⟩:=Zh c
 refine Wos [(2,.callR [] (.tup [(false,[.pv (.int .i64 f.1)]),(false,[.pv (.int .i64 f.2)])]))] [(0,one (.str v0)),(2,pt 102),(3,ar 103 d),(4,oi e),(5,oi f.1),(6,oi f.2)] [(102,bx (Zc (⟨0,([]:List Zb),([]:List Zd),0,0⟩:Zd))),(103,.arr 5 (Zm a))] [SM μ 55 [one (.str v0),oi e] [] (.tup [(false,[.pv (.int .i64 f.1)]),(false,[.pv (.int .i64 f.2)])]) [],([]:List Nat).Nodup] ⟨(Zls k _ _ _ a1),nd,trivial⟩ ?_
 refine WA.seq ?_
 obtain ⟨h,a2,c⟩:=Zh c
 obtain ⟨u,c⟩:=Zn c
 refine Wm ((((Zm a) ++ ([(Zc h)])),[(Zc h)]):(List (List PV))×(List (List PV))) ((Zm (a ++ ([h]:List Zd))),(Zm ([h]:List Zd))) (fun z=>([(0,one (.str v0)),(2,pt 102),(3,ar 103 (d+1)),(4,oi e),(6,oi f.2)],[(102,bx (Zc (⟨0,([]:List Zb),([]:List Zd),0,0⟩:Zd))),(103,.arr 5 z.1)],[SM μ 58 [one (.sl (([(⟨f.1,f.1⟩:Zb)]:List Zb).map Za))] [] (tv (Zc h)) [],([]:List Nat).Nodup,d=(Zm a).length,(Zm a).length+z.2.length≤1073741824,∀es,es∈z.2→es.length=5])) (ZJ zm zm) [(5,.callR [] (tv (Zc h)))] ⟨(ZeS k _ _ a2),nd,zt,(by first | exact u | (simp only [List.length_map,Zi];exact u)),(Zcj ([h]:List Zd)),trivial⟩ ?_
 refine Wr [] [(0,one (.str v0)),(2,pt 102),(3,ar 103 (d+1)),(4,oi (w64 (e+f.2)))] [(102,bx (Zc (⟨0,([]:List Zb),([]:List Zd),0,0⟩:Zd))),(103,.arr 5 (Zm (a ++ ([h]:List Zd))))] ?_
 exact ⟨m2,zl_ _,(a ++ ([h]:List Zd)),(d+1),(w64 (e+f.2)),jk,zt,by rw [t] at c;exact c⟩ }
 {
 have c:=Zj c l
 refine WA.exit ?_
 refine WA.seq ?_
 refine WA.seq ?_
 refine Wm ((d:Nat):Int) (a.length:Int) (fun z=>([(2,pt 102),(3,ar 103 d),(34,ob (z == 1))],[(102,bx (Zc (⟨0,([]:List Zb),([]:List Zd),0,0⟩:Zd))),(103,.arr 5 (Zm a))],[])) ((by first | (simp only [zl,Zi];done) | (simp only [zl,Zi];omega) | omega)) [] trivial ?_
 refine WA.cond (b:=((a.length:Int) == 1)) rfl (fun o=>?_) (fun o=>?_)
 {
 have c:=Zk c o
 obtain ⟨v,c⟩:=Zn c
 obtain ⟨q,a3,c⟩:=Zh c
 refine Wos [(2,.cells (Zc q))] [(2,pt 102)] [(102,bx (Zc q))] [d=(Zm a).length,(0:Int)≤0,0<((d:Nat):Int),d=(Zm a).length,(Zm a)[Int.toNat 0]?=some (Zc q)] ⟨zt,v.1,(by have h_:=v.2;(try simp only [zl,Zi] at h_ ⊢);omega),zt,(Zr (ZO a3)),trivial⟩ ?_
 refine WA.ret ?_
 obtain rfl:=zj_ c
 exact Zo (tv (Zc q)) [] kr kr kr kr nd rfl rfl }
 {
 have c:=Zj c o
 refine WA.skip ?_
 refine WA.seq ?_
 refine WA.freeze 103 3 (s:=5) (n:=d) (els:=(Zm a)) rfl rfl zt ?_
 refine Wk [(2,pt 102),(3,one (.sl (Zm a)))] [(102,bx (Zc (⟨0,([]:List Zb),([]:List Zd),0,0⟩:Zd)))] ?_
 refine Wr [] [(2,pt 102)] [(102,bx (Zc (⟨2,([]:List Zb),a,0,0⟩:Zd)))] ?_
 refine WA.ret ?_
 obtain rfl:=zj_ c
 exact Zo (tv (Zc (⟨2,([]:List Zb),a,0,0⟩:Zd))) [] kr kr kr kr nd rfl rfl } } }
  {
 obtain ⟨i,w,c⟩:=Zh c
 rcases zo_ i with j | j
 {
 have c:=Zk c j
 refine Wo [(1,.callR [] (ob i)),(2,.bool true)] [(0,one (.str v0)),(2,pt 102),(3,ar 103 d),(4,oi e),(14,ob (decide (e<(v0.length:Int))))] [(102,bx (Zc (⟨0,([]:List Zb),([]:List Zd),0,0⟩:Zd))),(103,.arr 5 (Zm a))] [SM μ 49 [one (.str v0)] [] (ob i) [],([]:List Nat).Nodup,i=true] ⟨(ZiF k _ _ w),nd,j,trivial⟩ ?_
 exact ⟨(decide (e<(v0.length:Int))),jk,c⟩ }
 {
 have c:=Zj c j
 refine Wo [(1,.callR [] (ob i)),(2,.bool false)] [(0,one (.str v0)),(2,pt 102),(3,ar 103 d),(4,oi e),(14,ob false)] [(102,bx (Zc (⟨0,([]:List Zb),([]:List Zd),0,0⟩:Zd))),(103,.arr 5 (Zm a))] [SM μ 49 [one (.str v0)] [] (ob i) [],([]:List Nat).Nodup,i=false] ⟨(ZiF k _ _ w),nd,j,trivial⟩ ?_
 exact ⟨false,jk,c⟩ } }
def F34 (k:Nat):Option Zd:=
  (F59 k).bind fun a=>(F58 k a).bind fun b=>(some (⟨4,([]:List Zb),([b]:List Zd),0,(-1)⟩:Zd))
theorem Zlj (k:Nat) (r:Zd) (c:F34 k=some r):SM μ 34 [] [] (tv (Zc r)) []:=by
 refine Zz [] Tryz.func34 rfl kr kr ?_
 show WA _ _ 5 _ _ _
 refine Ws [(0,.obj 100)] [(0,pt 100)] [(100,bx (Zc (⟨0,([]:List Zb),([]:List Zd),0,0⟩:Zd)))] ?_
 refine WA.seq ?_
 obtain ⟨b,d,c⟩:=Zh c
 obtain ⟨a,e,c⟩:=Zh c
 refine Wm ([(Zc a)]:(List (List PV))) (Zm ([a]:List Zd)) (fun f=>([(0,pt 100)],[(100,bx ([.int .i64 4] ++ [.sl (([]:List Zb).map Za)] ++ [.sl f] ++ [.int .i64 0] ++ [.int .i64 (-1)]))],[SM μ 59 [] [] (one (.sl (b.map Za))) [],([]:List Nat).Nodup,SM μ 58 [one (.sl (b.map Za))] [] (tv (Zc a)) [],([]:List Nat).Nodup])) (zm) [(0,.callR [] (one (.sl (b.map Za)))),(1,.callR [] (tv (Zc a)))] ⟨(ZeT k _ d),nd,(ZeS k _ _ e),nd,trivial⟩ ?_
 refine WA.ret ?_
 obtain rfl:=zj_ c
 exact Zo (tv (Zc (⟨4,([]:List Zb),([a]:List Zd),0,(-1)⟩:Zd))) [] kr kr kr kr nd rfl rfl
def F104 (k:Nat) (v0:Zb) (v1:Zb):Option Int:=
  ((some (w64 (v0.f_Lo-v1.f_Lo))))
theorem Zat (k:Nat) (v0:Zb) (v1:Zb) (r:Int) (a:F104 k v0 v1=some r):SM μ 104 [tv (Za v0),tv (Za v1)] [] (oi r) []:=by
 refine Zz [] Tryz.func104 rfl kr kr ?_
 show WA _ _ 10 _ _ _
 refine Ws [(0,.obj 102),(1,.obj 103)] [(2,pt 102),(3,pt 103)] [(102,bx (Za v0)),(103,bx (Za v1))] ?_
 refine Ws [] [(4,oi (w64 (v0.f_Lo-v1.f_Lo)))] [] ?_
 refine WA.ret ?_
 obtain rfl:=zj_ a
 exact Zo (oi (w64 (v0.f_Lo-v1.f_Lo))) [] kr kr kr kr nd rfl rfl
end Go.Proofs.YthilboheomikjaaGreatDoor
end
section
namespace Go.Proofs.YthilboheomikjaaGreatDoor
open Go.AL Go.RowKit
variable {μ:Int}
set_option maxRecDepth 100000
def F102 (k:Nat) (l:List Zb):Option (List Zb):=if l.length≤1073741824 then some l else none
theorem Zqx (k:Nat) (v0:List Zb) (r:List Zb) (hF:F102 k v0=some r):Sim Tryz.prog (GL0 μ) 102 [one (.sl (v0.map Za))] [] (.val false [.arr 0 r.length]) [.arr 2 (r.map Za)]:=by
  obtain ⟨hl,hF⟩:=Zn hF
  obtain rfl:=zj_ hF
  refine Zz [900] Tryz.func102 rfl (by kernel_rfl) (by kernel_rfl) ?_
  show WA _ _ 8 _ _ _
  refine WA.seq ?_
  refine WA.reg [0] [] [] (env':=[(0,one (.sl (v0.map Za)))]) (os':=[]) (O:=[]) (by kernel_rfl) (sound _ _) trivial ?_
  refine WA.seq ?_
  refine WA.seq ?_
  refine WA.nilTest (e:=60) (els:=v0.map Za) rfl (by kernel_rfl) (by kernel_rfl) (by kernel_rfl) fun b hb=>?_
  refine WA.cond (b:=b) rfl (fun hb'=>?_) (fun hb'=>?_)
  · have h0:v0=[]:=List.map_eq_nil_iff.1 (hb hb')
    subst h0
    refine WA.seq ?_
    refine WA.reg [2] [900] [(0,.obj 900)] (env':=[(2,.val false [.arr 900 0])]) (os':=[(900,.arr 2 [])]) (O:=[]) (by kernel_rfl) (sound _ _) trivial ?_
    refine WA.ret ?_
    exact Zo (.val false [.arr 900 0]) [.arr 2 []] (by kernel_rfl) (by kernel_rfl) (by kernel_rfl) (by kernel_rfl) (by decide) rfl rfl
  · refine WA.skip ?_
    refine WA.seq ?_
    refine WA.regM (α:=Nat×List (List PV)) (raw:=(0+(v0.map Za).length,[] ++ v0.map Za)) (can:=(v0.length,v0.map Za)) (fun m_=>([(2,.val false [.arr 900 m_.1])],[(900,.arr 2 m_.2)],[0=([]:List (List PV)).length,([]:List (List PV)).length+(v0.map Za).length≤1073741824,∀es,es∈v0.map Za→es.length=2]))
      (ZJ (by simp) (by simp)) [2] [900] [(0,.obj 900)] (env':=[(2,.val false [.arr 900 v0.length])]) (os':=[(900,.arr 2 (v0.map Za))]) (O:=[0=([]:List (List PV)).length,([]:List (List PV)).length+(v0.map Za).length≤1073741824,∀es,es∈v0.map Za→es.length=2]) (by kernel_rfl) (by kernel_rfl) (sound _ _) ⟨rfl,by simpa using hl,ZT v0,trivial⟩ ?_
    refine WA.ret ?_
    exact Zo (.val false [.arr 900 v0.length]) [.arr 2 (v0.map Za)] (by kernel_rfl) (by kernel_rfl) (by kernel_rfl) (by kernel_rfl) (by decide) rfl rfl
end Go.Proofs.YthilboheomikjaaGreatDoor
end
section
namespace Go.Proofs
open Go.Shelf
def Tryz.lays125_ren:Go.Shelf.Ren:=⟨fun | 125=>112 | 128=>133 | 129=>134 | n=>n,fun | 46=>37 | 3=>3 | 51=>170 | 53=>159 | 4=>4 | 5=>5 | 9=>9 | n=>n,fun | n=>n⟩
theorem Tryz.lays125:Go.Proofs.Lays.n125 Tryz.prog Tryz.lays125_ren:={
  mixed:=by kernel_rfl
  f125:=Tryz.func112.trans (congrArg some (by kernel_rfl))
  f128:=Tryz.func133.trans (congrArg some (by kernel_rfl))
  f129:=Tryz.func134.trans (congrArg some (by kernel_rfl))
  t3:=Tryz.underlying3
  a3:=Tryz.isAgg3
  z3:=Tryz.sizeOf3
  v3:=Tryz.zeroValue3
  t4:=Tryz.underlying4
  a4:=Tryz.isAgg4
  z4:=Tryz.sizeOf4
  v4:=Tryz.zeroValue4
  t5:=Tryz.underlying5
  a5:=Tryz.isAgg5
  z5:=Tryz.sizeOf5
  v5:=Tryz.zeroValue5
  t9:=Tryz.underlying9
  a9:=Tryz.isAgg9
  z9:=Tryz.sizeOf9
  v9:=Tryz.zeroValue9
  t46:=Tryz.underlying37
  a46:=Tryz.isAgg37
  z46:=Tryz.sizeOf37
  v46:=Tryz.zeroValue37
  t51:=Tryz.underlying170
  a51:=Tryz.isAgg170
  z51:=Tryz.sizeOf170
  v51:=Tryz.zeroValue170
  t53:=Tryz.underlying159
  a53:=Tryz.isAgg159
  z53:=Tryz.sizeOf159
  v53:=Tryz.zeroValue159 }
end Go.Proofs
end
section
namespace Go.Proofs.YthilboheomikjaaGreatDoor
open Go.AL Go.RowKit
variable {μ:Int}
def F112 (k:Nat) (n:Int):Option Int:=if 0≤n∧n<18446744073709551616 then some (Lib.bitLen n.toNat:Nat) else none
theorem ZmM (k:Nat) (v0:Int) (r:Int) (hF:F112 k v0=some r):Sim Tryz.prog (GL0 μ) 112 [one (.int .u64 v0)] [] (one (.int .i64 r)) []:=by
  obtain ⟨hl,hF⟩:=Zn hF
  obtain rfl:=zj_ hF
  refine ZaG fun w I G vs hs ha=>?_
  obtain ⟨vs,rfl,hb⟩:=Zi4 ha;clear ha;have ha:=hb;clear hb
  obtain rfl:=ZbP ha
  refine Calls.imp (Any.bits_Len Tryz.lays125 v0 w (by omega) (by omega)) ?_
  rintro e w' ⟨rfl,rfl⟩
  exact ⟨_,rfl,fun _ _ _ _=>⟨_,rfl,.int _ _⟩,.refl _ _⟩
end Go.Proofs.YthilboheomikjaaGreatDoor
end
