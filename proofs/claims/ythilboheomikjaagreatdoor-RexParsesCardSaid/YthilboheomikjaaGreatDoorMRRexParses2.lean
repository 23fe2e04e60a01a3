/- A17, A18, A19, A20, L1, P1, R0, A26, G1, G6, Q2, A21, A22, A23, P3, L2, P4 -/
import Derived.Test.YthilboheomikjaaGreatDoorMRRexParses1
import Derived.Orders
import Derived.Shelf.Small.Strs
import Derived.Shelf.Strconv.Atoi
import Derived.Shelf.Strings.Prefix
import Derived.Shelf.Unicode.Decode
import Derived.Shelf.Unicode.DecodeAny
import Derived.Shelf.Unicode.ValidAny
import Derived.Ground.NamesProg
import Derived.Test.YthilboheomikjaaGreatDoorProg
import Derived.Lib.AtoiErrMem
import Derived.Test.YthilboheomikjaaGreatDoorRows
import Derived.Test.YthilboheomikjaaGreatDoorTie
import Derived.Test.YthilboheomikjaaGreatDoorCards
import Derived.WalkKit
import Derived.ProofKit
import Derived.Lay
import Derived.LaidOnce
import Derived.SevenTiedAt
import Derived.Lib.LaidU8
import Derived.OpenShut
import Derived.ShutString
import Derived.SizedLaws
import Derived.Lib.ValidLaws
import Derived.Laws.Build
import Derived.Laws.Cover3
import Derived.Shelf.Small.Bits
set_option linter.unusedVariables false
set_option linter.unusedSimpArgs false
section
namespace Go.AL
variable {P:Program} {GL:List (Nat×List PV)} {C:Spec} {N:Nat}
theorem ZgQ {st:S} {o:Oper} {h:Option Hint} {x:AT} {os':Objs} {O:List Prop} (hk:ZA o h≤1) (he:Zv P GL C st o h=some (x,os',O)):os'=st.os:=by
  have hm:∀{r:Option AT} {x:AT} {os':Objs} {O L:List Prop},(r.map fun a=>((a,st.os,L):AT×Objs×List Prop))=some (x,os',O)→os'=st.os:=by
    intro r x os' O L h
    obtain ⟨y,rfl,e⟩:=map_some h
    cases e;rfl
  have hobj:∀id,h≠some (.obj id):=fun id e=>by subst e;have:=Zcx (o:=o) (id:=id);omega
  obtain ⟨dst,op,ty,pos,after,guard⟩:=o
  cases op with
  | move y=>
    simp only [Zv] at he
    split at he
    · exact absurd rfl (hobj _)
    · exact hm he
    · cases he
  | assign y=>
    simp only [Zv] at he
    split at he
    · exact absurd rfl (hobj _)
    · exact hm he
    · cases he
  | pick c y z=>simp only [Zv] at he;split at he <;> first | exact hm he | cases he
  | binOp op t y z yt=>
    simp only [Zv] at he
    split at he
    · split at he
      · split at he <;> cases he;rfl
      · split at he <;> cases he;rfl
      · obtain ⟨⟨r,O2⟩,hb,e⟩:=map_some he
        cases e;rfl
    · unfold ZgB at he
      split at he
      · split at he <;> cases he <;> rfl
      · cases he
    · cases he
  | unOp op t y=>simp only [Zv] at he;split at he <;> cases he <;> rfl
  | convert s d y=>
    simp only [Zv] at he
    split at he
    · exact (Zfc st he).1
    · cases he
  | extract y i=>
    simp only [Zv] at he
    split at he
    · split at he <;> cases he;rfl
    · cases he
  | slice t x lo hi mx=>
    simp only [Zv] at he
    split at he
    · exact absurd rfl (hobj _)
    · unfold Zdq at he
      split at he
      · cases he
      · split at he
        · split at he <;> cases he;rfl
        · split at he <;> cases he;rfl
        · cases he
    · cases he
  | field t x f=>
    simp only [Zv] at he
    split at he
    · split at he
      · exact hm he
      · cases he
    · cases he
  | fieldAddr t x f=>
    simp only [Zv] at he
    split at he
    · unfold ZbS at he
      split at he
      · split at he
        · split at he
          · cases he
          · cases he
          · split at he
            · cases he;rfl
            · obtain ⟨O2,hb,e⟩:=map_some he
              cases e;rfl
            · cases he
        · cases he
      · cases he
    · cases he
  | nilCheck x=>
    simp only [Zv] at he
    split at he
    · obtain ⟨O2,hb,e⟩:=map_some he
      cases e;rfl
    · cases he;rfl
    · cases he
  | load t x=>
    simp only [Zv] at he
    split at he
    · unfold ZfL at he
      split at he
      · exact hm he
      · split at he
        · split at he
          · exact hm he
          · cases he
        · exact hm he
        · cases he
      · cases he
    · cases he
  | store t x y=>
    exfalso
    cases h with
    | none=>exact absurd hk (by show ¬2≤1;omega)
    | some h=>cases h <;> first | exact absurd hk (by show ¬2≤1;omega) | exact absurd hk (by show ¬4≤1;omega)
  | indexAddr t x y=>
    simp only [Zv] at he
    split at he
    · unfold ZbT at he
      split at he
      · split at he
        · split at he <;> cases he;rfl
        · cases he
      · split at he
        · split at he <;> cases he;rfl
        · cases he
      · cases he
    · cases he
  | index t x y=>
    simp only [Zv] at he
    split at he
    · unfold ZeM at he
      split at he <;> cases he;rfl
    · cases he
  | build t parts=>
    simp only [Zv] at he
    split at he
    · obtain ⟨O2,hb,e⟩:=map_some he
      cases e;rfl
    · cases he
  | buildSlice t n parts=>
    simp only [Zv] at he
    split at he
    · split at he
      · split at he
        · cases he;rfl
        · cases he;rfl
        · exact absurd rfl (hobj _)
        · cases he
      · cases he
    · cases he
  | call c=>
    obtain ⟨cal,⟨args⟩,⟨tys⟩⟩:=c
    cases cal with
    | invoke r m=>cases he
    | builtin b=>
      simp only [Zv] at he
      split at he
      · split at he
        · unfold ZdX at he;split at he <;> cases he <;> rfl
        · unfold ZdX at he;split at he <;> cases he <;> rfl
        · cases he
      · exfalso
        cases h with
        | none=>exact absurd hk (by show ¬2≤1;omega)
        | some h=>cases h <;> first | exact absurd hk (by show ¬2≤1;omega) | exact absurd hk (by show ¬4≤1;omega)
      · split at he
        · exact hm he
        · cases he
      · split at he
        · exact hm he
        · cases he
      · cases he
    | value fo=>
      simp only [Zv] at he
      split at he
      · rename_i f hfo
        split at he
        · unfold ZdK at he
          split at he
          · rename_i a b c d
            cases d with
            | nil=>exact absurd hk (by show ¬2≤1;omega)
            | cons d e=>exact absurd hk (by show ¬4≤1;omega)
          · split at he
            · split at he <;> cases he;rfl
            · cases he
          · cases he
        · cases he
      · cases he
  | alloc t=>simp only [Zv] at he;split at he <;> first | exact absurd rfl (hobj _) | cases he
  | box t x=>simp only [Zv] at he;split at he <;> first | exact absurd rfl (hobj _) | cases he
  | makeSlice t l c=>simp only [Zv] at he;split at he <;> first | exact absurd rfl (hobj _) | cases he
  | _=>cases he
theorem ZdL {o:Oper} {b:Bool}:ZA o (some (.bool b))=ZA o none:=by
  unfold ZA;split <;> rfl
theorem ZkP {e1 e2:List (Nat×AT)} {os:Objs} {o:Oper} {h:Option Hint} (hop:∀y,y∈o.op.operands.toList→opd GL ⟨e2,os⟩ y=opd GL ⟨e1,os⟩ y) (hk:ZA o h<3) :
    ZX P GL C ⟨e2,os⟩ o h=ZX P GL C ⟨e1,os⟩ o h:=by
  unfold ZX
  split
  · rw [ZhW hop (by rw [←ZdL];exact hk)]
  · exact ZhW hop hk
theorem Zkd {e1:List (Nat×AT)} {os:Objs} {o:Oper} {h:Option Hint} {x:AT} {os':Objs} {O:List Prop} (hk:ZA o h=0) (o2:Objs)
    (he:ZX P GL C ⟨e1,os⟩ o h=some (x,os',O)):os'=os∧ZX P GL C ⟨e1,o2⟩ o h=some (x,o2,O):=by
  unfold ZX at he ⊢
  split at he
  · rename_i b
    split at he
    · rename_i y oo O2 he2
      cases he
      obtain ⟨h1,h2⟩:=ZgR (e2:=e1) (by rw [←ZdL];exact hk) (fun _ _=>rfl) o2 he2
      exact ⟨h1,by rw [h2]⟩
    · cases he
  · exact ZgR (e2:=e1) hk (fun _ _=>rfl) o2 he
theorem ZfM {st:S} {o:Oper} {h:Option Hint} {x:AT} {os':Objs} {O:List Prop} (hk:ZA o h≤1) (he:ZX P GL C st o h=some (x,os',O)):os'=st.os:=by
  unfold ZX at he
  split at he
  · rename_i b
    split at he
    · rename_i y oo O2 he2
      cases he
      exact ZgQ (by rw [←ZdL];exact hk) he2
    · cases he
  · exact ZgQ hk he
def Zav (o:Oper):List Nat:=(o.after.toList.filter (Region.binds .any)).map (·.on)
def ZdM (ps:List Nat) (acc:List Nat):Nat:=ps.foldl (fun m p=>m ||| (1 <<< p) ||| acc.getD p 0) 0
def clo:List Oper→List Nat→List Nat
  | [],acc=>acc
  | o :: l,acc=>clo l (acc ++ [ZdM (Zav o) acc])
theorem Zkj (acc:List Nat) (i:Nat):∀(ps:List Nat) (m:Nat),(ps.foldl (fun m p=>m ||| (1 <<< p) ||| acc.getD p 0) m).testBit i=true→
    m.testBit i=true∨∃p,p∈ps∧(p=i∨(acc.getD p 0).testBit i=true)
  | [],m,h=>.inl h
  | p :: ps,m,h=>by
    rcases Zkj acc i ps _ h with h | ⟨q,hq,hr⟩
    · rw [Nat.testBit_or,Nat.testBit_or] at h
      simp only [Bool.or_eq_true] at h
      rcases h with (h | h) | h
      · exact .inl h
      · right
        refine ⟨p,by simp,.inl ?_⟩
        rw [Nat.shiftLeft_eq,Nat.one_mul,Nat.testBit_two_pow] at h
        simpa using h
      · exact .inr ⟨p,by simp,.inr h⟩
    · exact .inr ⟨q,by simp [hq],hr⟩
theorem Zg1:∀(l:List Oper) (acc:List Nat),(∀k,k<acc.length→(clo l acc).getD k 0=acc.getD k 0)∧
    ∀(k:Nat) (o:Oper),l[k]?=some o→∀i,((clo l acc).getD (acc.length+k) 0).testBit i=true→∃p,p∈Zav o∧(p=i∨(p<acc.length+k∧((clo l acc).getD p 0).testBit i=true))
  | [],acc=>⟨fun k _=>rfl,fun k o h=>by simp at h⟩
  | o :: l,acc=>by
    obtain ⟨h1,h2⟩:=Zg1 l (acc ++ [ZdM (Zav o) acc])
    have hlen:(acc ++ [ZdM (Zav o) acc]).length=acc.length+1:=by simp
    have hold:∀k,k<acc.length→(clo (o :: l) acc).getD k 0=acc.getD k 0:=fun k hk=>by
      show (clo l _).getD k 0=_
      rw [h1 k (by omega)]
      simp [List.getElem?_append_left hk]
    refine ⟨hold,fun k o' ho i hb=>?_⟩
    cases k with
    | zero=>
      simp at ho;subst ho
      have hm:(clo (o :: l) acc).getD (acc.length+0) 0=ZdM (Zav o) acc:=by
        show (clo l _).getD _ 0=_
        rw [h1 _ (by omega)]
        simp
      rw [hm] at hb
      rcases Zkj acc i (Zav o) 0 hb with h | ⟨p,hp,hr⟩
      · simp at h
      · refine ⟨p,hp,hr.imp id fun h=>?_⟩
        have hlt:p<acc.length:=by
          rcases Nat.lt_or_ge p acc.length with h' | h'
          · exact h'
          · simp [List.getElem?_eq_none h'] at h
        exact ⟨hlt,by rw [hold p hlt];exact h⟩
    | succ k=>
      have ho':l[k]?=some o':=by simpa using ho
      have e:acc.length+(k+1)=(acc ++ [ZdM (Zav o) acc]).length+k:=by omega
      have hb':((clo l (acc ++ [ZdM (Zav o) acc])).getD ((acc ++ [ZdM (Zav o) acc]).length+k) 0).testBit i=true:=by rw [←e];exact hb
      obtain ⟨p,hp,hr⟩:=h2 k o' ho' i hb'
      exact ⟨p,hp,hr.imp id fun ⟨h,h'⟩=>⟨by omega,h'⟩⟩
def ZlU (ops:List Oper) (L:Nat→Prop):Prop:=∀(j:Nat) (o:Oper),ops[j]?=some o→L j→∀p,p∈Zav o→L p
theorem ZfD {ops:List Oper} {L:Nat→Prop} (hL:ZlU ops L):∀(j:Nat) (o:Oper),ops[j]?=some o→(∀p,p∈Zav o→L p)→(∀(k:Nat) (o':Oper),ops[k]?=some o'→k≤j→∀p,p∈Zav o'→p<k)→
    ∀i,((clo ops []).getD j 0).testBit i=true→L i:=by
  intro j
  induction j using Nat.strongRecOn with
  | _ j ih=>
    intro o ho hp hlt i hb
    obtain ⟨p,hpp,hr⟩:=(Zg1 ops []).2 j o ho i (by simpa using hb)
    rcases hr with rfl | ⟨_,hr⟩
    · exact hp p hpp
    · have hpj:=hlt j o ho (Nat.le_refl _) p hpp
      cases ho':ops[p]? with
      | none=>
        have h1:=List.getElem?_eq_none_iff.1 ho'
        have h2:=(List.getElem?_eq_some_iff.1 ho).1
        omega
      | some o'=>exact ih p hpj o' ho' (fun q hq=>hL p o' ho' (hp p hpp) q hq) (fun k o'' h1 h2=>hlt k o'' h1 (by omega)) i hr
theorem Zj0 {l:List Nat} {d:Nat} (h:d∈l):l.any (Nat.beq d)=true:=List.any_eq_true.2 ⟨d,h,Nat.beq_refl d⟩
def ZT (id:Nat) (GL:List (Nat×List PV)) (st:S) (o:Oper) (h:Option Hint):Bool:=
  match h with
  | some (.callR ids _)=>!(ids.any (Nat.beq id))
  | some (.call ids _ _ _)=>!(ids.any (Nat.beq id))
  | _=>o.op.operands.toList.all fun y=>match opd GL st y with | some a=>Zbv id a | none=>true
theorem ZcD {id:Nat} {st:S} {o:Oper} {h:Option Hint} {y:Operand} {a:AT} (hh:∀ids r,h≠some (.callR ids r)) (hh2:∀ids r a b,h≠some (.call ids r a b)) (hy:y∈o.op.operands.toList) (ho:opd GL st y=some a) (hr:Zbv id a=false):ZT id GL st o h=false:=by
  unfold ZT
  split
  · exact absurd rfl (hh _ _)
  · exact absurd rfl (hh2 _ _ _ _)
  · rw [List.all_eq_false]
    exact ⟨y,hy,by simp [ho,hr]⟩
theorem Zd1 (id n i j:Nat):Zbv id (.val false [.ptr id n i j])=false:=by simp [Zbv,ZcP,ZeR,Nat.beq_refl]
theorem Zjc (id n:Nat):Zbv id (.val false [.arr id n])=false:=by simp [Zbv,ZcP,ZeR,Nat.beq_refl]
theorem Zfs {os1 os2:Objs}:∀{ids:List Nat},(∀id,id∈ids→look os2 id=look os1 id)→ZS os2 ids=ZS os1 ids
  | [],_=>rfl
  | id :: ids,h=>by simp only [ZS];rw [h id (by simp),Zfs fun i hi=>h i (by simp [hi])]
theorem Zh3 {o:Oper} {ids:List Nat} {r:AT} (hk:ZA o (some (.callR ids r))≤3):∃f args tys,o.op = .call ⟨.value f,args,tys⟩:=by
  unfold ZA at hk
  split at hk
  · rename_i h;exact ⟨_,_,_,h⟩
  · simp only [] at hk;omega
theorem Zh2 {o:Oper} {ids:List Nat} {r:AT} {a:List Obj} {b:List Nat} (hk:ZA o (some (.call ids r a b))≤3):∃f args tys,o.op = .call ⟨.value f,args,tys⟩:=by
  unfold ZA at hk
  split at hk
  · rename_i h;exact ⟨_,_,_,h⟩
  · simp only [] at hk;omega
theorem Zo7 {e:List (Nat×AT)} {os1 os2:Objs} (y:Operand):opd GL ⟨e,os2⟩ y=opd GL ⟨e,os1⟩ y:=by cases y <;> rfl
theorem ZgP {e:List (Nat×AT)} {os1 os2:Objs} {o:Oper} {h:Option Hint} {x:AT} {os':Objs} {O:List Prop} (hk:ZA o h≤1) (he:Zv P GL C ⟨e,os1⟩ o h=some (x,os',O))
    (hl:∀id,ZT id GL ⟨e,os1⟩ o h=false→look os2 id=look os1 id):Zv P GL C ⟨e,os2⟩ o h=some (x,os2,O):=by
  have hm:∀{r:Option AT} {x:AT} {os':Objs} {O:List Prop},(r.map fun a=>((a,os1,[]):AT×Objs×List Prop))=some (x,os',O)→(r.map fun a=>((a,os2,[]):AT×Objs×List Prop))=some (x,os2,O):=by
    intro r x os' O h
    obtain ⟨y,rfl,e⟩:=map_some h
    cases e;rfl
  have ho:∀y,opd GL ⟨e,os2⟩ y=opd GL ⟨e,os1⟩ y:=Zo7
  have hobj:∀id,h≠some (.obj id):=fun id e=>by subst e;have:=Zcx (o:=o) (id:=id);omega
  have hcr:(∀f args tys,o.op≠.call ⟨.value f,args,tys⟩)→∀ids r,h≠some (.callR ids r):=fun hne ids r e=>by
    subst e;obtain ⟨f,a,t,h'⟩:=Zh3 (show ZA o (some (.callR ids r))≤3 by omega);exact hne f a t h'
  have hcr2:(∀f args tys,o.op≠.call ⟨.value f,args,tys⟩)→∀ids r a b,h≠some (.call ids r a b):=fun hne ids r a b e=>by
    subst e;obtain ⟨f,a,t,h'⟩:=Zh2 (show ZA o (some (.call ids r a b))≤3 by omega);exact hne f a t h'
  obtain ⟨dst,op,ty,pos,after,guard⟩:=o
  have hbd:∀(x:Option Operand) (d:Int),Zau GL ⟨e,os2⟩ x d=Zau GL ⟨e,os1⟩ x d:=fun x d=>by cases x with | none=>rfl | some y=>simp only [Zau,ho]
  have halive:∀{id n:Nat},look os2 id=look os1 id→ZdT ⟨e,os2⟩ id n=ZdT ⟨e,os1⟩ id n:=fun h=>by simp only [ZdT,h]
  cases op with
  | move y=>simp only [Zv,ho] at he ⊢;split at he <;> first | exact absurd rfl (hobj _) | exact hm he | cases he
  | assign y=>simp only [Zv,ho] at he ⊢;split at he <;> first | exact absurd rfl (hobj _) | exact hm he | cases he
  | pick c y z=>simp only [Zv,ho] at he ⊢;split at he <;> first | exact hm he | cases he
  | binOp op t y z yt=>
    simp only [Zv,ho] at he ⊢
    split at he
    · split at he
      · split at he <;> cases he;rfl
      · split at he <;> cases he;rfl
      · obtain ⟨⟨r,O2⟩,hb,e⟩:=map_some he
        cases e
        rw [hb];rfl
    · unfold ZgB at he ⊢
      split at he
      · split at he <;> cases he <;> rfl
      · cases he
    · cases he
  | unOp op t y=>simp only [Zv,ho] at he ⊢;split at he <;> cases he <;> rfl
  | convert s d y=>
    simp only [Zv,ho] at he ⊢
    split at he
    · exact (Zfc _ he).2
    · cases he
  | extract y i=>
    simp only [Zv,ho] at he ⊢
    split at he
    · split at he <;> cases he;rfl
    · cases he
  | slice t y lo hi mx=>
    simp only [Zv,ho] at he ⊢
    split at he
    · exact absurd rfl (hobj _)
    · unfold Zdq at he ⊢
      simp only [hbd] at he ⊢
      split at he
      · cases he
      · split at he
        · split at he <;> cases he;rfl
        · split at he <;> cases he;rfl
        · cases he
    · cases he
  | field t y f=>
    simp only [Zv,ho] at he ⊢
    split at he
    · split at he
      · exact hm he
      · cases he
    · cases he
  | fieldAddr t y f=>
    have hc:=hcr (fun _ _ _ h=>by cases h)
    have hc2:=hcr2 (fun _ _ _ h=>by cases h)
    simp only [Zv,ho] at he ⊢
    split at he
    · rename_i z hz
      unfold ZbS at he ⊢
      split at he
      · split at he
        · split at he
          · cases he
          · cases he
          · split at he
            · cases he;rfl
            · rename_i id n i j
              obtain ⟨O2,hb,e⟩:=map_some he
              cases e
              have:=hl id (ZcD hc hc2 (by simp [Op.operands]) hz (Zd1 id n i j))
              simp only [halive this,hb];rfl
            · cases he
        · cases he
      · cases he
    · cases he
  | nilCheck y=>
    have hc:=hcr (fun _ _ _ h=>by cases h)
    have hc2:=hcr2 (fun _ _ _ h=>by cases h)
    simp only [Zv,ho] at he ⊢
    split at he
    · rename_i id n i j hz
      obtain ⟨O2,hb,e⟩:=map_some he
      cases e
      have:=hl id (ZcD hc hc2 (by simp [Op.operands]) hz (Zd1 id n i j))
      simp only [halive this,hb];rfl
    · cases he;rfl
    · cases he
  | load t y=>
    have hc:=hcr (fun _ _ _ h=>by cases h)
    have hc2:=hcr2 (fun _ _ _ h=>by cases h)
    simp only [Zv,ho] at he ⊢
    split at he
    · rename_i z hz
      unfold ZfL at he ⊢
      split at he
      · exact hm he
      · rename_i id n i j
        have:=hl id (ZcD hc hc2 (by simp [Op.operands]) hz (Zd1 id n i j))
        simp only [this] at he ⊢
        generalize look os1 id=L at he ⊢
        split at he
        · split at he
          · rename_i q1 q2
            exact hm he
          · cases he
        · obtain ⟨y,hy,e⟩:=map_some he
          cases e
          rw [hy];rfl
        · cases he
      · cases he
    · cases he
  | store t x y=>
    exfalso
    cases h with
    | none=>exact absurd hk (by show ¬2≤1;omega)
    | some h=>cases h <;> first | exact absurd hk (by show ¬2≤1;omega) | exact absurd hk (by show ¬4≤1;omega)
  | indexAddr t y z=>
    have hc:=hcr (fun _ _ _ h=>by cases h)
    have hc2:=hcr2 (fun _ _ _ h=>by cases h)
    simp only [Zv,ho] at he ⊢
    split at he
    · rename_i u v hu hv
      unfold ZbT at he ⊢
      split at he
      · split at he
        · split at he <;> cases he;rfl
        · cases he
      · rename_i e' id n k i _
        have:=hl id (ZcD hc hc2 (by simp [Op.operands]) hu (Zjc id n))
        simp only [this] at he ⊢
        generalize look os1 id=L at he ⊢
        split at he
        · rename_i q0 q00
          split at he
          · rename_i q1
            cases he
            simp only [q00,q1]
          · cases he
        · cases he
      · cases he
    · cases he
  | index t y z=>
    simp only [Zv,ho] at he ⊢
    split at he
    · unfold ZeM at he ⊢
      split at he <;> cases he;rfl
    · cases he
  | build t parts=>
    have h1:∀pl cs,Zbl GL ⟨e,os2⟩ pl cs parts.toList=Zbl GL ⟨e,os1⟩ pl cs parts.toList:=fun pl cs=>Zd7 fun p hp=>ho _
    simp only [Zv,h1] at he ⊢
    split at he
    · obtain ⟨O2,hb,e⟩:=map_some he
      cases e
      rw [hb];rfl
    · cases he
  | buildSlice t n parts=>
    have h1:∀s,Z6 GL ⟨e,os2⟩ s 0 parts.toList=Z6 GL ⟨e,os1⟩ s 0 parts.toList:=fun s=>ZbK fun p hp=>ho _
    simp only [Zv,h1] at he ⊢
    split at he
    · split at he
      · split at he
        · cases he;rfl
        · cases he;rfl
        · exact absurd rfl (hobj _)
        · cases he
      · cases he
    · cases he
  | call c=>
    obtain ⟨cal,⟨args⟩,⟨tys⟩⟩:=c
    cases cal with
    | invoke r m=>cases he
    | builtin b=>
      simp only [Zv,ho] at he ⊢
      split at he
      · split at he
        · unfold ZdX at he ⊢;split at he <;> cases he <;> rfl
        · unfold ZdX at he ⊢;split at he <;> cases he <;> rfl
        · cases he
      · exfalso
        cases h with
        | none=>exact absurd hk (by show ¬2≤1;omega)
        | some h=>cases h <;> first | exact absurd hk (by show ¬2≤1;omega) | exact absurd hk (by show ¬4≤1;omega)
      · split at he
        · exact hm he
        · cases he
      · split at he
        · exact hm he
        · cases he
      · cases he
    | value fo=>
      simp only [Zv,ho] at he ⊢
      split at he
      · rename_i f hfo
        split at he
        · unfold ZdK at he ⊢
          have hops:opds GL ⟨e,os2⟩ args=opds GL ⟨e,os1⟩ args:=Zfi fun y hy=>ho y
          rw [hops]
          split at he
          · rename_i a b c d
            cases d with
            | nil=>exact absurd hk (by show ¬2≤1;omega)
            | cons d e=>exact absurd hk (by show ¬4≤1;omega)
          · rename_i ids res
            have hla:ZS os2 ids=ZS os1 ids:=Zfs fun id hid=>hl id (by
              simp only [ZT,Zj0 hid,Bool.not_true])
            simp only [hla] at he ⊢
            split at he
            · rename_i a1 a2 a3 q1 q2 q3
              split at he
              · cases he
                simp only [q1,q2,q3]
              · cases he
            · cases he
          · cases he
        · cases he
      · cases he
  | alloc t=>simp only [Zv] at he;split at he <;> first | exact absurd rfl (hobj _) | cases he
  | box t x=>simp only [Zv] at he;split at he <;> first | exact absurd rfl (hobj _) | cases he
  | makeSlice t l c=>simp only [Zv] at he;split at he <;> first | exact absurd rfl (hobj _) | cases he
  | _=>cases he
theorem Zkc {e:List (Nat×AT)} {os1 os2:Objs} {o:Oper} {h:Option Hint} {x:AT} {os':Objs} {O:List Prop} (hk:ZA o h≤1) (he:ZX P GL C ⟨e,os1⟩ o h=some (x,os',O))
    (hl:∀id,ZT id GL ⟨e,os1⟩ o h=false→look os2 id=look os1 id):ZX P GL C ⟨e,os2⟩ o h=some (x,os2,O):=by
  unfold ZX at he ⊢
  split at he
  · rename_i b
    split at he
    · rename_i y oo O2 he2
      cases he
      rw [ZgP (by rw [←ZdL];exact hk) he2 (fun id hid=>hl id hid)]
    · cases he
  · exact ZgP hk he hl
theorem ZaO {e1 e2:List (Nat×AT)} {os os':Objs} {o:Oper} {h:Option Hint} {x:AT} {O:List Prop} (hk:ZA o h=3) (he:Zv P GL C ⟨e1,os⟩ o h=some (x,os',O)) :
    ∃id ob,h=some (.obj id)∧os'=(id,ob) :: os∧Zae id ⟨e1,os⟩=true∧
      ((∀y,y∈o.op.operands.toList→opd GL ⟨e2,os⟩ y=opd GL ⟨e1,os⟩ y)→Zae id ⟨e2,os⟩=true→Zv P GL C ⟨e2,os⟩ o h=some (x,os',O)):=by
  have hh:∃id,h=some (.obj id):=by
    unfold ZA at hk
    split at hk
    · split at hk <;> cases hk
    · split at hk
      · exact ⟨_,rfl⟩
      · cases hk
      · cases hk
      · split at hk <;> cases hk
  obtain ⟨id,rfl⟩:=hh
  obtain ⟨dst,op,ty,pos,after,guard⟩:=o
  have fin:∀{ob:Obj} {y:AT} {L:List Prop},newO ⟨e1,os⟩ id ob y L=some (x,os',O)→∃id' ob,(some (Hint.obj id):Option Hint)=some (.obj id')∧os'=(id',ob) :: os∧Zae id' ⟨e1,os⟩=true:=by
    intro ob y L h
    obtain ⟨h1,h2,h3,h4⟩:=Zaq h
    exact ⟨id,ob,rfl,h3,h1⟩
  have fin2:∀{ob:Obj} {y:AT} {L:List Prop},newO ⟨e1,os⟩ id ob y L=some (x,os',O)→Zae id ⟨e2,os⟩=true→newO ⟨e2,os⟩ id ob y L=some (x,os',O):=by
    intro ob y L h hf
    obtain ⟨h1,h2,h3,h4⟩:=Zaq h
    subst h2;subst h3;subst h4
    simp only [newO,hf]
  cases op with
  | move y=>
    simp only [Zv] at he ⊢
    split at he
    · rename_i heq;cases heq
      split at he
      · obtain ⟨h1,h2,h3,h4⟩:=Zaq he
        refine ⟨id,_,rfl,h3,h1,fun hop hf=>?_⟩
        exact fin2 he hf
      · cases he
    · rename_i heq;cases heq
    · cases he
  | assign y=>
    simp only [Zv] at he ⊢
    split at he
    · rename_i heq;cases heq
      split at he
      · obtain ⟨h1,h2,h3,h4⟩:=Zaq he
        refine ⟨id,_,rfl,h3,h1,fun hop hf=>?_⟩
        exact fin2 he hf
      · cases he
    · rename_i heq;cases heq
    · cases he
  | alloc t=>
    simp only [Zv] at he ⊢
    split at he
    · rename_i id' cs heq hz
      cases heq
      obtain ⟨h1,h2,h3,h4⟩:=Zaq he
      refine ⟨id,_,rfl,h3,h1,fun hop hf=>?_⟩
      exact fin2 he hf
    · cases he
  | box t y=>
    simp only [Zv] at he ⊢
    split at he
    · rename_i id' g cs heq hz
      cases heq
      obtain ⟨h1,h2,h3,h4⟩:=Zaq he
      refine ⟨id,_,rfl,h3,h1,fun hop hf=>?_⟩
      rw [hop y (by simp [Op.operands]),hz]
      exact fin2 he hf
    · cases he
  | buildSlice t n parts=>
    simp only [Zv] at he ⊢
    split at he
    · rename_i s zz hs1 hs2
      split at he
      · rename_i els hp h1 h2
        split at he
        · rename_i heq;cases heq
        · rename_i heq;cases heq
        · rename_i ps id' hps heq
          cases heq
          obtain ⟨h1',h2',h3,h4⟩:=Zaq he
          refine ⟨id,_,rfl,h3,h1',fun hop hf=>?_⟩
          have hpe:Z6 GL ⟨e2,os⟩ s 0 parts.toList=Z6 GL ⟨e1,os⟩ s 0 parts.toList:=ZbK fun p hp=>hop p.2 (by simp only [Op.operands];simp;exact ⟨p.1,by simpa using hp⟩)
          rw [hpe,hp]
          simp only [h1,h2,hps]
          exact fin2 he hf
        · cases he
      · cases he
    · cases he
  | makeSlice t l c=>
    simp only [Zv] at he ⊢
    split at he
    · rename_i id' e n m heq het h1 h2
      cases heq
      split at he
      · rename_i s b z hs1 hs2 hs3
        split at he
        · obtain ⟨h1',h2',h3,h4⟩:=Zaq he
          refine ⟨id,_,rfl,h3,h1',fun hop hf=>?_⟩
          rename_i q1 q2 q3
          rw [hop l (by simp [Op.operands]),hop c (by simp [Op.operands]),h1,h2]
          simp only [het,hs1,hs2,hs3,q1,q2,q3]
          exact fin2 he hf
        · cases he
      · cases he
    · cases he
  | call c=>obtain ⟨cal,_,_⟩:=c;cases cal <;> exact absurd hk (by show ¬4=3;omega)
  | _=>exact absurd hk (by show ¬4=3;omega)
theorem ZeQ {id:Nat}:∀{ids:List Nat} {os:Objs} {l:List Obj},¬id∈ids→look (ZaH os ids l) id=look os id
  | [],os,l,_=>by cases l <;> rfl
  | i :: ids,os,[],_=>rfl
  | i :: ids,os,o :: l,h=>by
    simp only [ZaH]
    rw [ZeQ (fun h'=>h (by simp [h'])),Zam]
    have:i≠id:=fun e=>h (by simp [e])
    split
    · rename_i e;exact absurd e this
    · rfl
theorem ZgS {os:Objs}:∀{ids:List Nat} {l:List Obj},ZS os ids=some l→∀id,id∈ids→look os id≠none
  | [],l,_,id,h=>by cases h
  | i :: ids,l,h,id,hm=>by
    simp only [ZS] at h
    split at h
    · rename_i o r h1 h2
      rcases List.mem_cons.1 hm with rfl | hm
      · rw [h1];simp
      · exact ZgS h2 id hm
    · cases h
theorem ZhX {e:List (Nat×AT)} {os os':Objs} {o:Oper} {h:Option Hint} {x:AT} {O:List Prop} (hk:ZA o h=2) (he:Zv P GL C ⟨e,os⟩ o h=some (x,os',O)) {id:Nat}
    (hid:ZT id GL ⟨e,os⟩ o h=true∨look os id=none):look os' id=look os id:=by
  have hobj:∀id,h≠some (.obj id):=fun id e=>by subst e;have:=Zcx (o:=o) (id:=id);omega
  have hcr:(∀f args tys,o.op≠.call ⟨.value f,args,tys⟩)→∀ids r,h≠some (.callR ids r):=fun hne ids r e=>by
    subst e;obtain ⟨f,a,t,h'⟩:=Zh3 (show ZA o (some (.callR ids r))≤3 by omega);exact hne f a t h'
  have hcr2:(∀f args tys,o.op≠.call ⟨.value f,args,tys⟩)→∀ids r a b,h≠some (.call ids r a b):=fun hne ids r a b e=>by
    subst e;obtain ⟨f,a,t,h'⟩:=Zh2 (show ZA o (some (.call ids r a b))≤3 by omega);exact hne f a t h'
  obtain ⟨dst,op,ty,pos,after,guard⟩:=o
  have set1:∀{i:Nat} {ob ob':Obj},look os i=some ob→(ZT i GL ⟨e,os⟩ ⟨dst,op,ty,pos,after,guard⟩ h=false)→look (setO os i ob') id=look os id:=by
    intro i ob ob' h1 h2
    rw [Zam]
    split
    · rename_i e1
      subst e1
      rcases hid with h3 | h3
      · rw [h2] at h3;cases h3
      · rw [h1] at h3;cases h3
    · rfl
  cases op with
  | store t y z=>
    have hc:=hcr (fun _ _ _ h=>by cases h)
    have hc2:=hcr2 (fun _ _ _ h=>by cases h)
    simp only [Zv] at he
    split at he
    · rename_i u v hu hv
      unfold ZgC at he
      split at he
      · rename_i i n k j _ xs m hm
        have htch:=ZcD (o:=⟨dst,.store t y z,ty,pos,after,guard⟩) hc hc2 (by simp [Op.operands]) hu (Zd1 i n k j)
        split at he
        · cases he
        · split at he
          · rename_i cs hl
            split at he
            · cases he;exact set1 hl htch
            · cases he
          · rename_i s els ps hl
            split at he
            · cases he;exact set1 hl htch
            · cases he
          · cases he
      · cases he
    · cases he
  | call c=>
    obtain ⟨cal,⟨args⟩,⟨tys⟩⟩:=c
    cases cal with
    | invoke r m=>cases he
    | builtin b=>
      have hc:=hcr (fun _ _ _ h=>by cases h)
      have hc2:=hcr2 (fun _ _ _ h=>by cases h)
      simp only [Zv] at he
      split at he
      · cases h with
        | none=>first | exact absurd hk (by show ¬1=2;omega) | exact absurd hk (by show ¬4=2;omega) | exact absurd hk (by show ¬0=2;omega) | exact absurd hk (by show ¬3=2;omega)
        | some h=>cases h <;> first | exact absurd hk (by show ¬1=2;omega) | exact absurd hk (by show ¬4=2;omega) | exact absurd hk (by show ¬0=2;omega) | exact absurd hk (by show ¬3=2;omega)
      · rename_i y z t t'
        split at he
        · rename_i u v d hu hv hd
          rcases ZfJ he with ⟨els,new,_,_,he2⟩ | he2
          · unfold ZcO at he2
            split at he2
            · split at he2
              · split at he2
                · cases he2;rfl
                · cases he2
              · cases he2
            · cases he2
          · clear he
            unfold ZdJ at he2
            split at he2
            · rename_i e' i n new hel
              have htch:=ZcD (o:=⟨dst,.call ⟨.builtin .append,⟨[y,z]⟩,⟨[t,t']⟩⟩,ty,pos,after,guard⟩) hc hc2 (by simp [Op.operands,Call.operands]) hu (Zjc i n)
              split at he2
              · rename_i s els s' by_ zz hl _ _ _
                split at he2
                · cases he2;exact set1 hl htch
                · cases he2
              · cases he2
            · cases he2
        · cases he
      · cases h with
        | none=>first | exact absurd hk (by show ¬1=2;omega) | exact absurd hk (by show ¬4=2;omega) | exact absurd hk (by show ¬0=2;omega) | exact absurd hk (by show ¬3=2;omega)
        | some h=>cases h <;> first | exact absurd hk (by show ¬1=2;omega) | exact absurd hk (by show ¬4=2;omega) | exact absurd hk (by show ¬0=2;omega) | exact absurd hk (by show ¬3=2;omega)
      · cases h with
        | none=>first | exact absurd hk (by show ¬1=2;omega) | exact absurd hk (by show ¬4=2;omega) | exact absurd hk (by show ¬0=2;omega) | exact absurd hk (by show ¬3=2;omega)
        | some h=>cases h <;> first | exact absurd hk (by show ¬1=2;omega) | exact absurd hk (by show ¬4=2;omega) | exact absurd hk (by show ¬0=2;omega) | exact absurd hk (by show ¬3=2;omega)
      · cases he
    | value fo=>
      simp only [Zv] at he
      split at he
      · rename_i f hfo
        split at he
        · unfold ZdK at he
          split at he
          · rename_i ids res os2 new
            cases new with
            | cons d e=>exact absurd hk (by show ¬4=2;omega)
            | nil=>
              split at he
              · rename_i a1 a2 r rs q1 q2 q3 q4
                split at he
                · rename_i os3 _ _ hadd
                  cases he
                  obtain ⟨zs,hz1,hz2⟩:=bind_some q2
                  have hadd':os'=ZaH os ids (rs.take ids.length):=by
                    cases hd:rs.drop ids.length with
                    | nil=>rw [hd] at hadd;simp only [ZaY] at hadd;cases hadd;rfl
                    | cons a b=>rw [hd] at hadd;simp only [ZaY] at hadd;cases hadd
                  rw [hadd']
                  refine ZeQ fun hm=>?_
                  rcases hid with h3 | h3
                  · simp only [ZT,Zj0 hm,Bool.not_true] at h3;cases h3
                  · exact ZgS hz1 id hm h3
                · cases he
              · cases he
          · rename_i ids res
            exact absurd hk (by show ¬1=2;omega)
          · cases he
        · cases he
      · cases he
  | _=>
    cases h with
    | none=>first | exact absurd hk (by show ¬1=2;omega) | exact absurd hk (by show ¬4=2;omega) | exact absurd hk (by show ¬0=2;omega) | exact absurd hk (by show ¬3=2;omega)
    | some h=>cases h <;> first | exact absurd hk (by show ¬1=2;omega) | exact absurd hk (by show ¬4=2;omega) | exact absurd hk (by show ¬0=2;omega) | exact absurd hk (by show ¬3=2;omega)
theorem ZkQ {s:S} {os':Objs} {o:Oper} {h:Option Hint} {x:AT} {O:List Prop} (hk:ZA o h=2) (he:ZX P GL C s o h=some (x,os',O)) {id:Nat}
    (hid:ZT id GL s o h=true∨look s.os id=none):look os' id=look s.os id:=by
  unfold ZX at he
  split at he
  · rename_i b
    split at he
    · rename_i y oo O2 he2
      cases he
      exact ZhX (e:=s.env) (os:=s.os) (by rw [←ZdL (b:=b)];exact hk) he2 hid
    · cases he
  · exact ZhX (e:=s.env) (os:=s.os) hk he hid
def Za5 (ops:List Oper) (x y:Oper) (hx hy:Option Hint):Bool:=
  (Nat.ble 2 (ZA x hx) && Nat.ble 2 (ZA y hy)) ||
  (match x.dst with | some d=>(y.looksAt ops.toArray).any (Nat.beq d) | none=>false) || (match y.dst with | some d=>(x.looksAt ops.toArray).any (Nat.beq d) | none=>false) ||
  (match x.dst,y.dst with | some d,some d'=>Nat.beq d d' | _,_=>false)
theorem Zld {ops:List Oper} {x y:Oper} {hx hy:Option Hint} (h1:2≤ZA x hx) (h2:2≤ZA y hy):Za5 ops x y hx hy=true:=by
  unfold Za5
  rw [Nat.ble_eq_true_of_le h1,Nat.ble_eq_true_of_le h2];rfl
def Zbc (P:Program) (GL:List (Nat×List PV)) (C:Spec) (N:Nat) (ops:List Oper) (hs:List (Nat×Hint)):Nat→List Oper→S→List (S×AT)
  | _,[],_=>[]
  | i,o :: rest,st=>match Zaj ops st o with
    | some false=>(st,.tup []) :: Zbc P GL C N ops hs (i+1) rest ⟨putE st.env o.dst (.tup []),st.os⟩
    | some true=>match ZX P GL C st o (look hs i) with
      | none=>[]
      | some (x,os,_)=>(st,x) :: Zbc P GL C N ops hs (i+1) rest ⟨putE st.env o.dst x,os⟩
    | none=>[]
def ZlH (ops:List Oper) (hs:List (Nat×Hint)) (tr:List (S×AT)) (st0:S) (j id:Nat):Bool:=
  ZaF id st0.env && (List.range ops.length).all fun i=>match tr[i]? with
    | none=>false
    | some (_,x)=>Nat.beq i j || ((clo ops []).getD i 0).testBit j || Zbv id x
def Zkt (GL:List (Nat×List PV)) (ops:List Oper) (hs:List (Nat×Hint)) (tr:List (S×AT)) (j:Nat) (o:Oper):Bool:=
  match tr[j]? with
  | none=>false
  | some (s,_)=>(List.range ops.length).all fun c=>match ops[c]?,tr[c]? with
    | some b,some (sc,_)=>(match look hs c with
      | some (.obj id)=>((clo ops []).getD j 0).testBit c || ((clo ops []).getD c 0).testBit j || ZT id GL s o (look hs j)
      | _=>true) && (match Nat.beq (ZA b (look hs c)) 2 with
      | true=>((clo ops []).getD j 0).testBit c || ((clo ops []).getD c 0).testBit j || sc.os.all fun p=>ZT p.1 GL sc b (look hs c) || ZT p.1 GL s o (look hs j)
      | false=>true)
    | _,_=>false
def ZeK (GL:List (Nat×List PV)) (ops:List Oper) (hs:List (Nat×Hint)) (tr:List (S×AT)) (st0:S):Bool:=
  (List.range ops.length).all fun j=>match ops[j]? with
    | none=>true
    | some y=>Nat.blt (ZA y (look hs j)) 4 && (Zav y).all (fun p=>Nat.blt p j) &&
      ((List.range j).all fun i=>match ops[i]? with
        | none=>true
        | some x=>!Za5 ops x y (look hs i) (look hs j) || ((clo ops []).getD j 0).testBit i) &&
      (match Nat.beq (ZA y (look hs j)) 3,look hs j with | true,some (.obj id)=>ZlH ops hs tr st0 j id | _,_=>true) &&
      (match Nat.beq (ZA y (look hs j)) 1 with | true=>Zkt GL ops hs tr j y | false=>true)
end Go.AL
end
section
namespace Go.AL
variable {D:List Deferred}
variable {P:Program} {GL:List (Nat×List PV)} {C:Spec} {N:Nat}
def ZbR (P:Program) (GL:List (Nat×List PV)) (C:Spec) (N:Nat) (ops:List Oper) (hs:List (Nat×Hint)) (f:Nat→S) (x:Nat→AT) (i:Nat) (o:Oper):Prop:=
  ZdV N o=true∧(f (i+1)).env=putE (f i).env o.dst (x i)∧
    ((Zaj ops (f i) o=some false∧x i = .tup []∧(f (i+1)).os=(f i).os)∨(Zaj ops (f i) o=some true∧∃O,ZX P GL C (f i) o (look hs i)=some (x i,(f (i+1)).os,O)∧All O))
theorem ZkL {ops:List Oper} {hs:List (Nat×Hint)}:∀(rest:List Oper) (i:Nat) (st st':S) (O:List Prop),Z3 P GL C N ops hs i rest st=some (st',O)→All O→
    ∃(f:Nat→S) (x:Nat→AT),f i=st∧f (i+rest.length)=st'∧∀(k:Nat) (o:Oper),rest[k]?=some o→ZbR P GL C N ops hs f x (i+k) o∧(Zbc P GL C N ops hs i rest st)[k]?=some (f (i+k),x (i+k))
  | [],i,st,st',O,h,hO=>by cases h;exact ⟨fun _=>st,fun _=>.tup [],rfl,rfl,fun k o h=>by simp at h⟩
  | o :: rest,i,st,st',O,h,hO=>by
    simp only [Z3] at h
    have go:∀(y:AT) (s1:S) (O':List Prop),Z3 P GL C N ops hs (i+1) rest s1=some (st',O')→All O'→(ZdV N o=true∧s1.env=putE st.env o.dst y∧
        ((Zaj ops st o=some false∧y = .tup []∧s1.os=st.os)∨(Zaj ops st o=some true∧∃O,ZX P GL C st o (look hs i)=some (y,s1.os,O)∧All O)))→
        Zbc P GL C N ops hs i (o :: rest) st=(st,y) :: Zbc P GL C N ops hs (i+1) rest s1→
        ∃(f:Nat→S) (x:Nat→AT),f i=st∧f (i+(o :: rest).length)=st'∧∀(k:Nat) (o':Oper),(o :: rest)[k]?=some o'→ZbR P GL C N ops hs f x (i+k) o'∧(Zbc P GL C N ops hs i (o :: rest) st)[k]?=some (f (i+k),x (i+k)):=by
      intro y s1 O' h1 h2 h3 h4
      obtain ⟨f,x,e1,e2,e3⟩:=ZkL rest (i+1) s1 st' O' h1 h2
      refine ⟨fun j=>if j=i then st else f j,fun j=>if j=i then y else x j,by simp,?_,fun k o' hk=>?_⟩
      · simp only [List.length_cons]
        rw [if_neg (by omega),show i+(rest.length+1)=i+1+rest.length from by omega];exact e2
      · cases k with
        | zero=>
          simp at hk;subst hk
          rw [h4]
          refine ⟨?_,by simp⟩
          unfold ZbR
          simp only [Nat.add_zero,if_true]
          rw [if_neg (by omega),e1]
          exact h3
        | succ k=>
          obtain ⟨this,htr⟩:=e3 k o' (by simpa using hk)
          rw [h4]
          refine ⟨?_,by
            rw [List.getElem?_cons_succ,htr]
            simp only
            rw [if_neg (by omega),if_neg (by omega),show i+(k+1)=i+1+k from by omega]⟩
          unfold ZbR at this ⊢
          simp only
          rw [if_neg (by omega),if_neg (by omega),if_neg (by omega),show i+(k+1)=i+1+k from by omega]
          exact this
    split at h
    · rename_i hw hd
      exact go (.tup []) _ O h hO ⟨hd,rfl,.inl ⟨hw,rfl,rfl⟩⟩ (by simp only [Zbc,hw])
    · rename_i hw hd
      split at h
      · cases h
      · rename_i y os1 O1 he
        split at h
        · cases h
        · rename_i st2 O2 h2
          cases h
          obtain ⟨q1,q2⟩:=hO.append
          exact go y _ O2 h2 q2 ⟨hd,rfl,.inr ⟨hw,O1,he,q1⟩⟩ (by simp only [Zbc,hw,he])
    · cases h
section
variable {ops:List Oper} {hs:List (Nat×Hint)} {f:Nat→S} {x:Nat→AT} {st:S}
theorem Zfb (h0:f 0=st) (hst:∀(k:Nat) (o:Oper),ops[k]?=some o→ZbR P GL C N ops hs f x k o):∀(j:Nat),j≤ops.length→∀t y,look (f j).env t=some y→
    (∃(i:Nat) (o:Oper),i<j∧ops[i]?=some o∧o.dst=some t∧y=x i∧∀(i':Nat) (o':Oper),i<i'→i'<j→ops[i']?=some o'→o'.dst≠some t)∨
    ((∀(i:Nat) (o:Oper),i<j→ops[i]?=some o→o.dst≠some t)∧look st.env t=some y)
  | 0,_,t,y,h=>.inr ⟨fun i o hi=>by omega,by rw [←h0];exact h⟩
  | j+1,hj,t,y,h=>by
    have ho:=List.getElem?_eq_getElem (l:=ops) (i:=j) (by omega)
    obtain ⟨_,he,_⟩:=hst j _ ho
    rw [he] at h
    cases hd:(ops[j]).dst with
    | none=>
      rw [hd] at h
      simp only [putE] at h
      rcases Zfb h0 hst j (by omega) t y h with ⟨i,o,h1,h2,h3,h4,h5⟩ | ⟨h1,h2⟩
      · refine .inl ⟨i,o,by omega,h2,h3,h4,fun i' o' q1 q2 q3=>?_⟩
        by_cases e:i'=j
        · subst e;rw [ho] at q3;cases q3;rw [hd];simp
        · exact h5 i' o' q1 (by omega) q3
      · refine .inr ⟨fun i o q1 q2=>?_,h2⟩
        by_cases e:i=j
        · subst e;rw [ho] at q2;cases q2;rw [hd];simp
        · exact h1 i o (by omega) q2
    | some d=>
      rw [hd] at h
      simp only [putE,Zz] at h
      by_cases e:d=t
      · subst e
        rw [if_pos rfl] at h;cases h
        exact .inl ⟨j,_,by omega,ho,hd,rfl,fun i' o' q1 q2=>by omega⟩
      · rw [if_neg e] at h
        rcases Zfb h0 hst j (by omega) t y h with ⟨i,o,h1,h2,h3,h4,h5⟩ | ⟨h1,h2⟩
        · refine .inl ⟨i,o,by omega,h2,h3,h4,fun i' o' q1 q2 q3=>?_⟩
          by_cases e':i'=j
          · subst e';rw [ho] at q3;cases q3;rw [hd];simpa using e
          · exact h5 i' o' q1 (by omega) q3
        · refine .inr ⟨fun i o q1 q2=>?_,h2⟩
          by_cases e':i=j
          · subst e';rw [ho] at q2;cases q2;rw [hd];simpa using e
          · exact h1 i o (by omega) q2
theorem Zfj (hst:∀(k:Nat) (o:Oper),ops[k]?=some o→ZbR P GL C N ops hs f x k o) :
    ∀(d j:Nat),j+d≤ops.length→(∀(i:Nat) (o:Oper),j≤i→i<j+d→ops[i]?=some o→ZA o (look hs i)≤1)→(f (j+d)).os=(f j).os
  | 0,j,_,_=>rfl
  | d+1,j,hj,h=>by
    have ho:=List.getElem?_eq_getElem (l:=ops) (i:=j+d) (by omega)
    have ih:=Zfj hst d j (by omega) (fun i o h1 h2=>h i o h1 (by omega))
    obtain ⟨_,_,hw⟩:=hst (j+d) _ ho
    rw [show j+(d+1)=j+d+1 from rfl,←ih]
    rcases hw with ⟨_,_,e⟩ | ⟨_,O,e,_⟩
    · exact e
    · exact ZfM (h (j+d) _ (by omega) (by omega) ho) e
theorem ZiM (hst:∀(k:Nat) (o:Oper),ops[k]?=some o→ZbR P GL C N ops hs f x k o) (hk4:∀(k:Nat) (o:Oper),ops[k]?=some o→ZA o (look hs k)<4) (id:Nat) :
    ∀(d j:Nat),j+d≤ops.length→(∀(i:Nat) (o:Oper),j≤i→i<j+d→ops[i]?=some o→(ZA o (look hs i)=2→ZT id GL (f i) o (look hs i)=true∨look (f i).os id=none)∧(ZA o (look hs i)=3→look hs i≠some (.obj id)))→look (f (j+d)).os id=look (f j).os id
  | 0,j,_,_=>rfl
  | d+1,j,hj,h=>by
    have ho:=List.getElem?_eq_getElem (l:=ops) (i:=j+d) (by omega)
    have ih:=ZiM hst hk4 id d j (by omega) (fun i o h1 h2=>h i o h1 (by omega))
    obtain ⟨_,_,hw⟩:=hst (j+d) _ ho
    rw [show j+(d+1)=j+d+1 from rfl,←ih]
    rcases hw with ⟨_,_,e⟩ | ⟨_,O,e,_⟩
    · rw [e]
    · have h1:=hk4 _ _ ho
      obtain ⟨h2,h3⟩:=h (j+d) _ (by omega) (by omega) ho
      by_cases hk:ZA ops[j+d] (look hs (j+d))=3
      · have hh:∃i',look hs (j+d)=some (.obj i'):=by
          cases hq:look hs (j+d) with
          | none=>rw [hq] at hk;obtain ⟨_,_,h',_⟩:=ZaO (e2:=[]) (os:=(f (j+d)).os) (e1:=(f (j+d)).env) hk (by rw [hq] at e;exact e);cases h'
          | some q=>
            rw [hq] at hk e
            cases q with
            | obj i'=>exact ⟨i',rfl⟩
            | bool b=>
              rw [ZdL] at hk
              unfold ZX at e
              simp only at e
              split at e
              · rename_i he
                obtain ⟨_,_,h',_⟩:=ZaO (e2:=[]) (os:=(f (j+d)).os) (e1:=(f (j+d)).env) hk he;cases h'
              · cases e
            | _=>obtain ⟨_,_,h',_⟩:=ZaO (e2:=[]) (os:=(f (j+d)).os) (e1:=(f (j+d)).env) hk e;cases h'
        obtain ⟨i',hi'⟩:=hh
        have hne:=h3 hk
        rw [hi'] at hk e hne
        obtain ⟨i2,ob,h4,h5,_⟩:=ZaO (e2:=[]) (os:=(f (j+d)).os) (e1:=(f (j+d)).env) hk e
        cases h4
        rw [h5,Zz,if_neg (fun e=>hne (by rw [e]))]
      · by_cases hk2:ZA ops[j+d] (look hs (j+d))=2
        · exact ZkQ hk2 e (h2 hk2)
        · rw [ZfM (by omega) e]
end
theorem ZeP {α:Type} {env:List (Nat×α)}:∀{l:List Nat} {t:Nat},t∈l→look (Zl env l) t=look env t
  | [],t,h=>by simp at h
  | k :: l,t,h=>by
    simp only [Zl]
    by_cases e:k=t
    · subst e
      cases hk:look env k with
      | some x=>simp [Zz]
      | none=>
        simp only
        cases hq:look (Zl env l) k with
        | none=>rfl
        | some y=>rw [ZU hq] at hk;cases hk
    · have ht:t∈l:=by simpa [Ne.symm e] using h
      have ih:=ZeP (env:=env) ht
      split
      · rw [Zz,if_neg e];exact ih
      · exact ih
theorem Zkp {ops:List Oper} {o:Oper} {e1 e2:List (Nat×AT)} {os1 os2:Objs} (h:∀t,t∈o.looksAt ops.toArray→look e2 t=look e1 t):∀y,y∈o.op.operands.toList→opd GL ⟨e2,os2⟩ y=opd GL ⟨e1,os1⟩ y:=by
  intro y hy
  cases y with
  | tmp t=>
    exact h t (List.mem_append.2 (.inl (List.mem_filterMap.2 ⟨_,hy,rfl⟩)))
  | const v=>rfl
  | func f=>rfl
  | global g=>rfl
theorem ZkN {ops:List Oper} {o:Oper} {s1 s2:S} (h:∀t,t∈o.looksAt ops.toArray→look s2.env t=look s1.env t):Zaj ops s2 o=Zaj ops s1 o:=by
  unfold Zaj
  cases hg:o.guard with
  | none=>rfl
  | some gw=>
    obtain ⟨g,want⟩:=gw
    simp only
    cases hd:(ops[g]?).bind (·.dst) with
    | none=>rfl
    | some t=>
      have:look s2.env t=look s1.env t:=h t (List.mem_append.2 (.inr (by simp only [hg];simp only [List.getElem?_toArray,hd];simp)))
      simp only [this]
structure Inv (D:List Deferred) (GL:List (Nat×List PV)) (N:Nat) (ops:List Oper) (hs:List (Nat×Hint)) (f:Nat→S) (x:Nat→AT) (st:S) (w0:World) (I0:Nat→Prop) (G0:Nat→Option Nat) (L:Nat→Prop) (k:Nat) (w:World) (I:Nat→Prop) (G:Nat→Option Nat) (a:Act):Prop where
  closed:ZlU ops L
  cut:k≤ops.length∧∀(i:Nat) (o:Oper),ops[i]?=some o→2≤ZA o (look hs i)→(L i↔i<k)
  ext:Ext w0 w I0 I (Mine G0 st.os) (Mine G (f k).os)
  keeps:ZJ (· < 100) w0 w I0 I G0 G (shape st.os) (shape (f k).os)
  sr:Sr GL w I G (f k).os
  size:a.tmps.size=N
  defers:a.defers=D
  wrote:∀(i:Nat) (o:Oper) (t:Nat),ops[i]?=some o→L i→o.dst=some t→(∀(i':Nat) (o':Oper),ops[i']?=some o'→L i'→o'.dst=some t→i'≤i)→t<N∧ATr w I G (shape (f k).os) (x i) (a.tmps.getD t undef)
  was:∀(t:Nat) (y:AT),(∀(i:Nat) (o:Oper),ops[i]?=some o→L i→o.dst≠some t)→look st.env t=some y→t<N∧ATr w I G (shape (f k).os) y (a.tmps.getD t undef)
theorem Zlc {l:List Nat} {d:Nat} (h:d∈l):l.any (Nat.beq d)=true:=List.any_eq_true.2 ⟨d,h,Nat.beq_refl d⟩
section
variable {ops:List Oper} {hs:List (Nat×Hint)} {f:Nat→S} {x:Nat→AT} {st:S} {w0:World} {I0:Nat→Prop} {G0:Nat→Option Nat}
theorem Zg9 {α:Type} {t:Nat} {y:α}:∀{env:List (Nat×α)},look env t=some y→(t,y)∈env
  | [],h=>by cases h
  | (k,z) :: env,h=>by
    rw [Zz] at h
    split at h
    · cases h;subst_vars;exact List.mem_cons_self ..
    · exact List.mem_cons_of_mem _ (Zg9 h)
structure ZiA (GL:List (Nat×List PV)) (ops:List Oper) (hs:List (Nat×Hint)) (f:Nat→S) (x:Nat→AT) (st:S):Prop where
  kind:∀(k:Nat) (o:Oper),ops[k]?=some o→ZA o (look hs k)<4
  low:∀(k:Nat) (o:Oper),ops[k]?=some o→∀p,p∈Zav o→p<k
  ord:∀(i j:Nat) (a b:Oper),i<j→ops[i]?=some a→ops[j]?=some b→Za5 ops a b (look hs i) (look hs j)=true→((clo ops []).getD j 0).testBit i=true
  crt:∀(j:Nat) (o:Oper) (id:Nat),ops[j]?=some o→ZA o (look hs j)=3→look hs j=some (.obj id)→ZaF id st.env=true∧∀(i:Nat),i<ops.length→i=j∨((clo ops []).getD i 0).testBit j=true∨Zbv id (x i)=true
  read:∀(j:Nat) (o:Oper),ops[j]?=some o→ZA o (look hs j)=1→∀(c:Nat) (b:Oper),ops[c]?=some b→((clo ops []).getD j 0).testBit c=true∨((clo ops []).getD c 0).testBit j=true∨
    ((∀id,look hs c=some (.obj id)→ZT id GL (f j) o (look hs j)=true)∧(ZA b (look hs c)=2→∀id,look (f c).os id≠none→ZT id GL (f c) b (look hs c)=true∨ZT id GL (f j) o (look hs j)=true))
theorem ZkO {tr:List (S×AT)} (htr:∀(k:Nat),k<ops.length→tr[k]?=some (f k,x k)) (h:ZeK GL ops hs tr st=true):ZiA GL ops hs f x st:=by
  unfold ZeK at h
  rw [List.all_eq_true] at h
  have key:∀(j:Nat) (y:Oper),ops[j]?=some y→ZA y (look hs j)<4∧(∀p,p∈Zav y→p<j)∧(∀(i:Nat) (a:Oper),i<j→ops[i]?=some a→Za5 ops a y (look hs i) (look hs j)=true→((clo ops []).getD j 0).testBit i=true)∧
      (∀id,ZA y (look hs j)=3→look hs j=some (.obj id)→ZlH ops hs tr st j id=true)∧(ZA y (look hs j)=1→Zkt GL ops hs tr j y=true):=by
    intro j y hy
    have:=h j (List.mem_range.2 (List.getElem?_eq_some_iff.1 hy).1)
    rw [hy] at this
    simp only [Bool.and_eq_true,List.all_eq_true] at this
    obtain ⟨⟨⟨⟨h1,h2⟩,h3⟩,h4⟩,h5⟩:=this
    refine ⟨Nat.le_of_ble_eq_true h1,fun p hp=>Nat.le_of_ble_eq_true (h2 p hp),fun i a hi ha hc=>?_,fun id hk hh=>?_,fun hk=>?_⟩
    · have:=h3 i (List.mem_range.2 hi)
      rw [ha] at this
      simpa [hc] using this
    · rw [hk,hh] at h4;exact h4
    · rw [hk] at h5;exact h5
  refine ⟨fun k o ho=>(key k o ho).1,fun k o ho=>(key k o ho).2.1,fun i j a b hij ha hb=>(key j b hb).2.2.1 i a hij ha,fun j o id ho hk hh=>?_,fun j o ho hk c b hc=>?_⟩
  · have:=(key j o ho).2.2.2.1 id hk hh
    unfold ZlH at this
    simp only [Bool.and_eq_true,List.all_eq_true] at this
    refine ⟨this.1,fun i hi=>?_⟩
    have h2:=this.2 i (List.mem_range.2 hi)
    rw [htr i hi] at h2
    simp only [Bool.or_eq_true] at h2
    rcases h2 with (h2 | h2) | h2
    · exact .inl (Nat.eq_of_beq_eq_true h2)
    · exact .inr (.inl h2)
    · exact .inr (.inr h2)
  · have:=(key j o ho).2.2.2.2 hk
    unfold Zkt at this
    rw [htr j (List.getElem?_eq_some_iff.1 ho).1] at this
    simp only [List.all_eq_true] at this
    have hcl:=(List.getElem?_eq_some_iff.1 hc).1
    have h2:=this c (List.mem_range.2 hcl)
    rw [hc,htr c hcl] at h2
    simp only [Bool.and_eq_true] at h2
    obtain ⟨h2,h3⟩:=h2
    by_cases b1:((clo ops []).getD j 0).testBit c=true
    · exact .inl b1
    by_cases b2:((clo ops []).getD c 0).testBit j=true
    · exact .inr (.inl b2)
    refine .inr (.inr ⟨fun id hh=>?_,fun hk2 id hne=>?_⟩)
    · rw [hh] at h2
      simp only [Bool.or_eq_true] at h2
      rcases h2 with (h2 | h2) | h2
      · exact absurd h2 b1
      · exact absurd h2 b2
      · exact h2
    · rw [hk2] at h3
      simp only [show Nat.beq 2 2=true from rfl,Bool.or_eq_true,List.all_eq_true] at h3
      rcases h3 with (h3 | h3) | h3
      · exact absurd h3 b1
      · exact absurd h3 b2
      · cases hl:look (f c).os id with
        | none=>exact absurd hl hne
        | some ob=>exact h3 (id,ob) (Zg9 hl)
theorem Zml (hlow:∀(k:Nat) (o:Oper),ops[k]?=some o→∀p,p∈Zav o→p<k):∀(j:Nat) (o:Oper),ops[j]?=some o→∀i,((clo ops []).getD j 0).testBit i=true→i<j:=by
  intro j
  induction j using Nat.strongRecOn with
  | _ j ih=>
    intro o ho i hb
    obtain ⟨p,hp,hr⟩:=(Zg1 ops []).2 j o ho i (by simpa using hb)
    have hpj:=hlow j o ho p hp
    rcases hr with rfl | ⟨_,hr⟩
    · exact hpj
    · have hlt:p<ops.length:=by have:=(List.getElem?_eq_some_iff.1 ho).1;omega
      have:=ih p hpj _ (List.getElem?_eq_getElem hlt) i hr
      omega
theorem ZdN {id:Nat}:∀{env:List (Nat×AT)},ZaF id env=true↔∀p,p∈env→Zbv id p.2=true
  | []=>by simp [ZaF]
  | (t,x) :: env=>by
    simp only [ZaF]
    split
    · rename_i h
      rw [ZdN]
      constructor
      · intro h' p hp
        rcases List.mem_cons.1 hp with rfl | hp
        · exact h
        · exact h' p hp
      · intro h' p hp;exact h' p (List.mem_cons_of_mem _ hp)
    · rename_i h
      constructor
      · intro h';cases h'
      · intro h';have:=h' _ (List.mem_cons_self ..);rw [h] at this;cases this
theorem Zjv {id:Nat} {env:List (Nat×AT)} (h:ZaF id env=true) (l:List Nat):ZaF id (Zl env l)=true:=by
  rw [ZdN]
  have h:=ZdN.1 h
  have key:∀(l:List Nat) (p:Nat×AT),p∈Zl env l→p∈env:=by
    intro l
    induction l with
    | nil=>intro p hp;cases hp
    | cons t l ih=>
      intro p hp
      simp only [Zl] at hp
      split at hp
      · rename_i y hy
        rcases List.mem_cons.1 hp with rfl | hp
        · exact Zg9 hy
        · exact ih p hp
      · exact ih p hp
  exact fun p hp=>h p (key l p hp)
theorem Znf (hC:ZaU P GL C) (h0:f 0=st) (hst:∀(k:Nat) (o:Oper),ops[k]?=some o→ZbR P GL C N ops hs f x k o) (hord:ZiA GL ops hs f x st)
    {L:Nat→Prop} {k:Nat} {w:World} {I:Nat→Prop} {G:Nat→Option Nat} {a:Act} (inv:Inv D GL N ops hs f x st w0 I0 G0 L k w I G a) {j:Nat} {o:Oper} (ho:ops[j]?=some o) (hnl:¬L j) (hready:∀p,p∈Zav o→L p)
    {K:Act→World→Prop} {Q:Exit→Act→World→Prop} (hK:∀a' w' I' G' k',Inv D GL N ops hs f x st w0 I0 G0 (fun i=>L i∨i=j) k' w' I' G' a'→K a' w') :
    wpOp P ops.toArray Q j K a w:=by
  have hlow:∀(k:Nat) (o':Oper),ops[k]?=some o'→k≤j→∀p,p∈Zav o'→p<k:=fun k o' h _=>hord.low k o' h
  have above:∀(i:Nat) (b:Oper),i<j→ops[i]?=some b→Za5 ops b o (look hs i) (look hs j)=true→L i:=fun i b hi hb hc=>
    ZfD inv.closed j o ho hready hlow i (hord.ord i j b o hi hb ho hc)
  have below:∀(i:Nat) (b:Oper),j<i→ops[i]?=some b→Za5 ops o b (look hs j) (look hs i)=true→¬L i:=fun i b hi hb hc hl=>
    hnl (ZfD inv.closed i b hb (fun p hp=>inv.closed i b hb hl p hp) (fun k o' h _=>hord.low k o' h) j (hord.ord j i o b hi ho hb hc))
  have hjn:j<ops.length:=(List.getElem?_eq_some_iff.1 ho).1
  have cl1:∀(b:Oper) (i t:Nat),b.dst=some t→t∈o.looksAt ops.toArray→Za5 ops b o (look hs i) (look hs j)=true:=fun b i t hd ht=>by
    simp [Za5,hd,Zlc ht]
  have cl2:∀(b:Oper) (i t:Nat),b.dst=some t→t∈o.looksAt ops.toArray→Za5 ops o b (look hs j) (look hs i)=true:=fun b i t hd ht=>by
    simp [Za5,hd,Zlc ht]
  have cl3:∀(b:Oper) (i t:Nat),b.dst=some t→o.dst=some t→Za5 ops o b (look hs j) (look hs i)=true:=fun b i t hd ht=>by
    simp [Za5,hd,ht,Nat.beq_refl]
  have cl4:∀(b:Oper) (i t:Nat),b.dst=some t→o.dst=some t→Za5 ops b o (look hs i) (look hs j)=true:=fun b i t hd ht=>by
    simp [Za5,hd,ht,Nat.beq_refl]
  obtain ⟨hdst,henv,hw⟩:=hst j o ho
  let e2:=Zl (f j).env (o.looksAt ops.toArray)
  have hlook:∀t,t∈o.looksAt ops.toArray→look e2 t=look (f j).env t:=fun t ht=>ZeP ht
  have hfr:Fr D w I G (shape (f k).os) N a e2:=by
    refine ⟨inv.size,inv.defers,fun t y hy=>?_⟩
    have hmem:t∈o.looksAt ops.toArray:=by
      have:∀{l:List Nat},look (Zl (f j).env l) t=some y→t∈l:=by
        intro l
        induction l with
        | nil=>intro h;cases h
        | cons q l ih=>
          intro h
          simp only [Zl] at h
          split at h
          · rw [Zz] at h
            split at h
            · subst_vars;simp
            · exact List.mem_cons_of_mem _ (ih h)
          · exact List.mem_cons_of_mem _ (ih h)
      exact this hy
    rw [hlook t hmem] at hy
    rcases Zfb h0 hst j (by omega) t y hy with ⟨i,b,h1,h2,h3,h4,h5⟩ | ⟨h1,h2⟩
    · subst h4
      refine inv.wrote i b t h2 (above i b h1 h2 (cl1 b i t h3 hmem)) h3 (fun i' b' q1 q2 q3=>?_)
      rcases Nat.lt_trichotomy i' j with h | h | h
      · rcases Nat.lt_or_ge i i' with hh | hh
        · exact absurd q3 (h5 i' b' hh h q1)
        · exact hh
      · subst h;exact absurd q2 hnl
      · exact absurd q2 (below i' b' h q1 (cl2 b' i' t q3 hmem))
    · refine inv.was t y (fun i b q1 q2 q3=>?_) h2
      rcases Nat.lt_trichotomy i j with h | h | h
      · exact h1 i b h q1 q3
      · subst h;exact hnl q2
      · exact below i b h q1 (cl2 b i t q3 hmem) q2
  have hkeep:∀(v:Value) (w':World) (I':Nat→Prop) (G':Nat→Option Nat) (k':Nat),k'≤ops.length→(∀(i:Nat) (b:Oper),ops[i]?=some b→2≤ZA b (look hs i)→((L i∨i=j)↔i<k'))→
      Ext w w' I I' (Mine G (f k).os) (Mine G' (f k').os)→∀(R:Nat→Prop),ZJ R w w' I I' G G' (shape (f k).os) (shape (f k').os)→(∀id,id<100→R id)→(∀i,i<ops.length→L i→(x i).refs R)→(∀t y,look st.env t=some y→y.refs R)→Sr GL w' I' G' (f k').os→ATr w' I' G' (shape (f k').os) (x j) v→
      Inv D GL N ops hs f x st w0 I0 G0 (fun i=>L i∨i=j) k' w' I' G' (a.put o.dst v):=by
    intro v w' I' G' k' hk' hcut e1 R ks hR1 hR2 hR3 s1 x1
    have hput:∀t,(a.put o.dst v).tmps.getD t undef=if o.dst=some t∧t<N then v else a.tmps.getD t undef:=by
      intro t
      cases hd:o.dst with
      | none=>simp [Act.put]
      | some d=>
        simp only [Act.put]
        by_cases hdt:d=t
        · subst hdt
          by_cases hlt:d<N
          · rw [if_pos ⟨rfl,hlt⟩,Array.getD_eq_getD_getElem?,Array.getElem?_setIfInBounds_self_of_lt (by rw [inv.size];exact hlt)];rfl
          · rw [if_neg (by simp [hlt]),Array.getD_eq_getD_getElem?,Array.getD_eq_getD_getElem?]
            have hge:N≤d:=Nat.le_of_not_lt hlt
            rw [Array.getElem?_eq_none (by simp [inv.size];exact hge),Array.getElem?_eq_none (by simp [inv.size];exact hge)]
        · rw [if_neg (by simp [hdt]),Array.getD_eq_getD_getElem?,Array.getElem?_setIfInBounds_ne hdt,←Array.getD_eq_getD_getElem?]
    refine ⟨fun i b hb hl p hp=>?_,⟨hk',hcut⟩,inv.ext.trans e1,inv.keeps.trans (ks.weaken fun i h=>hR1 i h),s1,?_,?_,fun i b t hb hl hd hmax=>?_,fun t y hno hy=>?_⟩
    · rcases hl with hl | rfl
      · exact .inl (inv.closed i b hb hl p hp)
      · rw [ho] at hb;cases hb;exact .inl (hready p hp)
    · cases hd:o.dst <;> simp [Act.put,inv.size]
    · cases hd:o.dst <;> simp [Act.put,inv.defers]
    · rw [hput]
      rcases hl with hl | rfl
      · have hne:¬(o.dst=some t∧t<N):=by
          rintro ⟨hd',_⟩
          have h1:=hmax j o ho (.inr rfl) hd'
          rcases Nat.lt_or_eq_of_le h1 with h | h
          · exact below i b h hb (cl3 b i t hd hd') hl
          · exact hnl (h ▸ hl)
        rw [if_neg hne]
        obtain ⟨q1,q2⟩:=inv.wrote i b t hb hl hd (fun i' b' r1 r2 r3=>hmax i' b' r1 (.inl r2) r3)
        exact ⟨q1,q2.mono ks (hR2 i (List.getElem?_eq_some_iff.1 hb).1 hl)⟩
      · rw [ho] at hb;cases hb
        have hlt:t<N:=by unfold ZdV at hdst;rw [hd] at hdst;exact Nat.le_of_ble_eq_true hdst
        rw [if_pos ⟨hd,hlt⟩]
        exact ⟨hlt,x1⟩
    · rw [hput,if_neg (fun h=>hno j o ho (.inr rfl) h.1)]
      obtain ⟨q1,q2⟩:=inv.was t y (fun i b r1 r2=>hno i b r1 (.inl r2)) hy
      exact ⟨q1,q2.mono ks (hR3 t y hy)⟩
  have hw2:Zaj ops ⟨e2,(f k).os⟩ o=Zaj ops (f j) o:=ZkN hlook
  have hcut0:¬2≤ZA o (look hs j)→∀(i:Nat) (b:Oper),ops[i]?=some b→2≤ZA b (look hs i)→((L i∨i=j)↔i<k):=fun hne i b hb hkb=>by
    rw [←inv.cut.2 i b hb hkb]
    refine ⟨fun h=>h.elim id fun h=>?_,.inl⟩
    subst h;rw [ho] at hb;cases hb;exact absurd hkb hne
  have hkj:=hord.kind j o ho
  have hos2:2≤ZA o (look hs j)→∀(i:Nat) (b:Oper),ops[i]?=some b→2≤ZA b (look hs i)→i≠j→(i<j↔i<k):=fun h2 i b hb hkb hij=>by
    have hkb':=hord.kind i b hb
    rw [←inv.cut.2 i b hb hkb]
    constructor
    · intro hi
      exact above i b hi hb (Zld hkb h2)
    · intro hl
      rcases Nat.lt_trichotomy i j with h | h | h
      · exact h
      · exact absurd h hij
      · exact absurd hl (below i b h hb (Zld h2 hkb))
  have hjk2:2≤ZA o (look hs j)→(f k).os=(f j).os:=fun h2=>by
    rcases Nat.le_total j k with h | h
    · obtain ⟨d,rfl⟩:=Nat.exists_eq_add_of_le h
      refine Zfj hst d j inv.cut.1 (fun i b q1 q2 q3=>?_)
      rcases Nat.lt_or_ge 1 (ZA b (look hs i)) with q4 | q4
      · by_cases e:i=j
        · subst e
          exact absurd ((inv.cut.2 i b q3 q4).2 q2) hnl
        · have:=(hos2 h2 i b q3 q4 e).2 q2;omega
      · exact q4
    · obtain ⟨d,rfl⟩:=Nat.exists_eq_add_of_le h
      refine (Zfj hst d k (by omega) (fun i b q1 q2 q3=>?_)).symm
      rcases Nat.lt_or_ge 1 (ZA b (look hs i)) with q4 | q4
      · have:=(hos2 h2 i b q3 q4 (by omega)).1 q2;omega
      · exact q4
  have hcut2:2≤ZA o (look hs j)→∀(i:Nat) (b:Oper),ops[i]?=some b→2≤ZA b (look hs i)→((L i∨i=j)↔i<j+1):=fun h2 i b hb hkb=>by
    by_cases e:i=j
    · subst e;exact ⟨fun _=>Nat.lt_succ_self _,fun _=>.inr rfl⟩
    · have h3:=hos2 h2 i b hb hkb e
      have h4:=inv.cut.2 i b hb hkb
      constructor
      · rintro (h | h)
        · have:=h3.2 (h4.1 h);omega
        · exact absurd h e
      · intro h
        exact .inl (h4.2 (h3.1 (by omega)))
  have any1:∀id,id<100→Any id:=fun _ _=>trivial
  have any2:∀i,i<ops.length→L i→(x i).refs Any:=fun i _ _=>AT.refs_any _
  have any3:∀t y,look st.env t=some y→y.refs Any:=fun t y _=>AT.refs_any _
  unfold wpOp
  rw [List.getElem?_toArray,ho]
  simp only
  rcases hw with ⟨hwf,hx,hos⟩ | ⟨hwt,O,he,hO⟩
  ·
    have:=Zbx (ops:=ops) (st:=⟨e2,(f k).os⟩) hfr (hw2.trans hwf)
    rw [this]
    simp only [Bool.false_eq_true,if_false]
    by_cases h2:2≤ZA o (look hs j)
    ·
      have e:(f (j+1)).os=(f k).os:=by rw [hos,hjk2 h2]
      exact hK _ w I G (j+1) (hkeep undef w I G (j+1) (by omega) (hcut2 h2) (by rw [e];exact .refl _ _ _) Any (by rw [e];exact .refl _ _ _ _ _) any1 any2 any3 (by rw [e];exact inv.sr) (by rw [hx];exact ⟨[],rfl,rfl⟩))
    · exact hK _ w I G k (hkeep undef w I G k inv.cut.1 (hcut0 h2) (.refl _ _ _) Any (.refl _ _ _ _ _) any1 any2 any3 inv.sr (by rw [hx];exact ⟨[],rfl,rfl⟩))
  · have:=Zbx (ops:=ops) (st:=⟨e2,(f k).os⟩) hfr (hw2.trans hwt)
    rw [this]
    simp only [if_true]
    have hop:∀y,y∈o.op.operands.toList→opd GL ⟨e2,(f j).os⟩ y=opd GL ⟨(f j).env,(f j).os⟩ y:=Zkp hlook
    by_cases h3:ZA o (look hs j)=3
    ·
      have hcrt:∃id ob,look hs j=some (.obj id)∧(f (j+1)).os=(id,ob) :: (f j).os∧Zae id (f j)=true∧(Zae id ⟨e2,(f j).os⟩=true→ZX P GL C ⟨e2,(f j).os⟩ o (look hs j)=some (x j,(f (j+1)).os,O)):=by
        cases hq:look hs j with
        | none=>
          rw [hq] at h3 he
          obtain ⟨_,_,h',_⟩:=ZaO (e2:=[]) (os:=(f j).os) (e1:=(f j).env) h3 he;cases h'
        | some q=>
          rw [hq] at h3 he
          cases q with
          | obj id=>
            obtain ⟨i2,ob,h4,h5,h6,h7⟩:=ZaO (e2:=e2) (os:=(f j).os) (e1:=(f j).env) h3 he
            cases h4
            exact ⟨id,ob,rfl,h5,h6,fun hf=>h7 hop hf⟩
          | bool b=>
            rw [ZdL] at h3
            unfold ZX at he
            simp only at he
            split at he
            · rename_i he'
              obtain ⟨_,_,h',_⟩:=ZaO (e2:=[]) (os:=(f j).os) (e1:=(f j).env) h3 he';cases h'
            · cases he
          | _=>obtain ⟨_,_,h',_⟩:=ZaO (e2:=[]) (os:=(f j).os) (e1:=(f j).env) h3 he;cases h'
      obtain ⟨id,ob,hid,hos',hfresh,hev⟩:=hcrt
      have hjk:=hjk2 (by omega)
      have hf2:Zae id ⟨e2,(f j).os⟩=true:=by
        unfold Zae at hfresh ⊢
        split at hfresh
        · cases hfresh
        · rename_i hl
          simp only [hl]
          split at hfresh
          · rename_i q1 q2
            rw [q1,Zjv q2 _];exact hfresh
          · cases hfresh
      have he2:=hev hf2
      rw [←hjk] at he2
      obtain ⟨c1,c2⟩:=hord.crt j o id ho h3 hid
      obtain ⟨f0,_⟩:=Za7 hfresh
      refine .inl (ZgF (st:=⟨e2,(f k).os⟩) he2 hO hC inv.sr hfr fun v w' I' G' q1 q2 q3 q4=>?_)
      have hmk:Zfe (look hs j)=[id]:=by rw [hid];rfl
      rw [hmk] at q4
      refine hK _ w' I' G' (j+1) (hkeep v w' I' G' (j+1) (by omega) (hcut2 (by omega)) q1 (·≠id) (q4.any_.weaken fun i h=>by simpa using h) (fun i h=>by omega) (fun i hi hl=>?_) (fun t y hy=>Zeb c1 t y hy) q2 q3)
      rcases c2 i hi with h | h | h
      · subst h;exact absurd hl hnl
      · refine absurd (ZfD inv.closed i _ (List.getElem?_eq_getElem hi) (fun p hp=>inv.closed i _ (List.getElem?_eq_getElem hi) hl p hp) (fun k o' h _=>hord.low k o' h) j h) hnl
      · exact Zjb h
    · have hk3:ZA o (look hs j)<3:=by omega
      have hmk:Zfe (look hs j)=[]:=by
        cases hh:look hs j with
        | none=>rfl
        | some h=>
          rw [hh] at hk3
          cases h with
          | obj id=>have:=Zcx (o:=o) (id:=id);omega
          | call a b c d=>
            cases d with
            | nil=>rfl
            | cons d e=>have:=Zi6 (o:=o) (a:=a) (b:=b) (c:=c) (d:=d) (e:=e);omega
          | _=>rfl
      have he1:ZX P GL C ⟨e2,(f j).os⟩ o (look hs j)=some (x j,(f (j+1)).os,O):=by rw [ZkP hop hk3];exact he
      by_cases hz:ZA o (look hs j)=0
      · obtain ⟨_,he2⟩:=Zkd hz (f k).os he1
        refine .inl (ZgF (st:=⟨e2,(f k).os⟩) he2 hO hC inv.sr hfr fun v w' I' G' q1 q2 q3 q4=>?_)
        rw [hmk] at q4
        exact hK _ w' I' G' k (hkeep v w' I' G' k inv.cut.1 (hcut0 (by omega)) q1 Any (q4.any_.weaken fun _ _=>by simp) any1 any2 any3 q2 q3)
      · by_cases h2:ZA o (look hs j)=2
        · have hjk:=hjk2 (by omega)
          rw [←hjk] at he1
          refine .inl (ZgF (st:=⟨e2,(f k).os⟩) he1 hO hC inv.sr hfr fun v w' I' G' q1 q2 q3 q4=>?_)
          rw [hmk] at q4
          exact hK _ w' I' G' (j+1) (hkeep v w' I' G' (j+1) (by omega) (hcut2 (by omega)) q1 Any (q4.any_.weaken fun _ _=>by simp) any1 any2 any3 q2 q3)
        · have hk1:ZA o (look hs j)=1:=by omega
          have hnr:∀(c:Nat) (b:Oper),ops[c]?=some b→2≤ZA b (look hs c)→¬(c<j↔c<k)→
              ((∀id,look hs c=some (.obj id)→ZT id GL (f j) o (look hs j)=true)∧(ZA b (look hs c)=2→∀id,look (f c).os id≠none→ZT id GL (f c) b (look hs c)=true∨ZT id GL (f j) o (look hs j)=true)):=by
            intro c b hb hkb hne
            rcases hord.read j o ho hk1 c b hb with h | h | h
            · exfalso
              have h1:=Zml hord.low j o ho c h
              have h2:=ZfD inv.closed j o ho hready hlow c h
              exact hne ⟨fun _=>(inv.cut.2 c b hb hkb).1 h2,fun _=>h1⟩
            · exfalso
              have h1:=Zml hord.low c b hb j h
              refine hne ⟨fun h=>by omega,fun h'=>?_⟩
              have h2:=(inv.cut.2 c b hb hkb).2 h'
              exact absurd (ZfD inv.closed c b hb (fun p hp=>inv.closed c b hb h2 p hp) (fun k o' h _=>hord.low k o' h) j h) hnl
            · exact h
          have hmid:∀(id i:Nat) (b:Oper),ZT id GL (f j) o (look hs j)=false→ops[i]?=some b→¬(i<j↔i<k)→(ZA b (look hs i)=2→ZT id GL (f i) b (look hs i)=true∨look (f i).os id=none)∧(ZA b (look hs i)=3→look hs i≠some (.obj id)):=by
            intro id i b hid hb hne
            refine ⟨fun q4=>?_,fun q4 q5=>?_⟩
            · by_cases hl:look (f i).os id=none
              · exact .inr hl
              · rcases (hnr i b hb (by omega) hne).2 q4 id hl with h | h
                · exact .inl h
                · rw [h] at hid;cases hid
            · have:=(hnr i b hb (by omega) hne).1 id q5
              rw [this] at hid;cases hid
          have hnor:∀id,ZT id GL ⟨e2,(f j).os⟩ o (look hs j)=ZT id GL (f j) o (look hs j):=fun id=>by
            unfold ZT
            split
            · rfl
            · rfl
            · rw [Bool.eq_iff_iff,List.all_eq_true,List.all_eq_true]
              constructor
              · intro h y hy;have:=h y hy;rw [hop y hy] at this;exact this
              · intro h y hy;have:=h y hy;rw [hop y hy];exact this
          have hlk:∀id,ZT id GL ⟨e2,(f j).os⟩ o (look hs j)=false→look (f k).os id=look (f j).os id:=by
            intro id hid
            rw [hnor] at hid
            rcases Nat.le_total j k with h | h
            · obtain ⟨d,rfl⟩:=Nat.exists_eq_add_of_le h
              exact ZiM hst hord.kind id d j inv.cut.1 (fun i b q1 q2 q3=>hmid id i b hid q3 (by omega))
            · obtain ⟨d,rfl⟩:=Nat.exists_eq_add_of_le h
              exact (ZiM hst hord.kind id d k (by omega) (fun i b q1 q2 q3=>hmid id i b hid q3 (by omega))).symm
          have he2:=Zkc (os2:=(f k).os) (by omega) he1 hlk
          refine .inl (ZgF (st:=⟨e2,(f k).os⟩) he2 hO hC inv.sr hfr fun v w' I' G' q1 q2 q3 q4=>?_)
          rw [hmk] at q4
          exact hK _ w' I' G' k (hkeep v w' I' G' k inv.cut.1 (hcut0 (by omega)) q1 Any (q4.any_.weaken fun _ _=>by simp) any1 any2 any3 q2 q3)
end
end Go.AL
end
section
namespace Go.AL
variable {D:List Deferred}
variable {P:Program} {GL:List (Nat×List PV)} {C:Spec} {N:Nat}
theorem Zmu {n:Nat} {listed:Array Bool} (hsz:listed.size=n) (h:∃j,j<n∧listed.getD j true=false):∃j,j<n∧listed.getD j true=false∧∀i,i<j→listed.getD i true=true:=by
  obtain ⟨j,hj⟩:=h
  induction j using Nat.strongRecOn with
  | _ j ih=>
    by_cases hl:∃i,i<j∧listed.getD i true=false
    · obtain ⟨i,h1,h2⟩:=hl
      exact ih i h1 ⟨by omega,h2⟩
    · refine ⟨j,hj.1,hj.2,fun i hi=>?_⟩
      cases hb:listed.getD i true with
      | true=>rfl
      | false=>exact absurd ⟨i,hi,hb⟩ hl
section
variable {ops:List Oper} {hs:List (Nat×Hint)} {f:Nat→S} {x:Nat→AT} {st:S} {w0:World} {I0:Nat→Prop} {G0:Nat→Option Nat}
def Zce (n:Nat) (listed:Array Bool) (i:Nat):Prop:=i<n∧listed.getD i false=true
theorem ZlO {n:Nat} {listed:Array Bool} (hsz:listed.size=n) {j:Nat} (hj:j<n) (i:Nat):Zce n (listed.setIfInBounds j true) i↔(Zce n listed i∨i=j):=by
  unfold Zce
  by_cases e:i=j
  · subst e
    have:(listed.setIfInBounds i true).getD i false=true:=by
      rw [Array.getD_eq_getD_getElem?,Array.getElem?_setIfInBounds_self_of_lt (by omega)];rfl
    simp [this,hj]
  · have:(listed.setIfInBounds j true).getD i false=listed.getD i false:=by
      rw [Array.getD_eq_getD_getElem?,Array.getElem?_setIfInBounds_ne (Ne.symm e),←Array.getD_eq_getD_getElem?]
    simp [this,e]
theorem Zoc (hC:ZaU P GL C) (h0:f 0=st) (hst:∀(k:Nat) (o:Oper),ops[k]?=some o→ZbR P GL C N ops hs f x k o) (hord:ZiA GL ops hs f x st) {Q:Exit→Act→World→Prop}
    (hQ:∀w I G k a,Inv D GL N ops hs f x st w0 I0 G0 (fun i=>i<ops.length) k w I G a→Q .normal a w) :
    ∀(fuel:Nat) (listed:Array Bool) (k:Nat) (w:World) (I:Nat→Prop) (G:Nat→Option Nat) (a:Act),listed.size=ops.length→(listed.toList.filter (fun b=>!b)).length≤fuel→
      Inv D GL N ops hs f x st w0 I0 G0 (Zce ops.length listed) k w I G a→wpAny P .any ops.toArray Q fuel listed a w:=by
  have hdone:∀(listed:Array Bool) (k:Nat) (w:World) (I:Nat→Prop) (G:Nat→Option Nat) (a:Act),listed.size=ops.length→Inv D GL N ops hs f x st w0 I0 G0 (Zce ops.length listed) k w I G a→
      Region.ready .any ops.toArray listed=[]→Q .normal a w:=by
    intro listed k w I G a hsz inv hr
    have hall:∀i,i<ops.length→listed.getD i true=true:=by
      intro i hi
      cases hb:listed.getD i true with
      | true=>rfl
      | false=>
        exfalso
        obtain ⟨j,h1,h2,h3⟩:=Zmu hsz ⟨i,hi,hb⟩
        have hmem:j∈Region.ready .any ops.toArray listed:=by
          rw [mem_ready]
          refine ⟨h2,ops[j],by simp [h1],fun e he hbd=>?_⟩
          have hp:e.on∈Zav ops[j]:=List.mem_map.2 ⟨e,List.mem_filter.2 ⟨by simpa using he,hbd⟩,rfl⟩
          have hlt:=hord.low j _ (List.getElem?_eq_getElem h1) _ hp
          have:=h3 e.on hlt
          rw [Array.getD_eq_getD_getElem?,Array.getElem?_eq_getElem (by omega)] at this ⊢
          exact this
        rw [hr] at hmem;cases hmem
    have hL:Zce ops.length listed=fun i=>i<ops.length:=by
      funext i
      apply propext
      refine ⟨fun h=>h.1,fun h=>⟨h,?_⟩⟩
      have:=hall i h
      rw [Array.getD_eq_getD_getElem?,Array.getElem?_eq_getElem (by omega)] at this ⊢
      exact this
    rw [hL] at inv
    exact hQ w I G k a inv
  intro fuel
  induction fuel with
  | zero=>
    intro listed k w I G a hsz hc inv
    have hr:Region.ready .any ops.toArray listed=[]:=by
      apply List.eq_nil_iff_forall_not_mem.2
      intro j hj
      rw [mem_ready] at hj
      obtain ⟨h1,o,h2,_⟩:=hj
      have hlt:j<ops.length:=by
        rw [List.getElem?_toArray] at h2;exact (List.getElem?_eq_some_iff.1 h2).1
      have hmem:false∈listed.toList:=by
        rw [Array.getD_eq_getD_getElem?,Array.getElem?_eq_getElem (by omega)] at h1
        have:listed[j]'(by omega)=false:=h1
        rw [←this];exact Array.mem_toList_iff.2 (Array.getElem_mem _)
      have:0<(listed.toList.filter (fun b=>!b)).length:=List.length_pos_of_mem (List.mem_filter.2 ⟨hmem,rfl⟩)
      omega
    exact ⟨hr,hdone listed k w I G a hsz inv hr⟩
  | succ fuel ih=>
    intro listed k w I G a hsz hc inv
    refine ⟨fun hr=>hdone listed k w I G a hsz inv hr,fun j hj=>?_⟩
    rw [mem_ready] at hj
    obtain ⟨h1,o,h2,h3⟩:=hj
    rw [List.getElem?_toArray] at h2
    have hlt:j<ops.length:=(List.getElem?_eq_some_iff.1 h2).1
    have hjl:listed[j]'(by omega)=false:=by
      rw [Array.getD_eq_getD_getElem?,Array.getElem?_eq_getElem (by omega)] at h1;exact h1
    refine Znf hC h0 hst hord inv h2 (fun h=>?_) (fun p hp=>?_) fun a' w' I' G' k' inv'=>?_
    · have:=h.2
      rw [Array.getD_eq_getD_getElem?,Array.getElem?_eq_getElem (by omega)] at this
      have h':listed[j]'(by omega)=true:=this
      rw [hjl] at h';cases h'
    · obtain ⟨e,he,rfl⟩:=List.mem_map.1 hp
      obtain ⟨he1,he2⟩:=List.mem_filter.1 he
      refine ⟨?_,h3 e (by simpa using he1) he2⟩
      have:=hord.low j o h2 _ hp
      omega
    · refine ih (listed.setIfInBounds j true) k' w' I' G' a' (by simp [hsz]) ?_ ?_
      · have:(listed.setIfInBounds j true).toList=listed.toList.set j true:=by simp
        rw [this]
        have key:∀(l:List Bool) (i:Nat),l[i]?=some false→((l.set i true).filter (fun b=>!b)).length+1=(l.filter (fun b=>!b)).length:=by
          intro l
          induction l with
          | nil=>intro i h;simp at h
          | cons b l ihl=>
            intro i h
            cases i with
            | zero=>simp at h;subst h;simp
            | succ i=>
              have:=ihl i (by simpa using h)
              simp only [List.set_cons_succ,List.filter_cons]
              cases b <;> simp <;> omega
        have:=key listed.toList j (by rw [Array.getElem?_toList,Array.getElem?_eq_getElem (by omega),hjl])
        omega
      · have:Zce ops.length (listed.setIfInBounds j true)=fun i=>Zce ops.length listed i∨i=j:=by
          funext i;exact propext (ZlO hsz hlt i)
        rw [this];exact inv'
theorem Zog {st':S} {O:List Prop} {w:World} {I:Nat→Prop} {G:Nat→Option Nat} {a:Act} {Q:Exit→Act→World→Prop} (hC:ZaU P GL C) (hord:ZeK GL ops hs (Zbc P GL C N ops hs 0 ops st) st=true) (he:Z3 P GL C N ops hs 0 ops st=some (st',O)) (hO:All O)
    (hsr:Sr GL w I G st.os) (hf:Fr D w I G (shape st.os) N a st.env)
    (hQ:∀w' I' G' a',Ext w w' I I' (Mine G st.os) (Mine G' st'.os)→ZJ (· < 100) w w' I I' G G' (shape st.os) (shape st'.os)→Sr GL w' I' G' st'.os→Fr D w' I' G' (shape st'.os) N a' st'.env→Q .normal a' w') :
    wpAny P .any ops.toArray Q ops.length (Array.replicate ops.length false) a w:=by
  obtain ⟨f,x,h0,hn,hst⟩:=ZkL ops 0 st st' O he hO
  have hst':∀(k:Nat) (o:Oper),ops[k]?=some o→ZbR P GL C N ops hs f x k o:=fun k o h=>by simpa using (hst k o h).1
  have hord':=ZkO (f:=f) (x:=x) (fun k hk=>by have:=(hst k _ (List.getElem?_eq_getElem hk)).2;simpa using this) hord
  rw [Nat.zero_add] at hn
  refine Zoc (D:=D) (w0:=w) (I0:=I) (G0:=G) (f:=f) (x:=x) (st:=st) hC h0 hst' hord' ?_ ops.length (Array.replicate ops.length false) 0 w I G a (by simp) (by
    have:(Array.replicate ops.length false).toList=List.replicate ops.length false:=by simp
    rw [this];exact Nat.le_trans (List.length_filter_le _ _) (by simp)) ?_
  · intro w' I' G' k a' inv
    have hos:(f ops.length).os=(f k).os:=by
      obtain ⟨d,hd⟩:=Nat.exists_eq_add_of_le inv.cut.1
      rw [hd]
      refine Zfj hst' d k (by omega) (fun i o q1 q2 q3=>?_)
      rcases Nat.lt_or_ge 1 (ZA o (look hs i)) with q4 | q4
      · have:=(inv.cut.2 i o q3 q4).1 (List.getElem?_eq_some_iff.1 q3).1
        omega
      · exact q4
    rw [hn] at hos
    refine hQ w' I' G' a' (by rw [hos];exact inv.ext) (by rw [hos];exact inv.keeps) (by rw [hos];exact inv.sr) ⟨inv.size,inv.defers,fun t y hy=>?_⟩
    rw [hos]
    rw [←hn] at hy
    rcases Zfb h0 hst' ops.length (Nat.le_refl _) t y hy with ⟨i,o,h1,h2,h3,h4,h5⟩ | ⟨h1,h2⟩
    · subst h4
      refine inv.wrote i o t h2 h1 h3 (fun i' o' q1 q2 q3=>?_)
      rcases Nat.lt_or_ge i i' with h | h
      · exact absurd q3 (h5 i' o' h q2 q1)
      · exact h
    · exact inv.was t y (fun i o q1 q2=>h1 i o q2 q1) h2
  · have hno:∀i,¬Zce ops.length (Array.replicate ops.length false) i:=fun i h=>by
      have:=h.2
      rw [Array.getD_eq_getD_getElem?,Array.getElem?_replicate] at this
      split at this <;> cases this
    refine ⟨fun j o _ h=>absurd h (hno j),⟨Nat.zero_le _,fun i o _ _=>⟨fun h=>absurd h (hno i),fun h=>by omega⟩⟩,by rw [h0];exact .refl _ _ _,by rw [h0];exact .refl _ _ _ _ _,by rw [h0];exact hsr,hf.size,hf.defers,
      fun i o t _ h=>absurd h (hno i),fun t y _ hy=>by rw [h0];exact hf.slot t y hy⟩
end
theorem Zox {w:World} {I:Nat→Prop} {G:Nat→Option Nat} {os:Objs} (h:Sr GL w I G os):Sr GL w.drew I G os∧ZJ Any w w.drew I I G G (shape os) (shape os):=
  h.move (fun _ h=>h) (fun _ _=>rfl) (Nat.le_refl _) (fun _ h=>.inl h) h.lt
theorem WA.regD {st:S} {F:Exit→S→Prop} {id:Nat} {l:List Oper} (hm:P.follows .mixedOrders=true) (ts ids:List Nat) (hs_:List (Nat×Hint)) {env':List (Nat×AT)} {os':Objs} {O:List Prop}
    (hd:ZeK GL l hs_ (Zbc P GL C N l hs_ 0 l st) st=true) (he:(Z3 P GL C N l hs_ 0 l st).map (fun p=>(Zl p.1.env ts,Zl p.1.os ids,p.2))=some (env',os',O)) (hC:ZaU P GL C) (hO:All O) (h:F .normal ⟨env',os'⟩) :
    WA P GL N (.region id l.toArray true) st F:=fun D w0 I0 G0 os0 w I G a h1 h2 h3 h4=>by
  obtain ⟨⟨s,O'⟩,h5,h6⟩:=map_some he
  cases h6
  obtain ⟨s0,k0⟩:=Zox h3
  have f0:Fr D w.drew I G (shape st.os) N a st.env:=⟨h4.size,h4.defers,fun t x hx=>⟨(h4.slot t x hx).1,(h4.slot t x hx).2.mono k0 (AT.refs_any x)⟩⟩
  refine wp_region_any hm ?_
  show wpAny P .any l.toArray _ l.toArray.size (Array.replicate l.toArray.size false) a w.drew
  rw [List.size_toArray]
  refine Zog hC hd h5 hO s0 f0 fun w' I' G' a' e k sr f=>?_
  have hsub:∀k o,look (Zl s.os ids) k=some o→look s.os k=some o:=fun k o=>ZU
  obtain ⟨s1,k1⟩:=sr.sub hsub
  have e':=(h1.trans (Ext.drew w I (Mine G st.os))).trans e
  exact ⟨I',G',_,⟨e'.size,e'.os,e'.tape,e'.output,e'.keep,e'.imm,e'.inew,fun b ⟨k,o,q1,q2⟩=>e'.mnew b ⟨k,o,hsub k o q1,q2⟩⟩,((h2.trans (k0.weaken fun _ _=>trivial)).trans k).trans (k1.weaken fun _ _=>trivial),s1,
    ⟨f.size,f.defers,fun t x hx=>⟨(f.slot t x (ZU hx)).1,(f.slot t x (ZU hx)).2.mono k1 (AT.refs_any x)⟩⟩,h⟩
end Go.AL
end
section
namespace Go.AL
variable {P:Program} {GL:List (Nat×List PV)} {C:Spec} {st:S} {N:Nat} {F:Exit→S→Prop} {code:Code}
theorem ZE {α β:Type} {a a':α} {b b':β} (h:a=a') (h2:b=b'):(a,b)=(a',b'):=by subst h;subst h2;rfl
def Into (J:S→Prop) (F:Exit→S→Prop):Exit→S→Prop
  | .normal,s=>J s
  | e,s=>F e s
theorem WA.join {x y:Code} (J:S→Prop) (h1:∀s,J s→WA P GL N y s F) (h2:WA P GL N x st (Into J F)):WA P GL N (.seq x y) st F:=
  WA.seq (h2.mono fun e s h=>by cases e <;> first | exact h1 s h | exact h)
theorem WA.regM {α:Type} {raw can:α} (T:α→List (Nat×AT)×Objs×List Prop) (hm:raw=can) {id:Nat} {l:List Oper} (ts ids:List Nat) (hs_:List (Nat×Hint)) {env':List (Nat×AT)} {os':Objs} {O:List Prop}
    (he:(Z3 P GL C N l hs_ 0 l st).map (fun p=>(Zl p.1.env ts,Zl p.1.os ids,p.2))=some (T raw)) (hT:T can=(env',os',O)) (hC:ZaU P GL C) (hO:All O) (h:F .normal ⟨env',os'⟩) :
    WA P GL N (.region id l.toArray false) st F:=by
  subst hm;rw [hT] at he;exact WA.reg ts ids hs_ he hC hO h
theorem WA.regDM {α:Type} {raw can:α} (T:α→List (Nat×AT)×Objs×List Prop) (hm:raw=can) {id:Nat} {l:List Oper} (ts ids:List Nat) (hs_:List (Nat×Hint)) {env':List (Nat×AT)} {os':Objs} {O:List Prop}
    (hmx:P.follows .mixedOrders=true) (hd:ZeK GL l hs_ (Zbc P GL C N l hs_ 0 l st) st=true)
    (he:(Z3 P GL C N l hs_ 0 l st).map (fun p=>(Zl p.1.env ts,Zl p.1.os ids,p.2))=some (T raw)) (hT:T can=(env',os',O)) (hC:ZaU P GL C) (hO:All O) (h:F .normal ⟨env',os'⟩) :
    WA P GL N (.region id l.toArray true) st F:=by
  subst hm;rw [hT] at he;exact WA.regD hmx ts ids hs_ hd he hC hO h
theorem Zcy {rv:List ResultVar} {outs:List Nat} {m:Nat} {res:AT} {os':List Obj} {s:S} (r:AT) (l:List Obj) (h1:resA P s rv=some r) (h2:renA outs res=some r) (h3:Zar outs os'=some l) (h4:ZS s.os outs=some l)
    (h5:outs.Nodup) (h6:outs.length=os'.length) (h7:outs.take m=List.range m):Out P rv outs m res os' .normal s:=⟨r,h1,h2,⟨l,h3,h4⟩,h5,h6,h7⟩
section
variable {α β:Type} {e:α→β}
theorem Zlk (l:List α):(l.map e).length=l.length:=List.length_map e
theorem ZiD (a b:List α):a.map e ++ b.map e=(a ++ b).map e:=List.map_append.symm
theorem Zhj (l:List α) (n:Nat):(l.map e).take n=(l.take n).map e:=(List.map_take).symm
theorem Zg4 (l:List α) (n:Nat):(l.map e).drop n=(l.drop n).map e:=(List.map_drop).symm
theorem ZiP (l:List α) (i:Nat) (x:α):(l.map e).set i (e x)=(l.set i x).map e:=List.map_set.symm
theorem Zlp (n:Nat) (x:α):List.replicate n (e x)=(List.replicate n x).map e:=(List.map_replicate).symm
theorem Zr {l:List α} {i:Int} {x:α} (h:idxL l i=some x):l[i.toNat]?=some x:=by
  unfold idxL at h;split at h
  · exact h
  · cases h
theorem ZgD (f:α→List PV) (l:List α) (n:Nat) (hf:∀x,(f x).length=n):∀es,es∈l.map f→es.length=n:=fun es h=>by
  obtain ⟨y,_,rfl⟩:=List.mem_map.1 h;exact hf y
end
end Go.AL
end
section
namespace Go.Proofs
open Go.Shelf
def Tryz.lays137_ren:Go.Shelf.Ren:=⟨fun | 137=>170 | 217=>185 | 266=>195 | n=>n,fun | 9=>9 | 5=>5 | 3=>3 | n=>n,fun | n=>n⟩
theorem Tryz.lays137:Go.Proofs.Lays.n137 Tryz.prog Tryz.lays137_ren:={
  mixed:=by kernel_rfl
  f137:=Tryz.func170.trans (congrArg some (by kernel_rfl))
  f217:=Tryz.func185.trans (congrArg some (by kernel_rfl))
  f266:=Tryz.func195.trans (congrArg some (by kernel_rfl))
  t3:=Tryz.underlying3
  a3:=Tryz.isAgg3
  z3:=Tryz.sizeOf3
  v3:=Tryz.zeroValue3
  t5:=Tryz.underlying5
  a5:=Tryz.isAgg5
  z5:=Tryz.sizeOf5
  v5:=Tryz.zeroValue5
  t9:=Tryz.underlying9
  a9:=Tryz.isAgg9
  z9:=Tryz.sizeOf9
  v9:=Tryz.zeroValue9 }
def Tryz.lays172_ren:Go.Shelf.Ren:=⟨fun | 172=>172 | 244=>188 | 245=>189 | 247=>196 | 279=>197 | 280=>198 | 281=>199 | 282=>200 | 287=>202 | 316=>203 | 171=>88 | 205=>204 | 321=>205 | 322=>206 | 243=>114 | 246=>136 | 283=>165 | 284=>166 | 285=>167 | 286=>168 | 129=>134 | 317=>181 | 318=>182 | 319=>183 | 320=>184 | 337=>193 | 338=>194 | n=>n,fun | 9=>9 | 3=>3 | 75=>132 | 76=>133 | 4=>4 | 5=>5 | 167=>208 | 37=>51 | 0=>0 | 85=>209 | 2=>2 | 168=>211 | 53=>159 | 175=>218 | 46=>37 | 210=>222 | 127=>156 | 145=>227 | 143=>225 | 21=>21 | 171=>192 | 173=>194 | 212=>204 | 51=>170 | 20=>20 | 213=>205 | 232=>216 | 233=>217 | 80=>136 | n=>n,fun | 15=>6 | 16=>7 | 17=>3 | 18=>4 | 19=>5 | n=>n⟩
theorem Tryz.lays172:Go.Proofs.Lays.n172 Tryz.prog Tryz.lays172_ren:={
  mixed:=by kernel_rfl
  f129:=Tryz.func134.trans (congrArg some (by kernel_rfl))
  f171:=Tryz.func88.trans (congrArg some (by kernel_rfl))
  f172:=Tryz.func172.trans (congrArg some (by kernel_rfl))
  f205:=Tryz.func204.trans (congrArg some (by kernel_rfl))
  f243:=Tryz.func114.trans (congrArg some (by kernel_rfl))
  f244:=Tryz.func188.trans (congrArg some (by kernel_rfl))
  f245:=Tryz.func189.trans (congrArg some (by kernel_rfl))
  f246:=Tryz.func136.trans (congrArg some (by kernel_rfl))
  f247:=Tryz.func196.trans (congrArg some (by kernel_rfl))
  f279:=Tryz.func197.trans (congrArg some (by kernel_rfl))
  f280:=Tryz.func198.trans (congrArg some (by kernel_rfl))
  f281:=Tryz.func199.trans (congrArg some (by kernel_rfl))
  f282:=Tryz.func200.trans (congrArg some (by kernel_rfl))
  f283:=Tryz.func165.trans (congrArg some (by kernel_rfl))
  f284:=Tryz.func166.trans (congrArg some (by kernel_rfl))
  f285:=Tryz.func167.trans (congrArg some (by kernel_rfl))
  f286:=Tryz.func168.trans (congrArg some (by kernel_rfl))
  f287:=Tryz.func202.trans (congrArg some (by kernel_rfl))
  f316:=Tryz.func203.trans (congrArg some (by kernel_rfl))
  f317:=Tryz.func181.trans (congrArg some (by kernel_rfl))
  f318:=Tryz.func182.trans (congrArg some (by kernel_rfl))
  f319:=Tryz.func183.trans (congrArg some (by kernel_rfl))
  f320:=Tryz.func184.trans (congrArg some (by kernel_rfl))
  f321:=Tryz.func205.trans (congrArg some (by kernel_rfl))
  f322:=Tryz.func206.trans (congrArg some (by kernel_rfl))
  f337:=Tryz.func193.trans (congrArg some (by kernel_rfl))
  f338:=Tryz.func194.trans (congrArg some (by kernel_rfl))
  t0:=Tryz.underlying0
  a0:=Tryz.isAgg0
  z0:=Tryz.sizeOf0
  v0:=Tryz.zeroValue0
  t2:=Tryz.underlying2
  a2:=Tryz.isAgg2
  z2:=Tryz.sizeOf2
  v2:=Tryz.zeroValue2
  t3:=Tryz.underlying3
  a3:=Tryz.isAgg3
  z3:=Tryz.sizeOf3
  v3:=Tryz.zeroValue3
  t4:=Tryz.underlying4
  a4:=Tryz.isAgg4
  z4:=Tryz.sizeOf4
  v4:=Tryz.zeroValue4
  t5:=Tryz.underlying5
  a5:=Tryz.isAgg5
  z5:=Tryz.sizeOf5
  v5:=Tryz.zeroValue5
  t9:=Tryz.underlying9
  a9:=Tryz.isAgg9
  z9:=Tryz.sizeOf9
  v9:=Tryz.zeroValue9
  t20:=Tryz.underlying20
  a20:=Tryz.isAgg20
  z20:=Tryz.sizeOf20
  v20:=Tryz.zeroValue20
  t21:=Tryz.underlying21
  a21:=Tryz.isAgg21
  z21:=Tryz.sizeOf21
  v21:=Tryz.zeroValue21
  t37:=Tryz.underlying51
  a37:=Tryz.isAgg51
  z37:=Tryz.sizeOf51
  v37:=Tryz.zeroValue51
  t46:=Tryz.underlying37
  a46:=Tryz.isAgg37
  z46:=Tryz.sizeOf37
  v46:=Tryz.zeroValue37
  t51:=Tryz.underlying170
  a51:=Tryz.isAgg170
  z51:=Tryz.sizeOf170
  v51:=Tryz.zeroValue170
  t53:=Tryz.underlying159
  a53:=Tryz.isAgg159
  z53:=Tryz.sizeOf159
  v53:=Tryz.zeroValue159
  t75:=Tryz.underlying132
  a75:=Tryz.isAgg132
  z75:=Tryz.sizeOf132
  v75:=Tryz.zeroValue132
  t76:=Tryz.underlying133
  a76:=Tryz.isAgg133
  z76:=Tryz.sizeOf133
  v76:=Tryz.zeroValue133
  t85:=Tryz.underlying209
  a85:=Tryz.isAgg209
  z85:=Tryz.sizeOf209
  v85:=Tryz.zeroValue209
  t127:=Tryz.underlying156
  a127:=Tryz.isAgg156
  z127:=Tryz.sizeOf156
  v127:=Tryz.zeroValue156
  t143:=Tryz.underlying225
  a143:=Tryz.isAgg225
  z143:=Tryz.sizeOf225
  v143:=Tryz.zeroValue225
  t145:=Tryz.underlying227
  a145:=Tryz.isAgg227
  z145:=Tryz.sizeOf227
  v145:=Tryz.zeroValue227
  t167:=Tryz.underlying208
  a167:=Tryz.isAgg208
  z167:=Tryz.sizeOf208
  v167:=Tryz.zeroValue208
  t168:=Tryz.underlying211
  a168:=Tryz.isAgg211
  z168:=Tryz.sizeOf211
  v168:=Tryz.zeroValue211
  t171:=Tryz.underlying192
  a171:=Tryz.isAgg192
  z171:=Tryz.sizeOf192
  v171:=Tryz.zeroValue192
  t173:=Tryz.underlying194
  a173:=Tryz.isAgg194
  z173:=Tryz.sizeOf194
  v173:=Tryz.zeroValue194
  t175:=Tryz.underlying218
  a175:=Tryz.isAgg218
  z175:=Tryz.sizeOf218
  v175:=Tryz.zeroValue218
  t210:=Tryz.underlying222
  a210:=Tryz.isAgg222
  z210:=Tryz.sizeOf222
  v210:=Tryz.zeroValue222
  t212:=Tryz.underlying204
  a212:=Tryz.isAgg204
  z212:=Tryz.sizeOf204
  v212:=Tryz.zeroValue204
  t213:=Tryz.underlying205
  a213:=Tryz.isAgg205
  z213:=Tryz.sizeOf205
  t232:=Tryz.underlying216
  a232:=Tryz.isAgg216
  z232:=Tryz.sizeOf216
  v232:=Tryz.zeroValue216
  t233:=Tryz.underlying217
  a233:=Tryz.isAgg217
  z233:=Tryz.sizeOf217
  v233:=Tryz.zeroValue217
  g15:=by kernel_rfl
  g16:=by kernel_rfl
  g17:=by kernel_rfl
  g18:=by kernel_rfl
  g19:=by kernel_rfl }
def Tryz.lays99_ren:Go.Shelf.Ren:=⟨fun | 99=>116 | 206=>137 | n=>n,fun | 9=>9 | 4=>4 | 3=>3 | n=>n,fun | n=>n⟩
theorem Tryz.lays99:Go.Proofs.Lays.n99 Tryz.prog Tryz.lays99_ren:={
  mixed:=by kernel_rfl
  f99:=Tryz.func116.trans (congrArg some (by kernel_rfl))
  f206:=Tryz.func137.trans (congrArg some (by kernel_rfl))
  t3:=Tryz.underlying3
  a3:=Tryz.isAgg3
  z3:=Tryz.sizeOf3
  v3:=Tryz.zeroValue3
  t4:=Tryz.underlying4
  a4:=Tryz.isAgg4
  z4:=Tryz.sizeOf4
  v4:=Tryz.zeroValue4
  t9:=Tryz.underlying9
  a9:=Tryz.isAgg9
  z9:=Tryz.sizeOf9
  v9:=Tryz.zeroValue9 }
def Tryz.lays197_ren:Go.Shelf.Ren:=⟨fun | 197=>80 | 260=>106 | n=>n,fun | 9=>9 | 21=>21 | 3=>3 | 4=>4 | 5=>5 | 105=>119 | 119=>145 | 0=>0 | 46=>37 | 139=>148 | 138=>147 | n=>n,fun | 3=>0 | 4=>1 | n=>n⟩
theorem Tryz.lays197:Go.Proofs.Lays.n197 Tryz.prog Tryz.lays197_ren:={
  mixed:=by kernel_rfl
  f197:=Tryz.func80.trans (congrArg some (by kernel_rfl))
  f260:=Tryz.func106.trans (congrArg some (by kernel_rfl))
  t0:=Tryz.underlying0
  a0:=Tryz.isAgg0
  z0:=Tryz.sizeOf0
  v0:=Tryz.zeroValue0
  t3:=Tryz.underlying3
  a3:=Tryz.isAgg3
  z3:=Tryz.sizeOf3
  v3:=Tryz.zeroValue3
  t4:=Tryz.underlying4
  a4:=Tryz.isAgg4
  z4:=Tryz.sizeOf4
  v4:=Tryz.zeroValue4
  t5:=Tryz.underlying5
  a5:=Tryz.isAgg5
  z5:=Tryz.sizeOf5
  v5:=Tryz.zeroValue5
  t9:=Tryz.underlying9
  a9:=Tryz.isAgg9
  z9:=Tryz.sizeOf9
  v9:=Tryz.zeroValue9
  t21:=Tryz.underlying21
  a21:=Tryz.isAgg21
  z21:=Tryz.sizeOf21
  v21:=Tryz.zeroValue21
  t46:=Tryz.underlying37
  a46:=Tryz.isAgg37
  z46:=Tryz.sizeOf37
  v46:=Tryz.zeroValue37
  t105:=Tryz.underlying119
  a105:=Tryz.isAgg119
  z105:=Tryz.sizeOf119
  v105:=Tryz.zeroValue119
  t119:=Tryz.underlying145
  a119:=Tryz.isAgg145
  z119:=Tryz.sizeOf145
  t138:=Tryz.underlying147
  a138:=Tryz.isAgg147
  z138:=Tryz.sizeOf147
  v138:=Tryz.zeroValue147
  t139:=Tryz.underlying148
  a139:=Tryz.isAgg148
  z139:=Tryz.sizeOf148
  v139:=Tryz.zeroValue148
  g3:=by kernel_rfl
  g4:=by kernel_rfl }
def Tryz.lays196_ren:Go.Shelf.Ren:=⟨fun | 196=>72 | 259=>99 | n=>n,fun | 9=>9 | 4=>4 | 3=>3 | 5=>5 | 12=>12 | 119=>145 | 0=>0 | 46=>37 | 139=>148 | 138=>147 | 53=>159 | n=>n,fun | 3=>0 | 4=>1 | n=>n⟩
theorem Tryz.lays196:Go.Proofs.Lays.n196 Tryz.prog Tryz.lays196_ren:={
  mixed:=by kernel_rfl
  f196:=Tryz.func72.trans (congrArg some (by kernel_rfl))
  f259:=Tryz.func99.trans (congrArg some (by kernel_rfl))
  t0:=Tryz.underlying0
  a0:=Tryz.isAgg0
  z0:=Tryz.sizeOf0
  v0:=Tryz.zeroValue0
  t3:=Tryz.underlying3
  a3:=Tryz.isAgg3
  z3:=Tryz.sizeOf3
  v3:=Tryz.zeroValue3
  t4:=Tryz.underlying4
  a4:=Tryz.isAgg4
  z4:=Tryz.sizeOf4
  v4:=Tryz.zeroValue4
  t5:=Tryz.underlying5
  a5:=Tryz.isAgg5
  z5:=Tryz.sizeOf5
  v5:=Tryz.zeroValue5
  t9:=Tryz.underlying9
  a9:=Tryz.isAgg9
  z9:=Tryz.sizeOf9
  v9:=Tryz.zeroValue9
  t12:=Tryz.underlying12
  a12:=Tryz.isAgg12
  z12:=Tryz.sizeOf12
  v12:=Tryz.zeroValue12
  t46:=Tryz.underlying37
  a46:=Tryz.isAgg37
  z46:=Tryz.sizeOf37
  v46:=Tryz.zeroValue37
  t53:=Tryz.underlying159
  a53:=Tryz.isAgg159
  z53:=Tryz.sizeOf159
  v53:=Tryz.zeroValue159
  t119:=Tryz.underlying145
  a119:=Tryz.isAgg145
  z119:=Tryz.sizeOf145
  t138:=Tryz.underlying147
  a138:=Tryz.isAgg147
  z138:=Tryz.sizeOf147
  v138:=Tryz.zeroValue147
  t139:=Tryz.underlying148
  a139:=Tryz.isAgg148
  z139:=Tryz.sizeOf148
  v139:=Tryz.zeroValue148
  g3:=by kernel_rfl
  g4:=by kernel_rfl }
def Tryz.lays151_ren:Go.Shelf.Ren:=⟨fun | 151=>141 | 152=>171 | 137=>170 | 119=>115 | 224=>186 | 225=>187 | 217=>185 | 266=>195 | n=>n,fun | 9=>9 | 21=>21 | 4=>4 | 3=>3 | 5=>5 | 0=>0 | 46=>37 | n=>n,fun | n=>n⟩
theorem Tryz.lays151:Go.Proofs.Lays.n151 Tryz.prog Tryz.lays151_ren:={
  mixed:=by kernel_rfl
  f119:=Tryz.func115.trans (congrArg some (by kernel_rfl))
  f137:=Tryz.func170.trans (congrArg some (by kernel_rfl))
  f151:=Tryz.func141.trans (congrArg some (by kernel_rfl))
  f152:=Tryz.func171.trans (congrArg some (by kernel_rfl))
  f217:=Tryz.func185.trans (congrArg some (by kernel_rfl))
  f224:=Tryz.func186.trans (congrArg some (by kernel_rfl))
  f225:=Tryz.func187.trans (congrArg some (by kernel_rfl))
  f266:=Tryz.func195.trans (congrArg some (by kernel_rfl))
  t0:=Tryz.underlying0
  a0:=Tryz.isAgg0
  z0:=Tryz.sizeOf0
  v0:=Tryz.zeroValue0
  t3:=Tryz.underlying3
  a3:=Tryz.isAgg3
  z3:=Tryz.sizeOf3
  v3:=Tryz.zeroValue3
  t4:=Tryz.underlying4
  a4:=Tryz.isAgg4
  z4:=Tryz.sizeOf4
  v4:=Tryz.zeroValue4
  t5:=Tryz.underlying5
  a5:=Tryz.isAgg5
  z5:=Tryz.sizeOf5
  v5:=Tryz.zeroValue5
  t9:=Tryz.underlying9
  a9:=Tryz.isAgg9
  z9:=Tryz.sizeOf9
  v9:=Tryz.zeroValue9
  t21:=Tryz.underlying21
  a21:=Tryz.isAgg21
  z21:=Tryz.sizeOf21
  v21:=Tryz.zeroValue21
  t46:=Tryz.underlying37
  a46:=Tryz.isAgg37
  z46:=Tryz.sizeOf37
  v46:=Tryz.zeroValue37 }
end Go.Proofs
end
section
namespace Go.AL
open Go.RowKit
variable {P:Program} {GL:List (Nat×List PV)}
theorem Zbw {f:FuncId} {args:List AT} {res:AT} (h:∀(w:World) (I:Nat→Prop) (G:Nat→Option Nat) (vs:List Value),Sr GL w I G []→As w I G (shape []) args vs→
    Calls P f ⟨vs⟩ w fun e w'=>∃v,e = .returned v∧(∀w' I' G' sh,ATr w' I' G' sh res v)∧Below w.heap.size w w'):Sim P GL f args [] res []:=by
  intro w I G vs hs ha
  refine Calls.imp (h w I G vs hs ha) ?_
  rintro e w' ⟨v,rfl,hr,hb⟩
  obtain ⟨s1,k1⟩:=Sr.move (os:=ZC []) (w':=w') (I':=I) hs (fun _ h=>h) (fun k hk=>hb.block k hk) hb.size (fun _ h=>.inl h) (fun k hk=>Nat.lt_of_lt_of_le (hs.lt k hk) hb.size)
  exact ⟨v,I,G,rfl,⟨hb.size,hb.os,hb.tape,hb.output,fun k hk _=>hb.block k hk,fun _ h=>h,fun _ h=>.inl h,fun _ h=>.inl h⟩,s1,hr _ _ _ _,k1.weaken fun _ _=>trivial⟩
theorem ZdH {w:World} {I:Nat→Prop} {G:Nat→Option Nat} {sh:Sh} {s:List UInt8} {l:List AT} {vs:List Value} (h:As w I G sh (one (.str s) :: l) vs):∃vs',vs = .string ⟨s.toArray⟩ :: vs'∧As w I G sh l vs':=by
  obtain ⟨v,vs',rfl,hv,hl⟩:=h
  have h1:PVr w I (.str s) v:=ZD hv
  cases h1
  exact ⟨vs',rfl,hl⟩
theorem Zj1 {w:World} {I:Nat→Prop} {G:Nat→Option Nat} {sh:Sh} {k:IntKind} {n:Int} {l:List AT} {vs:List Value} (h:As w I G sh (one (.int k n) :: l) vs):∃vs',vs = .int k n :: vs'∧As w I G sh l vs':=by
  obtain ⟨v,vs',rfl,hv,hl⟩:=h
  have h1:PVr w I (.int k n) v:=ZD hv
  cases h1
  exact ⟨vs',rfl,hl⟩
theorem ZdG {w:World} {I:Nat→Prop} {G:Nat→Option Nat} {sh:Sh} {vs:List Value} (h:As w I G sh [] vs):vs=[]:=h
end Go.AL
namespace Go.Proofs.YthilboheomikjaaGreatDoor
open Go.AL Go.RowKit
def GL0:List (Nat×List PV):=[(0,(List.range 256).map fun c=>.int .u8 (Lib.firstT c)),(1,(List.range 32).map fun i=>.int .u8 (if i % 2=0 then Lib.accLo (i / 2) else Lib.accHi (i / 2)))]
theorem Zly {w:World} {I:Nat→Prop} {G:Nat→Option Nat} {os:Objs} (h:Sr GL0 w I G os):Lib.Utf8Tabs 0 1 w:=by
  obtain ⟨_,h0⟩:=h.gl 0 _ rfl
  obtain ⟨_,h1⟩:=h.gl 1 _ rfl
  refine ⟨fun c hc=>?_,fun i hi=>⟨?_,?_⟩⟩
  · obtain ⟨u,hu,hr⟩:=h0 c (.int .u8 (Lib.firstT c)) (by simp [hc])
    cases hr;exact hu
  · obtain ⟨u,hu,hr⟩:=h1 (2*i) (.int .u8 (Lib.accLo i)) (by
      rw [List.getElem?_map,List.getElem?_range (by omega)]
      simp only [Option.map_some,show 2*i % 2=0 from by omega,if_true,show 2*i / 2=i from by omega])
    cases hr;exact hu
  · obtain ⟨u,hu,hr⟩:=h1 (2*i+1) (.int .u8 (Lib.accHi i)) (by
      rw [List.getElem?_map,List.getElem?_range (by omega)]
      simp only [Option.map_some,show (2*i+1) % 2=1 from by omega,show (2*i+1) / 2=i from by omega]
      rfl)
    cases hr;exact hu
def F80 (k:Nat) (s:List UInt8):Option (Int×Int):=some (((Lib.decodeGo ⟨s.toArray⟩).1:Nat),((Lib.decodeGo ⟨s.toArray⟩).2:Nat))
theorem ZoO (k:Nat) (v0:List UInt8) (r:Int×Int) (hF:F80 k v0=some r):Sim Tryz.prog GL0 80 [one (.str v0)] [] (.tup [(false,[.pv (.int .i32 r.1)]),(false,[.pv (.int .i64 r.2)])]) []:=by
  obtain rfl:=Option.some.inj hF
  refine Zbw fun w I G vs hs ha=>?_
  obtain ⟨vs,rfl,hb⟩:=ZdH ha;clear ha;have ha:=hb;clear hb
  obtain rfl:=ZdG ha
  refine Calls.imp (Any.utf8_DecodeRuneInString Tryz.lays197 ⟨v0.toArray⟩ w (Zly hs)) ?_
  rintro e w' ⟨rfl,hb⟩
  exact ⟨_,rfl,fun _ _ _ _=>⟨_,rfl,_,_,rfl,⟨_,rfl,.int _ _⟩,_,_,rfl,⟨_,rfl,.int _ _⟩,rfl⟩,hb⟩
def F72 (k:Nat) (s:List UInt8):Option Bool:=if s.length≤9223372036854775807 then some (Lib.validD s) else none
theorem ZoM (k:Nat) (v0:List UInt8) (r:Bool) (hF:F72 k v0=some r):Sim Tryz.prog GL0 72 [one (.str v0)] [] (one (.bool r)) []:=by
  obtain ⟨hl,hF⟩:=Zo hF
  obtain rfl:=Option.some.inj hF
  refine Zbw fun w I G vs hs ha=>?_
  obtain ⟨vs,rfl,hb⟩:=ZdH ha;clear ha;have ha:=hb;clear hb
  obtain rfl:=ZdG ha
  refine Calls.imp (Any.utf8_ValidString Tryz.lays196 ⟨v0.toArray⟩ w (by rw [ZbL];exact hl) (Zly hs)) ?_
  rintro e w' ⟨rfl,hb⟩
  exact ⟨_,rfl,fun _ _ _ _=>⟨_,rfl,.bool _⟩,hb⟩
def F116 (k:Nat) (s p:List UInt8):Option Bool:=some (Lib.hasPrefix s p)
theorem ZnS (k:Nat) (v0 v1:List UInt8) (r:Bool) (hF:F116 k v0 v1=some r):Sim Tryz.prog GL0 116 [one (.str v0),one (.str v1)] [] (one (.bool r)) []:=by
  obtain rfl:=Option.some.inj hF
  refine Zbw fun w I G vs hs ha=>?_
  obtain ⟨vs,rfl,hb⟩:=ZdH ha;clear ha;have ha:=hb;clear hb
  obtain ⟨vs,rfl,hb⟩:=ZdH ha;clear ha;have ha:=hb;clear hb
  obtain rfl:=ZdG ha
  refine Calls.imp (Any.strings_HasPrefix Tryz.lays99 ⟨v0.toArray⟩ ⟨v1.toArray⟩ w) ?_
  rintro e w' ⟨rfl,rfl⟩
  exact ⟨_,rfl,fun _ _ _ _=>⟨_,rfl,.bool _⟩,.refl _ _⟩
def F170 (k:Nat) (s:List UInt8) (c:Int):Option Int:=some (Lib.indexByte s c.toNat.toUInt8)
theorem Zit (k:Nat) (v0:List UInt8) (v1:Int) (r:Int) (hF:F170 k v0 v1=some r):Sim Tryz.prog GL0 170 [one (.str v0),one (.int .u8 v1)] [] (one (.int .i64 r)) []:=by
  obtain rfl:=Option.some.inj hF
  refine Zbw fun w I G vs hs ha=>?_
  obtain ⟨vs,rfl,hb⟩:=ZdH ha;clear ha;have ha:=hb;clear hb
  obtain ⟨vs,rfl,hb⟩:=Zj1 ha;clear ha;have ha:=hb;clear hb
  obtain rfl:=ZdG ha
  refine Calls.imp (Any.strings_IndexByte Tryz.lays137 ⟨v0.toArray⟩ v1 w) ?_
  rintro e w' ⟨rfl,rfl⟩
  exact ⟨_,rfl,fun _ _ _ _=>⟨_,rfl,.int _ _⟩,.refl _ _⟩
def F172 (k:Nat) (s:List UInt8):Option Int:=if s.length≤18 then Lib.atoi s else none
theorem Zn7 (k:Nat) (v0:List UInt8) (r:Int) (hF:F172 k v0=some r):Sim Tryz.prog GL0 172 [one (.str v0)] [] (.tup [(false,[.pv (.int .i64 r)]),(false,[.pv .nilif])]) []:=by
  obtain ⟨hl,hF⟩:=Zo hF
  refine Zbw fun w I G vs hs ha=>?_
  obtain ⟨vs,rfl,hb⟩:=ZdH ha;clear ha;have ha:=hb;clear hb
  obtain rfl:=ZdG ha
  refine Calls.imp (Any.strconv_Atoi Tryz.lays172 ⟨v0.toArray⟩ r (by rw [ZbL];exact hl) hF w) ?_
  rintro e w' ⟨rfl,t,rfl⟩
  refine ⟨_,rfl,fun _ _ _ _=>⟨_,rfl,_,_,rfl,⟨_,rfl,.int _ _⟩,_,_,rfl,⟨_,rfl,.nilif⟩,rfl⟩,?_⟩
  exact Lib.bytesWorld_below _ _ _
end Go.Proofs.YthilboheomikjaaGreatDoor
end
section
namespace Go.Proofs.YthilboheomikjaaGreatDoor
open Go.AL Go.RowKit Go.Shelf Go.Lib Go.ChangeShapes Go.WideShapes Go.ChangeAt
set_option maxRecDepth 100000
theorem own:ownKnob Tryz.prog.godebug=none:=by kernel_rfl
theorem Znd:Go.Pinned.utf8First=firstData:=by kernel_rfl
theorem Zmj:(Rows.laid_unicode_utf8_acceptRanges:DataW Unit)=acceptData:=by kernel_rfl
theorem u8x:U8Extra Tryz.prog Tryz.lays197_ren:=⟨by kernel_rfl,by kernel_rfl,by kernel_rfl,by kernel_rfl,by kernel_rfl,by kernel_rfl,by kernel_rfl⟩
theorem ZlQ {W:World} (h:Lib.Utf8Tabs 0 1 W):Sr GL0 W (fun k=>k<2) (fun _=>none) []:=by
  have hb:∀{b o:Nat} {v:Value},W.cell? ⟨b,o,none⟩=some v→b<W.heap.size:=fun {b o v} h=>by
    simp only [World.cell?] at h
    cases hq:W.heap[b]? with
    | none=>rw [hq] at h;cases h
    | some x=>exact (Array.getElem?_eq_some_iff.1 hq).1
  refine ⟨fun g ps hg=>?_,(fun id o h1=>by cases h1),(fun id o b h1=>by cases h1),(fun id id' o o' b h1=>by cases h1),fun k hk=>?_⟩
  · match g,hg with
    | 0,hg=>
      cases hg
      refine ⟨by omega,fun j p hp=>?_⟩
      simp only [List.getElem?_map] at hp
      have hj:j<256:=by
        rcases Nat.lt_or_ge j 256 with h | h
        · exact h
        · rw [List.getElem?_eq_none (by simpa using h)] at hp;cases hp
      rw [List.getElem?_range hj] at hp
      cases hp
      exact ⟨_,h.1 j hj,.int _ _⟩
    | 1,hg=>
      cases hg
      refine ⟨by omega,fun j p hp=>?_⟩
      simp only [List.getElem?_map] at hp
      have hj:j<32:=by
        rcases Nat.lt_or_ge j 32 with h | h
        · exact h
        · rw [List.getElem?_eq_none (by simpa using h)] at hp;cases hp
      rw [List.getElem?_range hj] at hp
      cases hp
      obtain ⟨h1,h2⟩:=h.2 (j / 2) (by omega)
      rcases Nat.mod_two_eq_zero_or_one j with e | e
      · show ∃u,_∧PVr _ _ (PV.int IntKind.u8 (if j % 2=0 then _ else _)) u
        rw [if_pos e]
        have:2*(j / 2)=j:=by omega
        rw [this] at h1
        exact ⟨_,h1,.int _ _⟩
      · show ∃u,_∧PVr _ _ (PV.int IntKind.u8 (if j % 2=0 then _ else _)) u
        rw [if_neg (by omega)]
        have:2*(j / 2)+1=j:=by omega
        rw [this] at h2
        exact ⟨_,h2,.int _ _⟩
  · have:k=0∨k=1:=by omega
    rcases this with rfl | rfl
    · exact hb (h.1 0 (by omega))
    · exact hb (h.2 0 (by omega)).1
theorem ZkV {f:FuncId} {args:List AT} {vs:List Value} {W:World} {I:Nat→Prop} (h:Sim Tryz.prog GL0 f args [] (one (.bool true)) []) (hs:Sr GL0 W I (fun _=>none) []) (ha:As W I (fun _=>none) (Go.AL.shape []) args vs) :
    Calls Tryz.prog f ⟨vs⟩ W fun e w'=>e = .returned (.bool true)∧Below W.heap.size W w':=by
  refine Calls.imp (h W I (fun _=>none) vs hs ha) ?_
  rintro e w' ⟨v,I',G',rfl,h1,h2,h3,h4⟩
  have hb:v = .bool true:=by
    obtain ⟨c,e,hr⟩:=h3;cases e;cases hr;rfl
  subst hb
  exact ⟨rfl,h1.os,h1.tape,h1.output,h1.size,fun k hk=>h1.keep k hk fun ⟨id,o,q,_⟩=>by cases q⟩
end Go.Proofs.YthilboheomikjaaGreatDoor
end
section
namespace Go.AL
variable {P:Program} {GL:List (Nat×List PV)} {C:Spec} {st:S} {N:Nat} {F:Exit→S→Prop}
theorem zl:type_of% (And.intro @List.length_map.{0,0} <| And.intro @List.length_append.{0} <| And.intro @List.length_cons.{0} <| And.intro @List.length_nil.{0} <| And.intro @List.length_set.{0} <| And.intro @List.length_replicate.{0} <| And.intro @List.length_take.{0} @List.length_drop.{0}):=And.intro @List.length_map.{0,0} <| And.intro @List.length_append.{0} <| And.intro @List.length_cons.{0} <| And.intro @List.length_nil.{0} <| And.intro @List.length_set.{0} <| And.intro @List.length_replicate.{0} <| And.intro @List.length_take.{0} @List.length_drop.{0}
theorem zr:type_of% (And.intro @Zlk <| And.intro @ZiD <| And.intro @Zhj <| And.intro @Zg4 <| And.intro @ZiP @Zlp):=And.intro @Zlk <| And.intro @ZiD <| And.intro @Zhj <| And.intro @Zg4 <| And.intro @ZiP @Zlp
theorem zq:type_of% (And.intro @List.map_append.{0,0} <| And.intro @List.map_cons.{0,0} <| And.intro @List.map_nil.{0,0} <| And.intro @List.map_take.{0,0} <| And.intro @List.map_drop.{0,0} <| And.intro @List.map_set.{0,0} <| And.intro @List.map_replicate.{0,0} @List.length_map.{0,0}):=And.intro @List.map_append.{0,0} <| And.intro @List.map_cons.{0,0} <| And.intro @List.map_nil.{0,0} <| And.intro @List.map_take.{0,0} <| And.intro @List.map_drop.{0,0} <| And.intro @List.map_set.{0,0} <| And.intro @List.map_replicate.{0,0} @List.length_map.{0,0}
theorem WA.rm {α:Type} {raw can:α} (T:α→List (Nat×AT)×Objs×List Prop) (hm:raw=can) {id:Nat} {l:List Oper} (ts ids:List Nat) (hs_:List (Nat×Hint))
    (he:(Z3 P GL C N l hs_ 0 l st).map (fun p=>(Zl p.1.env ts,Zl p.1.os ids,p.2))=some (T raw)) (hC:ZaU P GL C) (hO:All (T can).2.2) (h:F .normal ⟨(T can).1,(T can).2.1⟩) :
    WA P GL N (.region id l.toArray false) st F:=WA.regM T hm ts ids hs_ he rfl hC hO h
theorem WA.rdm {α:Type} {raw can:α} (T:α→List (Nat×AT)×Objs×List Prop) (hm:raw=can) {id:Nat} {l:List Oper} (ts ids:List Nat) (hs_:List (Nat×Hint))
    (hmx:P.follows .mixedOrders=true) (hd:ZeK GL l hs_ (Zbc P GL C N l hs_ 0 l st) st=true)
    (he:(Z3 P GL C N l hs_ 0 l st).map (fun p=>(Zl p.1.env ts,Zl p.1.os ids,p.2))=some (T raw)) (hC:ZaU P GL C) (hO:All (T can).2.2) (h:F .normal ⟨(T can).1,(T can).2.1⟩) :
    WA P GL N (.region id l.toArray true) st F:=WA.regDM T hm ts ids hs_ hmx hd he rfl hC hO h
theorem kr {p:Prop} (h:p:=by kernel_rfl):p:=h
end Go.AL
end
section
namespace Go.Proofs.YthilboheomikjaaGreatDoor
open Go.AL
set_option maxRecDepth 100000
structure Zb where
  f_Lo:Int
  f_Hi:Int
def Za (x:Zb):List PV:=[.int .i64 x.f_Lo,.int .i64 x.f_Hi]
theorem ZN (l:List Zb):∀es,es∈l.map Za→es.length=2:=fun es h=>by obtain ⟨y,_,rfl⟩:=List.mem_map.1 h;rfl
structure Ze where
  f_Kind:Int
  f_Set:List Zb
  f_L:List Ze
  f_Min:Int
  f_Max:Int
mutual
def ZdW:Ze→List PV
  | ⟨x0,x1,x2,x3,x4⟩=>[.int .i64 x0,.sl (x1.map Za),.sl (Zm x2),.int .i64 x3,.int .i64 x4]
def Zm:List Ze→List (List PV)
  | []=>[]
  | x :: l=>ZdW x :: Zm l
end
def Zd (x:Ze):List PV:=[.int .i64 x.f_Kind,.sl (x.f_Set.map Za),.sl (Zm x.f_L),.int .i64 x.f_Min,.int .i64 x.f_Max]
theorem Zad (x:Ze):ZdW x=Zd x:=by cases x;simp [ZdW,Zd]
theorem Z9 (l:List Ze):Zm l=l.map Zd:=by induction l with | nil=>rfl | cons x l ih=>simp [Zm,ih,Zad]
theorem ZR {l:List Ze} {i:Int} {x:Ze} (h:idxL l i=some x):idxL (Zm l) i=some (Zd x):=by rw [Z9];exact Zs _ h
theorem Zh (l:List Ze):(Zm l).length=l.length:=by rw [Z9,List.length_map]
theorem ZhQ (a b:List Ze):Zm a ++ Zm b=Zm (a ++ b):=by simp only [Z9,Zad];exact ZiD ..
theorem ZgX (l:List Ze) (n:Nat):(Zm l).take n=Zm (l.take n):=by simp only [Z9,Zad];exact Zhj ..
theorem ZgN (l:List Ze) (n:Nat):(Zm l).drop n=Zm (l.drop n):=by simp only [Z9,Zad];exact Zg4 ..
theorem Zim (l:List Ze) (i:Nat) (x:Ze):(Zm l).set i (ZdW x)=Zm (l.set i x):=by simp only [Z9,Zad];exact ZiP ..
theorem Zd5:type_of% (And.intro @Zh <| And.intro @ZhQ <| And.intro @ZgX <| And.intro @ZgN <| And.intro @Zim @Zad):=And.intro @Zh <| And.intro @ZhQ <| And.intro @ZgX <| And.intro @ZgN <| And.intro @Zim @Zad
theorem Zby:type_of% (And.intro @Z9 @Zad):=And.intro @Z9 @Zad
theorem zt {p:Prop} (h:p:=by first | omega | (simp only [zl,Zh];done) | (simp only [zl,Zh];omega) | (simp only [zl,Zh] at *;omega)):p:=h
theorem zm {p:Prop} (h:p:=by first | (simp only [zr,Zd5,Zm];done) | (simp only [zq,Zby];done)):p:=h
theorem Zci (l:List Ze):∀es,es∈Zm l→es.length=5:=fun es h=>by rw [Z9] at h;obtain ⟨y,_,rfl⟩:=List.mem_map.1 h;rfl
def ZeB (v104:Bool):Option Bool:=
  some v104
def F67 (k:Nat) (v0:Int):Option Bool:=
  (cond (decide (v0≥0)) (cond (decide (v0≤1114111)) (cond (decide (v0<55296)) ((ZeB true)) ((ZeB (decide (v0 > 57343))))) ((ZeB false))) ((ZeB false)))
theorem ZoL (k:Nat) (v0:Int) (r:Bool) (hF:F67 k v0=some r):Sim Tryz.prog GL0 67 [one (.int .i64 v0)] [] (one (.bool r)) []:=by
 refine ZB [] Tryz.func67 rfl kr kr ?_
 show WA _ _ 17 _ _ _
 refine WA.seq ?_
 refine WA.reg [0] [] [] (env':=[(0,one (.int .i64 v0))]) (os':=[]) (O:=[]) kr (sound _ _) trivial ?_
 refine WA.join (fun s_=>∃(v104:Bool),Zl s_.env [2]=[(2,one (.bool v104))]∧Zl s_.os []=[]∧ZeB v104=some r) ?_ ?_
 {
 rintro s_ ⟨v104,he,ho,hF⟩
 refine WA.keep _ _ he ho ?_
 clear he ho
 refine WA.ret ?_
 obtain rfl:=Option.some.inj hF
 exact Zp (one (.bool v104)) [] kr kr kr kr (by decide) rfl rfl }
 {
 rcases Bool.eq_false_or_eq_true (decide (v0≥0)) with hb101 | hb101
 {
 have hF:=Zk hF hb101
 rcases Bool.eq_false_or_eq_true (decide (v0≤1114111)) with hb102 | hb102
 {
 have hF:=Zk hF hb102
 rcases Bool.eq_false_or_eq_true (decide (v0<55296)) with hb103 | hb103
 {
 have hF:=Zk hF hb103
 refine WA.reg [2] [] [(2,.bool true),(6,.bool true),(9,.bool true)] (env':=[(2,one (.bool true))]) (os':=[]) (O:=[(decide (v0≥0))=true,(decide (v0≤1114111))=true,(decide (v0<55296))=true]) kr (sound _ _) ⟨hb101,hb102,hb103,trivial⟩ ?_
 exact ⟨true,kr,kr,hF⟩ }
 {
 have hF:=Zj hF hb103
 refine WA.reg [2] [] [(2,.bool true),(6,.bool true),(9,.bool false)] (env':=[(2,one (.bool (decide (v0 > 57343))))]) (os':=[]) (O:=[(decide (v0≥0))=true,(decide (v0≤1114111))=true,(decide (v0<55296))=false]) kr (sound _ _) ⟨hb101,hb102,hb103,trivial⟩ ?_
 exact ⟨(decide (v0 > 57343)),kr,kr,hF⟩ } }
 {
 have hF:=Zj hF hb102
 refine WA.reg [2] [] [(2,.bool true),(6,.bool false)] (env':=[(2,one (.bool false))]) (os':=[]) (O:=[(decide (v0≥0))=true,(decide (v0≤1114111))=false]) kr (sound _ _) ⟨hb101,hb102,trivial⟩ ?_
 exact ⟨false,kr,kr,hF⟩ } }
 {
 have hF:=Zj hF hb101
 refine WA.reg [2] [] [(2,.bool false)] (env':=[(2,one (.bool false))]) (os':=[]) (O:=[(decide (v0≥0))=false]) kr (sound _ _) ⟨hb101,trivial⟩ ?_
 exact ⟨false,kr,kr,hF⟩ } }
def Zhx (v116:Int) (v129:Int) (v137:Bool):Option (Int×Int):=
  cond v137 ((some ((-1),1))) (((some (v129,v116))))
def Zex (k:Nat) (self5:Int→Int→Option (Int×Int)) (v0:List UInt8) (v1:Int) (v116:Int) (v117:Int) (v129:Int) (v130:Int):Option (Int×Int):=
  (cond (decide (v130<v116)) ((idxL v0 (w64 (v1+v130))).bind fun y132=>(cond ((Zx .and .u8 (y132.toNat:Int) 192) != 128) ((some ((-1),1))) ((idxL v0 (w64 (v1+v130))).bind fun y134=>(self5 (w64 ((w64 (v129*64))+(w64 (Zx .and .u8 (y134.toNat:Int) 63)))) (w64 (v130+1)))))) ((cond (decide (v129<v117)) ((Zhx v116 v129 true)) ((F67 k v129).bind fun y136=>(Zhx v116 v129 (!y136))))))
def ZcI (k:Nat) (v0:List UInt8) (v1:Int) (v116:Int) (v117:Int):Nat→Int→Int→Option (Int×Int)
  | 0,_,_=>none
  | m_+1,v129,v130=>Zex k (ZcI k v0 v1 v116 v117 m_) v0 v1 v116 v117 v129 v130
def Zbs (k:Nat) (v0:List UInt8) (v1:Int) (v115:Int) (v116:Int) (v117:Int):Option (Int×Int):=
  (cond (decide ((w64 (v1+v116)) > (v0.length:Int))) ((some ((-1),1))) (((ZcI k v0 v1 v116 v117 k v115 1))))
def Zhw (k:Nat) (v0:List UInt8) (v1:Int) (y104:UInt8) (v113:Bool):Option (Int×Int):=
  cond v113 ((Zbs k v0 v1 (Zx .and .i64 (w64 (y104.toNat:Int)) 7) 4 65536)) ((some ((-1),1)))
def Zhv (k:Nat) (v0:List UInt8) (v1:Int) (y104:UInt8) (v110:Bool):Option (Int×Int):=
  cond v110 ((Zbs k v0 v1 (Zx .and .i64 (w64 (y104.toNat:Int)) 15) 3 2048)) (cond (decide ((w64 (y104.toNat:Int))≥240)) ((Zhw k v0 v1 y104 (decide ((w64 (y104.toNat:Int))<248)))) ((Zhw k v0 v1 y104 false)))
def Zhu (k:Nat) (v0:List UInt8) (v1:Int) (y104:UInt8) (v107:Bool):Option (Int×Int):=
  cond v107 ((Zbs k v0 v1 (Zx .and .i64 (w64 (y104.toNat:Int)) 31) 2 128)) (cond (decide ((w64 (y104.toNat:Int))≥224)) ((Zhv k v0 v1 y104 (decide ((w64 (y104.toNat:Int))<240)))) ((Zhv k v0 v1 y104 false)))
def Zfw (k:Nat) (v0:List UInt8) (v1:Int) (v102:Bool):Option (Int×Int):=
  cond v102 ((some (0,0))) ((idxL v0 v1).bind fun y104=>(((cond (decide ((w64 (y104.toNat:Int))<128)) ((some ((w64 (y104.toNat:Int)),1))) (cond (decide ((w64 (y104.toNat:Int))≥192)) ((Zhu k v0 v1 y104 (decide ((w64 (y104.toNat:Int))<224)))) ((Zhu k v0 v1 y104 false)))))))
def F46 (k:Nat) (v0:List UInt8) (v1:Int):Option (Int×Int):=
  (cond (decide (v1<0)) ((Zfw k v0 v1 true)) ((Zfw k v0 v1 (decide (v1≥(v0.length:Int))))))
theorem Zl2 (k:Nat) (v0:List UInt8) (v1:Int) (r:Int×Int) (hF:F46 k v0 v1=some r):Sim Tryz.prog GL0 46 [one (.str v0),one (.int .i64 v1)] [] (.tup [(false,[.pv (.int .i64 r.1)]),(false,[.pv (.int .i64 r.2)])]) []:=by
 refine ZB [] Tryz.func46 rfl kr kr ?_
 show WA _ _ 91 _ _ _
 refine WA.seq ?_
 refine WA.reg [0,1] [] [] (env':=[(0,one (.str v0)),(1,one (.int .i64 v1))]) (os':=[]) (O:=[]) kr (sound _ _) trivial ?_
 refine WA.seq ?_
 refine WA.join (fun s_=>∃(v102:Bool),Zl s_.env [0,1,17]=[(0,one (.str v0)),(1,one (.int .i64 v1)),(17,one (.bool v102))]∧Zl s_.os []=[]∧Zfw k v0 v1 v102=some r) ?_ ?_
 {
 rintro s_ ⟨v102,he,ho,hF⟩
 refine WA.keep _ _ he ho ?_
 clear he ho
 refine WA.cond (b:=v102) rfl (fun hb103=>?_) (fun hb103=>?_)
 {
 have hF:=Zk hF hb103
 refine WA.seq ?_
 refine WA.reg [4,5] [] [] (env':=[(4,one (.int .i64 0)),(5,one (.int .i64 0))]) (os':=[]) (O:=[]) kr (sound _ _) trivial ?_
 refine WA.ret ?_
 obtain rfl:=Option.some.inj hF
 exact Zp (.tup [(false,[.pv (.int .i64 0)]),(false,[.pv (.int .i64 0)])]) [] kr kr kr kr (by decide) rfl rfl }
 {
 have hF:=Zj hF hb103
 refine WA.skip ?_
 refine WA.seq ?_
 obtain ⟨y104,hy104,hF⟩:=bind_some hF
 refine WA.reg [0,1,6] [] [(2,.num (y104.toNat:Int))] (env':=[(0,one (.str v0)),(1,one (.int .i64 v1)),(6,one (.int .i64 (w64 (y104.toNat:Int))))]) (os':=[]) (O:=[(idxL v0 v1).map (fun b=>(b.toNat:Int))=some (y104.toNat:Int)]) kr (sound _ _) ⟨(by rw [hy104];rfl),trivial⟩ ?_
 refine WA.seq ?_
 refine WA.reg [0,1,6] [] [] (env':=[(0,one (.str v0)),(1,one (.int .i64 v1)),(6,one (.int .i64 (w64 (y104.toNat:Int))))]) (os':=[]) (O:=[]) kr (sound _ _) trivial ?_
 refine WA.join (fun s_=>∃(v115:Int) (v116:Int) (v117:Int),Zl s_.env [0,1,6,7,8]=[(0,one (.str v0)),(1,one (.int .i64 v1)),(6,one (.int .i64 v115)),(7,one (.int .i64 v116)),(8,one (.int .i64 v117))]∧Zl s_.os []=[]∧Zbs k v0 v1 v115 v116 v117=some r) ?_ ?_
 {
 rintro s_ ⟨v115,v116,v117,he,ho,hF⟩
 refine WA.keep _ _ he ho ?_
 clear he ho
 refine WA.seq ?_
 refine WA.seq ?_
 refine WA.reg [0,1,6,7,8,58] [] [] (env':=[(0,one (.str v0)),(1,one (.int .i64 v1)),(6,one (.int .i64 v115)),(7,one (.int .i64 v116)),(8,one (.int .i64 v117)),(58,one (.bool (decide ((w64 (v1+v116)) > (v0.length:Int)))))]) (os':=[]) (O:=[]) kr (sound _ _) trivial ?_
 refine WA.cond (b:=(decide ((w64 (v1+v116)) > (v0.length:Int)))) rfl (fun hb118=>?_) (fun hb118=>?_)
 {
 have hF:=Zk hF hb118
 refine WA.seq ?_
 refine WA.reg [4,5] [] [] (env':=[(4,one (.int .i64 (-1))),(5,one (.int .i64 1))]) (os':=[]) (O:=[]) kr (sound _ _) trivial ?_
 refine WA.ret ?_
 obtain rfl:=Option.some.inj hF
 exact Zp (.tup [(false,[.pv (.int .i64 (-1))]),(false,[.pv (.int .i64 1)])]) [] kr kr kr kr (by decide) rfl rfl }
 {
 have hF:=Zj hF hb118
 refine WA.skip ?_
 refine WA.seq ?_
 refine WA.seq ?_
 refine WA.reg [0,1,6,7,8,9] [] [] (env':=[(0,one (.str v0)),(1,one (.int .i64 v1)),(6,one (.int .i64 v115)),(7,one (.int .i64 v116)),(8,one (.int .i64 v117)),(9,one (.int .i64 1))]) (os':=[]) (O:=[]) kr (sound _ _) trivial ?_
 refine WA.block ?_
 refine WA.loop (fun m s_=>∃(v129:Int) (v130:Int),Zl s_.env [0,1,6,7,8,9]=[(0,one (.str v0)),(1,one (.int .i64 v1)),(6,one (.int .i64 v129)),(7,one (.int .i64 v116)),(8,one (.int .i64 v117)),(9,one (.int .i64 v130))]∧Zl s_.os []=[]∧ZcI k v0 v1 v116 v117 m v129 v130=some r) k ⟨v115,1,kr,kr,hF⟩ ?_
 clear hF
 rintro m5 s_ ⟨v129,v130,he,ho,hF⟩
 refine WA.keep _ _ he ho ?_
 clear he ho
 cases m5 with
 | zero=>cases hF
 | succ m5=>
  obtain ⟨self5,hself5⟩:∃g,g=ZcI k v0 v1 v116 v117 m5:=⟨_,rfl⟩
  have hF:Zex k self5 v0 v1 v116 v117 v129 v130=some r:=by first | (rw [hself5];exact hF) | exact hF
  refine WA.seq ?_
  refine WA.seq ?_
  refine WA.reg [0,1,6,7,8,9,61] [] [] (env':=[(0,one (.str v0)),(1,one (.int .i64 v1)),(6,one (.int .i64 v129)),(7,one (.int .i64 v116)),(8,one (.int .i64 v117)),(9,one (.int .i64 v130)),(61,one (.bool (decide (v130<v116))))]) (os':=[]) (O:=[]) kr (sound _ _) trivial ?_
  refine WA.cond (b:=(decide (v130<v116))) rfl (fun hb131=>?_) (fun hb131=>?_)
  {
 have hF:=Zk hF hb131
 refine WA.skip ?_
 refine WA.seq ?_
 refine WA.block ?_
 refine WA.seq ?_
 refine WA.seq ?_
 obtain ⟨y132,hy132,hF⟩:=bind_some hF
 refine WA.reg [0,1,6,7,8,9,70] [] [(4,.num (y132.toNat:Int))] (env':=[(0,one (.str v0)),(1,one (.int .i64 v1)),(6,one (.int .i64 v129)),(7,one (.int .i64 v116)),(8,one (.int .i64 v117)),(9,one (.int .i64 v130)),(70,one (.bool ((Zx .and .u8 (y132.toNat:Int) 192) != 128)))]) (os':=[]) (O:=[(idxL v0 (w64 (v1+v130))).map (fun b=>(b.toNat:Int))=some (y132.toNat:Int)]) kr (sound _ _) ⟨(by rw [hy132];rfl),trivial⟩ ?_
 refine WA.cond (b:=((Zx .and .u8 (y132.toNat:Int) 192) != 128)) rfl (fun hb133=>?_) (fun hb133=>?_)
 {
 have hF:=Zk hF hb133
 refine WA.seq ?_
 refine WA.reg [4,5] [] [] (env':=[(4,one (.int .i64 (-1))),(5,one (.int .i64 1))]) (os':=[]) (O:=[]) kr (sound _ _) trivial ?_
 refine WA.ret ?_
 obtain rfl:=Option.some.inj hF
 exact Zp (.tup [(false,[.pv (.int .i64 (-1))]),(false,[.pv (.int .i64 1)])]) [] kr kr kr kr (by decide) rfl rfl }
 {
 have hF:=Zj hF hb133
 refine WA.skip ?_
 obtain ⟨y134,hy134,hF⟩:=bind_some hF
 refine WA.reg [0,1,6,7,8,9] [] [(6,.num (y134.toNat:Int))] (env':=[(0,one (.str v0)),(1,one (.int .i64 v1)),(6,one (.int .i64 (w64 ((w64 (v129*64))+(w64 (Zx .and .u8 (y134.toNat:Int) 63)))))),(7,one (.int .i64 v116)),(8,one (.int .i64 v117)),(9,one (.int .i64 v130))]) (os':=[]) (O:=[(idxL v0 (w64 (v1+v130))).map (fun b=>(b.toNat:Int))=some (y134.toNat:Int)]) kr (sound _ _) ⟨(by rw [hy134];rfl),trivial⟩ ?_
 refine WA.reg [0,1,6,7,8,9] [] [] (env':=[(0,one (.str v0)),(1,one (.int .i64 v1)),(6,one (.int .i64 (w64 ((w64 (v129*64))+(w64 (Zx .and .u8 (y134.toNat:Int) 63)))))),(7,one (.int .i64 v116)),(8,one (.int .i64 v117)),(9,one (.int .i64 (w64 (v130+1))))]) (os':=[]) (O:=[]) kr (sound _ _) trivial ?_
 exact ⟨m5,Nat.lt_succ_self _,(w64 ((w64 (v129*64))+(w64 (Zx .and .u8 (y134.toNat:Int) 63)))),(w64 (v130+1)),kr,kr,by rw [hself5] at hF;exact hF⟩ } }
  {
 have hF:=Zj hF hb131
 refine WA.exit ?_
 refine WA.seq ?_
 refine WA.join (fun s_=>∃(v137:Bool),Zl s_.env [6,7,88]=[(6,one (.int .i64 v129)),(7,one (.int .i64 v116)),(88,one (.bool v137))]∧Zl s_.os []=[]∧Zhx v116 v129 v137=some r) ?_ ?_
 {
 rintro s_ ⟨v137,he,ho,hF⟩
 refine WA.keep _ _ he ho ?_
 clear he ho
 refine WA.cond (b:=v137) rfl (fun hb138=>?_) (fun hb138=>?_)
 {
 have hF:=Zk hF hb138
 refine WA.seq ?_
 refine WA.reg [4,5] [] [] (env':=[(4,one (.int .i64 (-1))),(5,one (.int .i64 1))]) (os':=[]) (O:=[]) kr (sound _ _) trivial ?_
 refine WA.ret ?_
 obtain rfl:=Option.some.inj hF
 exact Zp (.tup [(false,[.pv (.int .i64 (-1))]),(false,[.pv (.int .i64 1)])]) [] kr kr kr kr (by decide) rfl rfl }
 {
 have hF:=Zj hF hb138
 refine WA.skip ?_
 refine WA.seq ?_
 refine WA.reg [4,5] [] [] (env':=[(4,one (.int .i64 v129)),(5,one (.int .i64 v116))]) (os':=[]) (O:=[]) kr (sound _ _) trivial ?_
 refine WA.ret ?_
 obtain rfl:=Option.some.inj hF
 exact Zp (.tup [(false,[.pv (.int .i64 v129)]),(false,[.pv (.int .i64 v116)])]) [] kr kr kr kr (by decide) rfl rfl } }
 {
 rcases Bool.eq_false_or_eq_true (decide (v129<v117)) with hb135 | hb135
 {
 have hF:=Zk hF hb135
 refine WA.reg [6,7,88] [] [(3,.bool true)] (env':=[(6,one (.int .i64 v129)),(7,one (.int .i64 v116)),(88,one (.bool true))]) (os':=[]) (O:=[(decide (v129<v117))=true]) kr (sound _ _) ⟨hb135,trivial⟩ ?_
 exact ⟨true,kr,kr,hF⟩ }
 {
 have hF:=Zj hF hb135
 obtain ⟨y136,hy136,hF⟩:=bind_some hF
 refine WA.reg [6,7,88] [] [(3,.bool false),(5,.callR [] (one (.bool y136)))] (env':=[(6,one (.int .i64 v129)),(7,one (.int .i64 v116)),(88,one (.bool (!y136)))]) (os':=[]) (O:=[(decide (v129<v117))=false,Sim Tryz.prog GL0 67 [one (.int .i64 v129)] [] (one (.bool y136)) [],([]:List Nat).Nodup]) kr (sound _ _) ⟨hb135,(ZoL k _ _ hy136),(by decide),trivial⟩ ?_
 exact ⟨(!y136),kr,kr,hF⟩ } } } } }
 {
 refine WA.block ?_
 refine WA.seq ?_
 refine WA.reg [0,1,6,22] [] [] (env':=[(0,one (.str v0)),(1,one (.int .i64 v1)),(6,one (.int .i64 (w64 (y104.toNat:Int)))),(22,one (.bool (decide ((w64 (y104.toNat:Int))<128))))]) (os':=[]) (O:=[]) kr (sound _ _) trivial ?_
 refine WA.cond (b:=(decide ((w64 (y104.toNat:Int))<128))) rfl (fun hb105=>?_) (fun hb105=>?_)
 {
 have hF:=Zk hF hb105
 refine WA.seq ?_
 refine WA.reg [4,5] [] [] (env':=[(4,one (.int .i64 (w64 (y104.toNat:Int)))),(5,one (.int .i64 1))]) (os':=[]) (O:=[]) kr (sound _ _) trivial ?_
 refine WA.ret ?_
 obtain rfl:=Option.some.inj hF
 exact Zp (.tup [(false,[.pv (.int .i64 (w64 (y104.toNat:Int)))]),(false,[.pv (.int .i64 1)])]) [] kr kr kr kr (by decide) rfl rfl }
 {
 have hF:=Zj hF hb105
 refine WA.join (fun s_=>∃(v107:Bool),Zl s_.env [0,1,6,26]=[(0,one (.str v0)),(1,one (.int .i64 v1)),(6,one (.int .i64 (w64 (y104.toNat:Int)))),(26,one (.bool v107))]∧Zl s_.os []=[]∧Zhu k v0 v1 y104 v107=some r) ?_ ?_
 {
 rintro s_ ⟨v107,he,ho,hF⟩
 refine WA.keep _ _ he ho ?_
 clear he ho
 refine WA.cond (b:=v107) rfl (fun hb108=>?_) (fun hb108=>?_)
 {
 have hF:=Zk hF hb108
 refine WA.reg [0,1,6,7,8] [] [] (env':=[(0,one (.str v0)),(1,one (.int .i64 v1)),(6,one (.int .i64 (Zx .and .i64 (w64 (y104.toNat:Int)) 31))),(7,one (.int .i64 2)),(8,one (.int .i64 128))]) (os':=[]) (O:=[]) kr (sound _ _) trivial ?_
 exact ⟨(Zx .and .i64 (w64 (y104.toNat:Int)) 31),2,128,kr,kr,hF⟩ }
 {
 have hF:=Zj hF hb108
 refine WA.join (fun s_=>∃(v110:Bool),Zl s_.env [0,1,6,35]=[(0,one (.str v0)),(1,one (.int .i64 v1)),(6,one (.int .i64 (w64 (y104.toNat:Int)))),(35,one (.bool v110))]∧Zl s_.os []=[]∧Zhv k v0 v1 y104 v110=some r) ?_ ?_
 {
 rintro s_ ⟨v110,he,ho,hF⟩
 refine WA.keep _ _ he ho ?_
 clear he ho
 refine WA.cond (b:=v110) rfl (fun hb111=>?_) (fun hb111=>?_)
 {
 have hF:=Zk hF hb111
 refine WA.reg [0,1,6,7,8] [] [] (env':=[(0,one (.str v0)),(1,one (.int .i64 v1)),(6,one (.int .i64 (Zx .and .i64 (w64 (y104.toNat:Int)) 15))),(7,one (.int .i64 3)),(8,one (.int .i64 2048))]) (os':=[]) (O:=[]) kr (sound _ _) trivial ?_
 exact ⟨(Zx .and .i64 (w64 (y104.toNat:Int)) 15),3,2048,kr,kr,hF⟩ }
 {
 have hF:=Zj hF hb111
 refine WA.join (fun s_=>∃(v113:Bool),Zl s_.env [0,1,6,44]=[(0,one (.str v0)),(1,one (.int .i64 v1)),(6,one (.int .i64 (w64 (y104.toNat:Int)))),(44,one (.bool v113))]∧Zl s_.os []=[]∧Zhw k v0 v1 y104 v113=some r) ?_ ?_
 {
 rintro s_ ⟨v113,he,ho,hF⟩
 refine WA.keep _ _ he ho ?_
 clear he ho
 refine WA.cond (b:=v113) rfl (fun hb114=>?_) (fun hb114=>?_)
 {
 have hF:=Zk hF hb114
 refine WA.reg [0,1,6,7,8] [] [] (env':=[(0,one (.str v0)),(1,one (.int .i64 v1)),(6,one (.int .i64 (Zx .and .i64 (w64 (y104.toNat:Int)) 7))),(7,one (.int .i64 4)),(8,one (.int .i64 65536))]) (os':=[]) (O:=[]) kr (sound _ _) trivial ?_
 exact ⟨(Zx .and .i64 (w64 (y104.toNat:Int)) 7),4,65536,kr,kr,hF⟩ }
 {
 have hF:=Zj hF hb114
 refine WA.seq ?_
 refine WA.reg [4,5] [] [] (env':=[(4,one (.int .i64 (-1))),(5,one (.int .i64 1))]) (os':=[]) (O:=[]) kr (sound _ _) trivial ?_
 refine WA.ret ?_
 obtain rfl:=Option.some.inj hF
 exact Zp (.tup [(false,[.pv (.int .i64 (-1))]),(false,[.pv (.int .i64 1)])]) [] kr kr kr kr (by decide) rfl rfl } }
 {
 rcases Bool.eq_false_or_eq_true (decide ((w64 (y104.toNat:Int))≥240)) with hb112 | hb112
 {
 have hF:=Zk hF hb112
 refine WA.reg [0,1,6,44] [] [(2,.bool true)] (env':=[(0,one (.str v0)),(1,one (.int .i64 v1)),(6,one (.int .i64 (w64 (y104.toNat:Int)))),(44,one (.bool (decide ((w64 (y104.toNat:Int))<248))))]) (os':=[]) (O:=[(decide ((w64 (y104.toNat:Int))≥240))=true]) kr (sound _ _) ⟨hb112,trivial⟩ ?_
 exact ⟨(decide ((w64 (y104.toNat:Int))<248)),kr,kr,hF⟩ }
 {
 have hF:=Zj hF hb112
 refine WA.reg [0,1,6,44] [] [(2,.bool false)] (env':=[(0,one (.str v0)),(1,one (.int .i64 v1)),(6,one (.int .i64 (w64 (y104.toNat:Int)))),(44,one (.bool false))]) (os':=[]) (O:=[(decide ((w64 (y104.toNat:Int))≥240))=false]) kr (sound _ _) ⟨hb112,trivial⟩ ?_
 exact ⟨false,kr,kr,hF⟩ } } } }
 {
 rcases Bool.eq_false_or_eq_true (decide ((w64 (y104.toNat:Int))≥224)) with hb109 | hb109
 {
 have hF:=Zk hF hb109
 refine WA.reg [0,1,6,35] [] [(2,.bool true)] (env':=[(0,one (.str v0)),(1,one (.int .i64 v1)),(6,one (.int .i64 (w64 (y104.toNat:Int)))),(35,one (.bool (decide ((w64 (y104.toNat:Int))<240))))]) (os':=[]) (O:=[(decide ((w64 (y104.toNat:Int))≥224))=true]) kr (sound _ _) ⟨hb109,trivial⟩ ?_
 exact ⟨(decide ((w64 (y104.toNat:Int))<240)),kr,kr,hF⟩ }
 {
 have hF:=Zj hF hb109
 refine WA.reg [0,1,6,35] [] [(2,.bool false)] (env':=[(0,one (.str v0)),(1,one (.int .i64 v1)),(6,one (.int .i64 (w64 (y104.toNat:Int)))),(35,one (.bool false))]) (os':=[]) (O:=[(decide ((w64 (y104.toNat:Int))≥224))=false]) kr (sound _ _) ⟨hb109,trivial⟩ ?_
 exact ⟨false,kr,kr,hF⟩ } } } }
 {
 rcases Bool.eq_false_or_eq_true (decide ((w64 (y104.toNat:Int))≥192)) with hb106 | hb106
 {
 have hF:=Zk hF hb106
 refine WA.reg [0,1,6,26] [] [(2,.bool true)] (env':=[(0,one (.str v0)),(1,one (.int .i64 v1)),(6,one (.int .i64 (w64 (y104.toNat:Int)))),(26,one (.bool (decide ((w64 (y104.toNat:Int))<224))))]) (os':=[]) (O:=[(decide ((w64 (y104.toNat:Int))≥192))=true]) kr (sound _ _) ⟨hb106,trivial⟩ ?_
 exact ⟨(decide ((w64 (y104.toNat:Int))<224)),kr,kr,hF⟩ }
 {
 have hF:=Zj hF hb106
 refine WA.reg [0,1,6,26] [] [(2,.bool false)] (env':=[(0,one (.str v0)),(1,one (.int .i64 v1)),(6,one (.int .i64 (w64 (y104.toNat:Int)))),(26,one (.bool false))]) (os':=[]) (O:=[(decide ((w64 (y104.toNat:Int))≥192))=false]) kr (sound _ _) ⟨hb106,trivial⟩ ?_
 exact ⟨false,kr,kr,hF⟩ } } } } } }
 {
 rcases Bool.eq_false_or_eq_true (decide (v1<0)) with hb101 | hb101
 {
 have hF:=Zk hF hb101
 refine WA.reg [0,1,17] [] [(2,.bool true)] (env':=[(0,one (.str v0)),(1,one (.int .i64 v1)),(17,one (.bool true))]) (os':=[]) (O:=[(decide (v1<0))=true]) kr (sound _ _) ⟨hb101,trivial⟩ ?_
 exact ⟨true,kr,kr,hF⟩ }
 {
 have hF:=Zj hF hb101
 refine WA.reg [0,1,17] [] [(2,.bool false)] (env':=[(0,one (.str v0)),(1,one (.int .i64 v1)),(17,one (.bool (decide (v1≥(v0.length:Int)))))]) (os':=[]) (O:=[(decide (v1<0))=false]) kr (sound _ _) ⟨hb101,trivial⟩ ?_
 exact ⟨(decide (v1≥(v0.length:Int))),kr,kr,hF⟩ } }
def Zhm (k:Nat) (self0:Int→Option Bool) (v0:List UInt8) (v108:Int):Option Bool:=
  (cond (decide (v108<(v0.length:Int))) ((F46 k v0 v108).bind fun y110=>((cond (decide (y110.1<0)) ((some false)) ((self0 (w64 (v108+y110.2))))))) (((some true))))
def Zfu (k:Nat) (v0:List UInt8):Nat→Int→Option Bool
  | 0,_=>none
  | m_+1,v108=>Zhm k (Zfu k v0 m_) v0 v108
def F25 (k:Nat) (v0:List UInt8):Option Bool:=
  ((Zfu k v0 k 0))
theorem ZoE (k:Nat) (v0:List UInt8) (r:Bool) (hF:F25 k v0=some r):Sim Tryz.prog GL0 25 [one (.str v0)] [] (one (.bool r)) []:=by
 refine ZB [] Tryz.func25 rfl kr kr ?_
 show WA _ _ 21 _ _ _
 refine WA.seq ?_
 refine WA.reg [0] [] [] (env':=[(0,one (.str v0))]) (os':=[]) (O:=[]) kr (sound _ _) trivial ?_
 refine WA.seq ?_
 refine WA.seq ?_
 refine WA.reg [0,3] [] [] (env':=[(0,one (.str v0)),(3,one (.int .i64 0))]) (os':=[]) (O:=[]) kr (sound _ _) trivial ?_
 refine WA.block ?_
 refine WA.loop (fun m s_=>∃(v108:Int),Zl s_.env [0,3]=[(0,one (.str v0)),(3,one (.int .i64 v108))]∧Zl s_.os []=[]∧Zfu k v0 m v108=some r) k ⟨0,kr,kr,hF⟩ ?_
 clear hF
 rintro m0 s_ ⟨v108,he,ho,hF⟩
 refine WA.keep _ _ he ho ?_
 clear he ho
 cases m0 with
 | zero=>cases hF
 | succ m0=>
  obtain ⟨self0,hself0⟩:∃g,g=Zfu k v0 m0:=⟨_,rfl⟩
  have hF:Zhm k self0 v0 v108=some r:=by first | (rw [hself0];exact hF) | exact hF
  refine WA.seq ?_
  refine WA.seq ?_
  refine WA.reg [0,3,9] [] [] (env':=[(0,one (.str v0)),(3,one (.int .i64 v108)),(9,one (.bool (decide (v108<(v0.length:Int)))))]) (os':=[]) (O:=[]) kr (sound _ _) trivial ?_
  refine WA.cond (b:=(decide (v108<(v0.length:Int)))) rfl (fun hb109=>?_) (fun hb109=>?_)
  {
 have hF:=Zk hF hb109
 refine WA.skip ?_
 refine WA.block ?_
 refine WA.seq ?_
 obtain ⟨y110,hy110,hF⟩:=bind_some hF
 refine WA.reg [0,3,4,5] [] [(2,.callR [] (.tup [(false,[.pv (.int .i64 y110.1)]),(false,[.pv (.int .i64 y110.2)])]))] (env':=[(0,one (.str v0)),(3,one (.int .i64 v108)),(4,one (.int .i64 y110.1)),(5,one (.int .i64 y110.2))]) (os':=[]) (O:=[Sim Tryz.prog GL0 46 [one (.str v0),one (.int .i64 v108)] [] (.tup [(false,[.pv (.int .i64 y110.1)]),(false,[.pv (.int .i64 y110.2)])]) [],([]:List Nat).Nodup]) kr (sound _ _) ⟨(Zl2 k _ _ _ hy110),(by decide),trivial⟩ ?_
 refine WA.seq ?_
 refine WA.seq ?_
 refine WA.reg [0,3,5,17] [] [] (env':=[(0,one (.str v0)),(3,one (.int .i64 v108)),(5,one (.int .i64 y110.2)),(17,one (.bool (decide (y110.1<0))))]) (os':=[]) (O:=[]) kr (sound _ _) trivial ?_
 refine WA.cond (b:=(decide (y110.1<0))) rfl (fun hb111=>?_) (fun hb111=>?_)
 {
 have hF:=Zk hF hb111
 refine WA.seq ?_
 refine WA.reg [2] [] [] (env':=[(2,one (.bool false))]) (os':=[]) (O:=[]) kr (sound _ _) trivial ?_
 refine WA.ret ?_
 obtain rfl:=Option.some.inj hF
 exact Zp (one (.bool false)) [] kr kr kr kr (by decide) rfl rfl }
 {
 have hF:=Zj hF hb111
 refine WA.skip ?_
 refine WA.reg [0,3] [] [] (env':=[(0,one (.str v0)),(3,one (.int .i64 (w64 (v108+y110.2))))]) (os':=[]) (O:=[]) kr (sound _ _) trivial ?_
 exact ⟨m0,Nat.lt_succ_self _,(w64 (v108+y110.2)),kr,kr,by rw [hself0] at hF;exact hF⟩ } }
  {
 have hF:=Zj hF hb109
 refine WA.exit ?_
 refine WA.seq ?_
 refine WA.reg [2] [] [] (env':=[(2,one (.bool true))]) (os':=[]) (O:=[]) kr (sound _ _) trivial ?_
 refine WA.ret ?_
 obtain rfl:=Option.some.inj hF
 exact Zp (one (.bool true)) [] kr kr kr kr (by decide) rfl rfl }
def Zez (R50:Ze→Option Int) (self0:Int→Int→Option Int) (v0:Ze) (v109:Int) (v110:Int):Option Int:=
  (cond (decide (v110<(v0.f_L.length:Int))) ((idxL v0.f_L v110).bind fun y112=>(R50 y112).bind fun y113=>(self0 (mx v109 y113) (w64 (v110+1)))) (((some (w64 (v109+1))))))
def ZcJ (R50:Ze→Option Int) (v0:Ze):Nat→Int→Int→Option Int
  | 0,_,_=>none
  | m_+1,v109,v110=>Zez R50 (ZcJ R50 v0 m_) v0 v109 v110
def ZnA (R50:Ze→Option Int) (k:Nat) (v0:Ze):Option Int:=
  (((ZcJ R50 v0 k 0 0)))
theorem Zm0 (R50:Ze→Option Int) (IH50:∀(v0:Ze) (r:Int),R50 v0=some r→Sim Tryz.prog GL0 50 [.val true (pvL (Zd v0))] [] (one (.int .i64 r)) []) (k:Nat) (v0:Ze) (r:Int) (hF:ZnA R50 k v0=some r):Sim Tryz.prog GL0 50 [.val true (pvL (Zd v0))] [] (one (.int .i64 r)) []:=by
 refine ZB [] Tryz.func50 rfl kr kr ?_
 show WA _ _ 20 _ _ _
 refine WA.seq ?_
 refine WA.reg [1] [101] [(0,.obj 101)] (env':=[(1,.val false [.ptr 101 1 0 0])]) (os':=[(101,.box (pvL (Zd v0)))]) (O:=[]) kr (sound _ _) trivial ?_
 refine WA.seq ?_
 refine WA.reg [1,3] [101] [] (env':=[(1,.val false [.ptr 101 1 0 0]),(3,one (.int .i64 0))]) (os':=[(101,.box (pvL (Zd v0)))]) (O:=[]) kr (sound _ _) trivial ?_
 refine WA.seq ?_
 refine WA.seq ?_
 refine WA.rm (α:=Int) (raw:=((Zm v0.f_L).length:Int)) (can:=(v0.f_L.length:Int)) (fun m_=>([(3,one (.int .i64 0)),(7,one (.sl (Zm v0.f_L))),(8,one (.int .i64 m_)),(9,one (.int .i64 0))],[],[])) ((by first | (simp only [zl,Zh];done) | (simp only [zl,Zh];omega) | omega)) [3,7,8,9] [] [] kr (sound _ _) trivial ?_
 refine WA.block ?_
 refine WA.loop (fun m s_=>∃(v109:Int) (v110:Int),Zl s_.env [3,7,8,9]=[(3,one (.int .i64 v109)),(7,one (.sl (Zm v0.f_L))),(8,one (.int .i64 (v0.f_L.length:Int))),(9,one (.int .i64 v110))]∧Zl s_.os []=[]∧ZcJ R50 v0 m v109 v110=some r) k ⟨0,0,kr,kr,hF⟩ ?_
 clear hF
 rintro m0 s_ ⟨v109,v110,he,ho,hF⟩
 refine WA.keep _ _ he ho ?_
 clear he ho
 cases m0 with
 | zero=>cases hF
 | succ m0=>
  obtain ⟨self0,hself0⟩:∃g,g=ZcJ R50 v0 m0:=⟨_,rfl⟩
  have hF:Zez R50 self0 v0 v109 v110=some r:=by first | (rw [hself0];exact hF) | exact hF
  refine WA.seq ?_
  refine WA.reg [3,7,8,9,10] [] [] (env':=[(3,one (.int .i64 v109)),(7,one (.sl (Zm v0.f_L))),(8,one (.int .i64 (v0.f_L.length:Int))),(9,one (.int .i64 v110)),(10,one (.bool (decide (v110<(v0.f_L.length:Int)))))]) (os':=[]) (O:=[]) kr (sound _ _) trivial ?_
  refine WA.seq ?_
  refine WA.cond (b:=(decide (v110<(v0.f_L.length:Int)))) rfl (fun hb111=>?_) (fun hb111=>?_)
  {
 have hF:=Zk hF hb111
 refine WA.skip ?_
 refine WA.seq ?_
 refine WA.block ?_
 refine WA.seq ?_
 obtain ⟨y112,hy112,hF⟩:=bind_some hF
 refine WA.reg [3,5,7,8,9] [105] [(0,.cells (Zd y112)),(2,.obj 105)] (env':=[(3,one (.int .i64 v109)),(5,.val false [.ptr 105 1 0 0]),(7,one (.sl (Zm v0.f_L))),(8,one (.int .i64 (v0.f_L.length:Int))),(9,one (.int .i64 v110))]) (os':=[(105,.box (pvL (Zd y112)))]) (O:=[idxL (Zm v0.f_L) v110=some (Zd y112)]) kr (sound _ _) ⟨(ZR hy112),trivial⟩ ?_
 obtain ⟨y113,hy113,hF⟩:=bind_some hF
 refine WA.reg [3,7,8,9] [] [(2,.callR [] (one (.int .i64 y113)))] (env':=[(3,one (.int .i64 (mx v109 y113))),(7,one (.sl (Zm v0.f_L))),(8,one (.int .i64 (v0.f_L.length:Int))),(9,one (.int .i64 v110))]) (os':=[]) (O:=[Sim Tryz.prog GL0 50 [.val true (pvL (Zd y112))] [] (one (.int .i64 y113)) [],([]:List Nat).Nodup]) kr (sound _ _) ⟨(IH50 _ _ hy113),(by decide),trivial⟩ ?_
 refine WA.reg [3,7,8,9] [] [] (env':=[(3,one (.int .i64 (mx v109 y113))),(7,one (.sl (Zm v0.f_L))),(8,one (.int .i64 (v0.f_L.length:Int))),(9,one (.int .i64 (w64 (v110+1))))]) (os':=[]) (O:=[]) kr (sound _ _) trivial ?_
 exact ⟨m0,Nat.lt_succ_self _,(mx v109 y113),(w64 (v110+1)),kr,kr,by rw [hself0] at hF;exact hF⟩ }
  {
 have hF:=Zj hF hb111
 refine WA.exit ?_
 refine WA.seq ?_
 refine WA.reg [2] [] [] (env':=[(2,one (.int .i64 (w64 (v109+1))))]) (os':=[]) (O:=[]) kr (sound _ _) trivial ?_
 refine WA.ret ?_
 obtain rfl:=Option.some.inj hF
 exact Zp (one (.int .i64 (w64 (v109+1)))) [] kr kr kr kr (by decide) rfl rfl }
def F50:Nat→Ze→Option Int
  | 0,_=>none
  | k+1,v0=>ZnA (F50 k) k v0
theorem Zl3:∀(k:Nat),∀(v0:Ze) (r:Int),F50 k v0=some r→Sim Tryz.prog GL0 50 [.val true (pvL (Zd v0))] [] (one (.int .i64 r)) []
  | 0=>fun _ _ hF=>by cases hF
  | k+1=>fun v0 r hF=>Zm0 (F50 k) (Zl3 k) k v0 r hF
def Zev (R42:Ze→Int→Option Int) (self0:Int→Int→Option Int) (v0:Ze) (v1:Int) (v110:Int) (v111:Int):Option Int:=
  (cond (decide (v111<(v0.f_L.length:Int))) ((idxL v0.f_L v111).bind fun y113=>(R42 y113 (w64 (v1+1))).bind fun y114=>(self0 (mx v110 y114) (w64 (v111+1)))) (((some v110))))
def Zew (R42:Ze→Int→Option Int) (v0:Ze) (v1:Int):Nat→Int→Int→Option Int
  | 0,_,_=>none
  | m_+1,v110,v111=>Zev R42 (Zew R42 v0 v1 m_) v0 v1 v110 v111
def ZjB (R42:Ze→Int→Option Int) (k:Nat) (v0:Ze) (v1:Int):Option Int:=
  ((cond (decide (v1 > 16)) ((some v1)) ((((Zew R42 v0 v1 k v1 0))))))
theorem ZmY (R42:Ze→Int→Option Int) (IH42:∀(v0:Ze) (v1:Int) (r:Int),R42 v0 v1=some r→Sim Tryz.prog GL0 42 [.val true (pvL (Zd v0)),one (.int .i64 v1)] [] (one (.int .i64 r)) []) (k:Nat) (v0:Ze) (v1:Int) (r:Int) (hF:ZjB R42 k v0 v1=some r):Sim Tryz.prog GL0 42 [.val true (pvL (Zd v0)),one (.int .i64 v1)] [] (one (.int .i64 r)) []:=by
 refine ZB [] Tryz.func42 rfl kr kr ?_
 show WA _ _ 29 _ _ _
 refine WA.seq ?_
 refine WA.reg [1,2] [102] [(0,.obj 102)] (env':=[(1,one (.int .i64 v1)),(2,.val false [.ptr 102 1 0 0])]) (os':=[(102,.box (pvL (Zd v0)))]) (O:=[]) kr (sound _ _) trivial ?_
 refine WA.seq ?_
 refine WA.seq ?_
 refine WA.reg [1,2,8] [102] [] (env':=[(1,one (.int .i64 v1)),(2,.val false [.ptr 102 1 0 0]),(8,one (.bool (decide (v1 > 16))))]) (os':=[(102,.box (pvL (Zd v0)))]) (O:=[]) kr (sound _ _) trivial ?_
 refine WA.cond (b:=(decide (v1 > 16))) rfl (fun hb101=>?_) (fun hb101=>?_)
 {
 have hF:=Zk hF hb101
 refine WA.seq ?_
 refine WA.reg [4] [] [] (env':=[(4,one (.int .i64 v1))]) (os':=[]) (O:=[]) kr (sound _ _) trivial ?_
 refine WA.ret ?_
 obtain rfl:=Option.some.inj hF
 exact Zp (one (.int .i64 v1)) [] kr kr kr kr (by decide) rfl rfl }
 {
 have hF:=Zj hF hb101
 refine WA.skip ?_
 refine WA.seq ?_
 refine WA.reg [1,2,5] [102] [] (env':=[(1,one (.int .i64 v1)),(2,.val false [.ptr 102 1 0 0]),(5,one (.int .i64 v1))]) (os':=[(102,.box (pvL (Zd v0)))]) (O:=[]) kr (sound _ _) trivial ?_
 refine WA.seq ?_
 refine WA.seq ?_
 refine WA.reg [1,2,5,6] [102] [] (env':=[(1,one (.int .i64 v1)),(2,.val false [.ptr 102 1 0 0]),(5,one (.int .i64 v1)),(6,one (.int .i64 0))]) (os':=[(102,.box (pvL (Zd v0)))]) (O:=[]) kr (sound _ _) trivial ?_
 refine WA.block ?_
 refine WA.loop (fun m s_=>∃(v110:Int) (v111:Int),Zl s_.env [1,2,5,6]=[(1,one (.int .i64 v1)),(2,.val false [.ptr 102 1 0 0]),(5,one (.int .i64 v110)),(6,one (.int .i64 v111))]∧Zl s_.os [102]=[(102,.box (pvL (Zd v0)))]∧Zew R42 v0 v1 m v110 v111=some r) k ⟨v1,0,kr,kr,hF⟩ ?_
 clear hF
 rintro m0 s_ ⟨v110,v111,he,ho,hF⟩
 refine WA.keep _ _ he ho ?_
 clear he ho
 cases m0 with
 | zero=>cases hF
 | succ m0=>
  obtain ⟨self0,hself0⟩:∃g,g=Zew R42 v0 v1 m0:=⟨_,rfl⟩
  have hF:Zev R42 self0 v0 v1 v110 v111=some r:=by first | (rw [hself0];exact hF) | exact hF
  refine WA.seq ?_
  refine WA.seq ?_
  refine WA.rm (α:=Int) (raw:=((Zm v0.f_L).length:Int)) (can:=(v0.f_L.length:Int)) (fun m_=>([(1,one (.int .i64 v1)),(2,.val false [.ptr 102 1 0 0]),(5,one (.int .i64 v110)),(6,one (.int .i64 v111)),(15,one (.bool (decide (v111<m_))))],[(102,.box (pvL (Zd v0)))],[])) ((by first | (simp only [zl,Zh];done) | (simp only [zl,Zh];omega) | omega)) [1,2,5,6,15] [102] [] kr (sound _ _) trivial ?_
  refine WA.cond (b:=(decide (v111<(v0.f_L.length:Int)))) rfl (fun hb112=>?_) (fun hb112=>?_)
  {
 have hF:=Zk hF hb112
 refine WA.skip ?_
 refine WA.seq ?_
 refine WA.block ?_
 obtain ⟨y113,hy113,hF⟩:=bind_some hF
 obtain ⟨y114,hy114,hF⟩:=bind_some hF
 refine WA.reg [1,2,5,6] [102] [(4,.cells (Zd y113)),(8,.callR [] (one (.int .i64 y114)))] (env':=[(1,one (.int .i64 v1)),(2,.val false [.ptr 102 1 0 0]),(5,one (.int .i64 (mx v110 y114))),(6,one (.int .i64 v111))]) (os':=[(102,.box (pvL (Zd v0)))]) (O:=[idxL (Zm v0.f_L) v111=some (Zd y113),Sim Tryz.prog GL0 42 [.val true (pvL (Zd y113)),one (.int .i64 (w64 (v1+1)))] [] (one (.int .i64 y114)) [],([]:List Nat).Nodup]) kr (sound _ _) ⟨(ZR hy113),(IH42 _ _ _ hy114),(by decide),trivial⟩ ?_
 refine WA.reg [1,2,5,6] [102] [] (env':=[(1,one (.int .i64 v1)),(2,.val false [.ptr 102 1 0 0]),(5,one (.int .i64 (mx v110 y114))),(6,one (.int .i64 (w64 (v111+1))))]) (os':=[(102,.box (pvL (Zd v0)))]) (O:=[]) kr (sound _ _) trivial ?_
 exact ⟨m0,Nat.lt_succ_self _,(mx v110 y114),(w64 (v111+1)),kr,kr,by rw [hself0] at hF;exact hF⟩ }
  {
 have hF:=Zj hF hb112
 refine WA.exit ?_
 refine WA.seq ?_
 refine WA.reg [4] [] [] (env':=[(4,one (.int .i64 v110))]) (os':=[]) (O:=[]) kr (sound _ _) trivial ?_
 refine WA.ret ?_
 obtain rfl:=Option.some.inj hF
 exact Zp (one (.int .i64 v110)) [] kr kr kr kr (by decide) rfl rfl } }
def F42:Nat→Ze→Int→Option Int
  | 0,_,_=>none
  | k+1,v0,v1=>ZjB (F42 k) k v0 v1
theorem Zl1:∀(k:Nat),∀(v0:Ze) (v1:Int) (r:Int),F42 k v0 v1=some r→Sim Tryz.prog GL0 42 [.val true (pvL (Zd v0)),one (.int .i64 v1)] [] (one (.int .i64 r)) []
  | 0=>fun _ _ _ hF=>by cases hF
  | k+1=>fun v0 v1 r hF=>ZmY (F42 k) (Zl1 k) k v0 v1 r hF
end Go.Proofs.YthilboheomikjaaGreatDoor
end
section
namespace Go.Proofs.YthilboheomikjaaGreatDoor
open Go.AL
set_option maxRecDepth 100000
def ZhD (y105:Int×Int) (v107:Bool):Option (Int×Int):=
  cond v107 ((some ((-1),1))) (((some ((w64 y105.1),y105.2))))
def Zfx (k:Nat) (v0:List UInt8) (v1:Int) (v102:Bool):Option (Int×Int):=
  cond v102 ((some (0,0))) ((if (0:Int)≤v1∧(v1:Int)≤(v0.length:Int)∧(v0.length:Int)≤(v0.length:Int) then (F80 k ((v0.take (Int.toNat (v0.length:Int))).drop (Int.toNat v1))).bind fun y105=>(cond (y105.1 == 65533) ((ZhD y105 (y105.2 == 1))) ((ZhD y105 false))) else none))
def F55 (k:Nat) (v0:List UInt8) (v1:Int):Option (Int×Int):=
  (cond (decide (v1<0)) ((Zfx k v0 v1 true)) ((Zfx k v0 v1 (decide (v1≥(v0.length:Int))))))
theorem ZjR (k:Nat) (v0:List UInt8) (v1:Int) (r:Int×Int) (hF:F55 k v0 v1=some r):Sim Tryz.prog GL0 55 [one (.str v0),one (.int .i64 v1)] [] (.tup [(false,[.pv (.int .i64 r.1)]),(false,[.pv (.int .i64 r.2)])]) []:=by
 refine ZB [] Tryz.func55 rfl kr kr ?_
 show WA _ _ 32 _ _ _
 refine WA.seq ?_
 refine WA.reg [0,1] [] [] (env':=[(0,one (.str v0)),(1,one (.int .i64 v1))]) (os':=[]) (O:=[]) kr (sound _ _) trivial ?_
 refine WA.seq ?_
 refine WA.join (fun s_=>∃(v102:Bool),Zl s_.env [0,1,15]=[(0,one (.str v0)),(1,one (.int .i64 v1)),(15,one (.bool v102))]∧Zl s_.os []=[]∧Zfx k v0 v1 v102=some r) ?_ ?_
 {
 rintro s_ ⟨v102,he,ho,hF⟩
 refine WA.keep _ _ he ho ?_
 clear he ho
 refine WA.cond (b:=v102) rfl (fun hb103=>?_) (fun hb103=>?_)
 {
 have hF:=Zk hF hb103
 refine WA.seq ?_
 refine WA.reg [4,5] [] [] (env':=[(4,one (.int .i64 0)),(5,one (.int .i64 0))]) (os':=[]) (O:=[]) kr (sound _ _) trivial ?_
 refine WA.ret ?_
 obtain rfl:=Option.some.inj hF
 exact Zp (.tup [(false,[.pv (.int .i64 0)]),(false,[.pv (.int .i64 0)])]) [] kr kr kr kr (by decide) rfl rfl }
 {
 have hF:=Zj hF hb103
 refine WA.skip ?_
 refine WA.seq ?_
 obtain ⟨hc104,hF⟩:=Zo hF
 obtain ⟨y105,hy105,hF⟩:=bind_some hF
 refine WA.reg [6,7] [] [(3,.callR [] (.tup [(false,[.pv (.int .i32 y105.1)]),(false,[.pv (.int .i64 y105.2)])]))] (env':=[(6,one (.int .i32 y105.1)),(7,one (.int .i64 y105.2))]) (os':=[]) (O:=[(0:Int)≤v1,(v1:Int)≤(v0.length:Int),(v0.length:Int)≤(v0.length:Int),Sim Tryz.prog GL0 80 [one (.str ((v0.take (Int.toNat (v0.length:Int))).drop (Int.toNat v1)))] [] (.tup [(false,[.pv (.int .i32 y105.1)]),(false,[.pv (.int .i64 y105.2)])]) [],([]:List Nat).Nodup]) kr (sound _ _) ⟨hc104.1,hc104.2.1,hc104.2.2,(ZoO k _ _ hy105),(by decide),trivial⟩ ?_
 refine WA.seq ?_
 refine WA.join (fun s_=>∃(v107:Bool),Zl s_.env [6,7,28]=[(6,one (.int .i32 y105.1)),(7,one (.int .i64 y105.2)),(28,one (.bool v107))]∧Zl s_.os []=[]∧ZhD y105 v107=some r) ?_ ?_
 {
 rintro s_ ⟨v107,he,ho,hF⟩
 refine WA.keep _ _ he ho ?_
 clear he ho
 refine WA.cond (b:=v107) rfl (fun hb108=>?_) (fun hb108=>?_)
 {
 have hF:=Zk hF hb108
 refine WA.seq ?_
 refine WA.reg [4,5] [] [] (env':=[(4,one (.int .i64 (-1))),(5,one (.int .i64 1))]) (os':=[]) (O:=[]) kr (sound _ _) trivial ?_
 refine WA.ret ?_
 obtain rfl:=Option.some.inj hF
 exact Zp (.tup [(false,[.pv (.int .i64 (-1))]),(false,[.pv (.int .i64 1)])]) [] kr kr kr kr (by decide) rfl rfl }
 {
 have hF:=Zj hF hb108
 refine WA.skip ?_
 refine WA.seq ?_
 refine WA.reg [4,5] [] [] (env':=[(4,one (.int .i64 (w64 y105.1))),(5,one (.int .i64 y105.2))]) (os':=[]) (O:=[]) kr (sound _ _) trivial ?_
 refine WA.ret ?_
 obtain rfl:=Option.some.inj hF
 exact Zp (.tup [(false,[.pv (.int .i64 (w64 y105.1))]),(false,[.pv (.int .i64 y105.2)])]) [] kr kr kr kr (by decide) rfl rfl } }
 {
 rcases Bool.eq_false_or_eq_true (y105.1 == 65533) with hb106 | hb106
 {
 have hF:=Zk hF hb106
 refine WA.reg [6,7,28] [] [(2,.bool true)] (env':=[(6,one (.int .i32 y105.1)),(7,one (.int .i64 y105.2)),(28,one (.bool (y105.2 == 1)))]) (os':=[]) (O:=[(y105.1 == 65533)=true]) kr (sound _ _) ⟨hb106,trivial⟩ ?_
 exact ⟨(y105.2 == 1),kr,kr,hF⟩ }
 {
 have hF:=Zj hF hb106
 refine WA.reg [6,7,28] [] [(2,.bool false)] (env':=[(6,one (.int .i32 y105.1)),(7,one (.int .i64 y105.2)),(28,one (.bool false))]) (os':=[]) (O:=[(y105.1 == 65533)=false]) kr (sound _ _) ⟨hb106,trivial⟩ ?_
 exact ⟨false,kr,kr,hF⟩ } } } }
 {
 rcases Bool.eq_false_or_eq_true (decide (v1<0)) with hb101 | hb101
 {
 have hF:=Zk hF hb101
 refine WA.reg [0,1,15] [] [(2,.bool true)] (env':=[(0,one (.str v0)),(1,one (.int .i64 v1)),(15,one (.bool true))]) (os':=[]) (O:=[(decide (v1<0))=true]) kr (sound _ _) ⟨hb101,trivial⟩ ?_
 exact ⟨true,kr,kr,hF⟩ }
 {
 have hF:=Zj hF hb101
 refine WA.reg [0,1,15] [] [(2,.bool false)] (env':=[(0,one (.str v0)),(1,one (.int .i64 v1)),(15,one (.bool (decide (v1≥(v0.length:Int)))))]) (os':=[]) (O:=[(decide (v1<0))=false]) kr (sound _ _) ⟨hb101,trivial⟩ ?_
 exact ⟨(decide (v1≥(v0.length:Int))),kr,kr,hF⟩ } }
def F49 (k:Nat) (v0:List UInt8):Option Bool:=
  (F72 k v0).bind fun y101=>(some y101)
theorem Zhy (k:Nat) (v0:List UInt8) (r:Bool) (hF:F49 k v0=some r):Sim Tryz.prog GL0 49 [one (.str v0)] [] (one (.bool r)) []:=by
 refine ZB [] Tryz.func49 rfl kr kr ?_
 show WA _ _ 5 _ _ _
 refine WA.seq ?_
 refine WA.reg [0] [] [] (env':=[(0,one (.str v0))]) (os':=[]) (O:=[]) kr (sound _ _) trivial ?_
 refine WA.seq ?_
 obtain ⟨y101,hy101,hF⟩:=bind_some hF
 refine WA.reg [2] [] [(1,.callR [] (one (.bool y101)))] (env':=[(2,one (.bool y101))]) (os':=[]) (O:=[Sim Tryz.prog GL0 72 [one (.str v0)] [] (one (.bool y101)) [],([]:List Nat).Nodup]) kr (sound _ _) ⟨(ZoM k _ _ hy101),(by decide),trivial⟩ ?_
 refine WA.ret ?_
 obtain rfl:=Option.some.inj hF
 exact Zp (one (.bool y101)) [] kr kr kr kr (by decide) rfl rfl
def F59 (k:Nat):Option (List Zb):=
  ((some ([(⟨0,55295⟩:Zb),(⟨57344,1114111⟩:Zb)]:List Zb)))
theorem Zfy (k:Nat) (r:List Zb) (hF:F59 k=some r):Sim Tryz.prog GL0 59 [] [] (one (.sl (r.map Za))) []:=by
 refine ZB [] Tryz.func59 rfl kr kr ?_
 show WA _ _ 4 _ _ _
 refine WA.seq ?_
 refine WA.reg [] [] [] (env':=[]) (os':=[]) (O:=[]) kr (sound _ _) trivial ?_
 refine WA.seq ?_
 refine WA.reg [0] [] [] (env':=[(0,one (.sl (([(⟨0,55295⟩:Zb),(⟨57344,1114111⟩:Zb)]:List Zb).map Za)))]) (os':=[]) (O:=[]) kr (sound _ _) trivial ?_
 refine WA.ret ?_
 obtain rfl:=Option.some.inj hF
 exact Zp (one (.sl (([(⟨0,55295⟩:Zb),(⟨57344,1114111⟩:Zb)]:List Zb).map Za))) [] kr kr kr kr (by decide) rfl rfl
def F58 (k:Nat) (v0:List Zb):Option Ze:=
  ((some (⟨1,v0,([]:List Ze),0,0⟩:Ze)))
theorem ZeA (k:Nat) (v0:List Zb) (r:Ze) (hF:F58 k v0=some r):Sim Tryz.prog GL0 58 [one (.sl (v0.map Za))] [] (.val true (pvL (Zd r))) []:=by
 refine ZB [] Tryz.func58 rfl kr kr ?_
 show WA _ _ 5 _ _ _
 refine WA.seq ?_
 refine WA.reg [0,2] [102] [(0,.obj 102)] (env':=[(0,one (.sl (v0.map Za))),(2,.val false [.ptr 102 1 0 0])]) (os':=[(102,.box (pvL (Zd (⟨0,([]:List Zb),([]:List Ze),0,0⟩:Ze))))]) (O:=[]) kr (sound _ _) trivial ?_
 refine WA.seq ?_
 refine WA.reg [2] [102] [] (env':=[(2,.val false [.ptr 102 1 0 0])]) (os':=[(102,.box (pvL (Zd (⟨1,v0,([]:List Ze),0,0⟩:Ze))))]) (O:=[]) kr (sound _ _) trivial ?_
 refine WA.ret ?_
 obtain rfl:=Option.some.inj hF
 exact Zp (.val true (pvL (Zd (⟨1,v0,([]:List Ze),0,0⟩:Ze)))) [] kr kr kr kr (by decide) rfl rfl
def Zeu (self4:Int→Int→Option Int) (v122:Int) (v131:Int):Option Int:=
  self4 v131 (w64 (v122+1))
def ZbN (R32:Ze→Option Int) (self4:Int→Int→Option Int) (v121:Int) (v122:Int) (y124:Ze) (v128:Bool):Option Int:=
  cond v128 ((R32 y124).bind fun y130=>(Zeu self4 v122 (mn (w64 (v121+y130)) 1000))) ((Zeu self4 v122 v121))
def Zca (v121:Int) (v135:Int):Option Int:=
  (some (mn (w64 ((w64 (v121*(mn (mx v135 1) 1000)))+1)) 1000))
def ZaN (R32:Ze→Option Int) (self4:Int→Int→Option Int) (v0:Ze) (v121:Int) (v122:Int):Option Int:=
  (cond (decide (v122<(v0.f_L.length:Int))) ((idxL v0.f_L v122).bind fun y124=>(cond (v0.f_Kind == 2) ((ZbN R32 self4 v121 v122 y124 true)) (cond (v0.f_Kind == 3) ((ZbN R32 self4 v121 v122 y124 true)) (cond (v0.f_Kind == 4) ((ZbN R32 self4 v121 v122 y124 (v122 == 0))) ((ZbN R32 self4 v121 v122 y124 false)))))) ((((cond (v0.f_Kind == 1) ((some 1)) ((cond (v0.f_Kind == 4) (((cond (decide (v0.f_Max<0)) ((Zca v121 (w64 (v0.f_Min+1)))) ((Zca v121 v0.f_Max))))) (((some (mn (w64 (v121+1)) 1000)))))))))))
def ZaD (R32:Ze→Option Int) (v0:Ze):Nat→Int→Int→Option Int
  | 0,_,_=>none
  | m_+1,v121,v122=>ZaN R32 (ZaD R32 v0 m_) v0 v121 v122
def Znz (R32:Ze→Option Int) (k:Nat) (v0:Ze):Option Int:=
  (((ZaD R32 v0 k 0 0)))
theorem ZmX (R32:Ze→Option Int) (IH32:∀(v0:Ze) (r:Int),R32 v0=some r→Sim Tryz.prog GL0 32 [.val true (pvL (Zd v0))] [] (one (.int .i64 r)) []) (k:Nat) (v0:Ze) (r:Int) (hF:Znz R32 k v0=some r):Sim Tryz.prog GL0 32 [.val true (pvL (Zd v0))] [] (one (.int .i64 r)) []:=by
 refine ZB [] Tryz.func32 rfl kr kr ?_
 show WA _ _ 61 _ _ _
 refine WA.seq ?_
 refine WA.reg [1] [101] [(0,.obj 101)] (env':=[(1,.val false [.ptr 101 1 0 0])]) (os':=[(101,.box (pvL (Zd v0)))]) (O:=[]) kr (sound _ _) trivial ?_
 refine WA.seq ?_
 refine WA.reg [1,3] [101] [] (env':=[(1,.val false [.ptr 101 1 0 0]),(3,one (.int .i64 0))]) (os':=[(101,.box (pvL (Zd v0)))]) (O:=[]) kr (sound _ _) trivial ?_
 refine WA.seq ?_
 refine WA.seq ?_
 refine WA.rm (α:=Int) (raw:=((Zm v0.f_L).length:Int)) (can:=(v0.f_L.length:Int)) (fun m_=>([(1,.val false [.ptr 101 1 0 0]),(3,one (.int .i64 0)),(8,one (.sl (Zm v0.f_L))),(9,one (.int .i64 m_)),(10,one (.int .i64 0))],[(101,.box (pvL (Zd v0)))],[])) ((by first | (simp only [zl,Zh];done) | (simp only [zl,Zh];omega) | omega)) [1,3,8,9,10] [101] [] kr (sound _ _) trivial ?_
 refine WA.block ?_
 refine WA.loop (fun m s_=>∃(v121:Int) (v122:Int),Zl s_.env [1,3,8,9,10]=[(1,.val false [.ptr 101 1 0 0]),(3,one (.int .i64 v121)),(8,one (.sl (Zm v0.f_L))),(9,one (.int .i64 (v0.f_L.length:Int))),(10,one (.int .i64 v122))]∧Zl s_.os [101]=[(101,.box (pvL (Zd v0)))]∧ZaD R32 v0 m v121 v122=some r) k ⟨0,0,kr,kr,hF⟩ ?_
 clear hF
 rintro m4 s_ ⟨v121,v122,he,ho,hF⟩
 refine WA.keep _ _ he ho ?_
 clear he ho
 cases m4 with
 | zero=>cases hF
 | succ m4=>
  obtain ⟨self4,hself4⟩:∃g,g=ZaD R32 v0 m4:=⟨_,rfl⟩
  have hF:ZaN R32 self4 v0 v121 v122=some r:=by first | (rw [hself4];exact hF) | exact hF
  refine WA.seq ?_
  refine WA.reg [1,3,8,9,10,11] [101] [] (env':=[(1,.val false [.ptr 101 1 0 0]),(3,one (.int .i64 v121)),(8,one (.sl (Zm v0.f_L))),(9,one (.int .i64 (v0.f_L.length:Int))),(10,one (.int .i64 v122)),(11,one (.bool (decide (v122<(v0.f_L.length:Int)))))]) (os':=[(101,.box (pvL (Zd v0)))]) (O:=[]) kr (sound _ _) trivial ?_
  refine WA.seq ?_
  refine WA.cond (b:=(decide (v122<(v0.f_L.length:Int)))) rfl (fun hb123=>?_) (fun hb123=>?_)
  {
 have hF:=Zk hF hb123
 refine WA.skip ?_
 refine WA.join (fun s_=>∃(v131:Int),Zl s_.env [1,3,8,9,10]=[(1,.val false [.ptr 101 1 0 0]),(3,one (.int .i64 v131)),(8,one (.sl (Zm v0.f_L))),(9,one (.int .i64 (v0.f_L.length:Int))),(10,one (.int .i64 v122))]∧Zl s_.os [101]=[(101,.box (pvL (Zd v0)))]∧Zeu self4 v122 v131=some r) ?_ ?_
 {
 rintro s_ ⟨v131,he,ho,hF⟩
 refine WA.keep _ _ he ho ?_
 clear he ho
 refine WA.reg [1,3,8,9,10] [101] [] (env':=[(1,.val false [.ptr 101 1 0 0]),(3,one (.int .i64 v131)),(8,one (.sl (Zm v0.f_L))),(9,one (.int .i64 (v0.f_L.length:Int))),(10,one (.int .i64 (w64 (v122+1))))]) (os':=[(101,.box (pvL (Zd v0)))]) (O:=[]) kr (sound _ _) trivial ?_
 exact ⟨m4,Nat.lt_succ_self _,v131,(w64 (v122+1)),kr,kr,by rw [hself4] at hF;exact hF⟩ }
 {
 refine WA.block ?_
 refine WA.seq ?_
 obtain ⟨y124,hy124,hF⟩:=bind_some hF
 refine WA.reg [1,3,4,5,8,9,10] [101,105] [(1,.cells (Zd y124)),(3,.obj 105)] (env':=[(1,.val false [.ptr 101 1 0 0]),(3,one (.int .i64 v121)),(4,one (.int .i64 v122)),(5,.val false [.ptr 105 1 0 0]),(8,one (.sl (Zm v0.f_L))),(9,one (.int .i64 (v0.f_L.length:Int))),(10,one (.int .i64 v122))]) (os':=[(101,.box (pvL (Zd v0))),(105,.box (pvL (Zd y124)))]) (O:=[idxL (Zm v0.f_L) v122=some (Zd y124)]) kr (sound _ _) ⟨(ZR hy124),trivial⟩ ?_
 refine WA.join (fun s_=>∃(v128:Bool),Zl s_.env [1,3,5,8,9,10,31]=[(1,.val false [.ptr 101 1 0 0]),(3,one (.int .i64 v121)),(5,.val false [.ptr 105 1 0 0]),(8,one (.sl (Zm v0.f_L))),(9,one (.int .i64 (v0.f_L.length:Int))),(10,one (.int .i64 v122)),(31,one (.bool v128))]∧Zl s_.os [101,105]=[(101,.box (pvL (Zd v0))),(105,.box (pvL (Zd y124)))]∧ZbN R32 self4 v121 v122 y124 v128=some r) ?_ ?_
 {
 rintro s_ ⟨v128,he,ho,hF⟩
 refine WA.keep _ _ he ho ?_
 clear he ho
 refine WA.cond (b:=v128) rfl (fun hb129=>?_) (fun hb129=>?_)
 {
 have hF:=Zk hF hb129
 obtain ⟨y130,hy130,hF⟩:=bind_some hF
 refine WA.reg [1,3,8,9,10] [101] [(2,.callR [] (one (.int .i64 y130)))] (env':=[(1,.val false [.ptr 101 1 0 0]),(3,one (.int .i64 (mn (w64 (v121+y130)) 1000))),(8,one (.sl (Zm v0.f_L))),(9,one (.int .i64 (v0.f_L.length:Int))),(10,one (.int .i64 v122))]) (os':=[(101,.box (pvL (Zd v0)))]) (O:=[Sim Tryz.prog GL0 32 [.val true (pvL (Zd y124))] [] (one (.int .i64 y130)) [],([]:List Nat).Nodup]) kr (sound _ _) ⟨(IH32 _ _ hy130),(by decide),trivial⟩ ?_
 exact ⟨(mn (w64 (v121+y130)) 1000),kr,kr,hF⟩ }
 {
 have hF:=Zj hF hb129
 refine WA.skip ?_
 exact ⟨v121,kr,kr,hF⟩ } }
 {
 rcases Bool.eq_false_or_eq_true (v0.f_Kind == 2) with hb125 | hb125
 {
 have hF:=Zk hF hb125
 refine WA.reg [1,3,5,8,9,10,31] [101,105] [(3,.bool true)] (env':=[(1,.val false [.ptr 101 1 0 0]),(3,one (.int .i64 v121)),(5,.val false [.ptr 105 1 0 0]),(8,one (.sl (Zm v0.f_L))),(9,one (.int .i64 (v0.f_L.length:Int))),(10,one (.int .i64 v122)),(31,one (.bool true))]) (os':=[(101,.box (pvL (Zd v0))),(105,.box (pvL (Zd y124)))]) (O:=[(v0.f_Kind == 2)=true]) kr (sound _ _) ⟨hb125,trivial⟩ ?_
 exact ⟨true,kr,kr,hF⟩ }
 {
 have hF:=Zj hF hb125
 rcases Bool.eq_false_or_eq_true (v0.f_Kind == 3) with hb126 | hb126
 {
 have hF:=Zk hF hb126
 refine WA.reg [1,3,5,8,9,10,31] [101,105] [(3,.bool false),(8,.bool true)] (env':=[(1,.val false [.ptr 101 1 0 0]),(3,one (.int .i64 v121)),(5,.val false [.ptr 105 1 0 0]),(8,one (.sl (Zm v0.f_L))),(9,one (.int .i64 (v0.f_L.length:Int))),(10,one (.int .i64 v122)),(31,one (.bool true))]) (os':=[(101,.box (pvL (Zd v0))),(105,.box (pvL (Zd y124)))]) (O:=[(v0.f_Kind == 2)=false,(v0.f_Kind == 3)=true]) kr (sound _ _) ⟨hb125,hb126,trivial⟩ ?_
 exact ⟨true,kr,kr,hF⟩ }
 {
 have hF:=Zj hF hb126
 rcases Bool.eq_false_or_eq_true (v0.f_Kind == 4) with hb127 | hb127
 {
 have hF:=Zk hF hb127
 refine WA.reg [1,3,5,8,9,10,31] [101,105] [(3,.bool false),(8,.bool false),(12,.bool true)] (env':=[(1,.val false [.ptr 101 1 0 0]),(3,one (.int .i64 v121)),(5,.val false [.ptr 105 1 0 0]),(8,one (.sl (Zm v0.f_L))),(9,one (.int .i64 (v0.f_L.length:Int))),(10,one (.int .i64 v122)),(31,one (.bool (v122 == 0)))]) (os':=[(101,.box (pvL (Zd v0))),(105,.box (pvL (Zd y124)))]) (O:=[(v0.f_Kind == 2)=false,(v0.f_Kind == 3)=false,(v0.f_Kind == 4)=true]) kr (sound _ _) ⟨hb125,hb126,hb127,trivial⟩ ?_
 exact ⟨(v122 == 0),kr,kr,hF⟩ }
 {
 have hF:=Zj hF hb127
 refine WA.reg [1,3,5,8,9,10,31] [101,105] [(3,.bool false),(8,.bool false),(12,.bool false)] (env':=[(1,.val false [.ptr 101 1 0 0]),(3,one (.int .i64 v121)),(5,.val false [.ptr 105 1 0 0]),(8,one (.sl (Zm v0.f_L))),(9,one (.int .i64 (v0.f_L.length:Int))),(10,one (.int .i64 v122)),(31,one (.bool false))]) (os':=[(101,.box (pvL (Zd v0))),(105,.box (pvL (Zd y124)))]) (O:=[(v0.f_Kind == 2)=false,(v0.f_Kind == 3)=false,(v0.f_Kind == 4)=false]) kr (sound _ _) ⟨hb125,hb126,hb127,trivial⟩ ?_
 exact ⟨false,kr,kr,hF⟩ } } } } } }
  {
 have hF:=Zj hF hb123
 refine WA.exit ?_
 refine WA.seq ?_
 refine WA.seq ?_
 refine WA.reg [1,3,39] [101] [] (env':=[(1,.val false [.ptr 101 1 0 0]),(3,one (.int .i64 v121)),(39,one (.int .i64 v0.f_Kind))]) (os':=[(101,.box (pvL (Zd v0)))]) (O:=[]) kr (sound _ _) trivial ?_
 refine WA.block ?_
 refine WA.seq ?_
 refine WA.reg [1,3,39,40] [101] [] (env':=[(1,.val false [.ptr 101 1 0 0]),(3,one (.int .i64 v121)),(39,one (.int .i64 v0.f_Kind)),(40,one (.bool (v0.f_Kind == 1)))]) (os':=[(101,.box (pvL (Zd v0)))]) (O:=[]) kr (sound _ _) trivial ?_
 refine WA.cond (b:=(v0.f_Kind == 1)) rfl (fun hb132=>?_) (fun hb132=>?_)
 {
 have hF:=Zk hF hb132
 refine WA.seq ?_
 refine WA.reg [2] [] [] (env':=[(2,one (.int .i64 1))]) (os':=[]) (O:=[]) kr (sound _ _) trivial ?_
 refine WA.ret ?_
 obtain rfl:=Option.some.inj hF
 exact Zp (one (.int .i64 1)) [] kr kr kr kr (by decide) rfl rfl }
 {
 have hF:=Zj hF hb132
 refine WA.seq ?_
 refine WA.reg [1,3,42] [101] [] (env':=[(1,.val false [.ptr 101 1 0 0]),(3,one (.int .i64 v121)),(42,one (.bool (v0.f_Kind == 4)))]) (os':=[(101,.box (pvL (Zd v0)))]) (O:=[]) kr (sound _ _) trivial ?_
 refine WA.cond (b:=(v0.f_Kind == 4)) rfl (fun hb133=>?_) (fun hb133=>?_)
 {
 have hF:=Zk hF hb133
 refine WA.seq ?_
 refine WA.reg [1,3,6] [101] [] (env':=[(1,.val false [.ptr 101 1 0 0]),(3,one (.int .i64 v121)),(6,one (.int .i64 v0.f_Max))]) (os':=[(101,.box (pvL (Zd v0)))]) (O:=[]) kr (sound _ _) trivial ?_
 refine WA.join (fun s_=>∃(v135:Int),Zl s_.env [3,6]=[(3,one (.int .i64 v121)),(6,one (.int .i64 v135))]∧Zl s_.os []=[]∧Zca v121 v135=some r) ?_ ?_
 {
 rintro s_ ⟨v135,he,ho,hF⟩
 refine WA.keep _ _ he ho ?_
 clear he ho
 refine WA.seq ?_
 refine WA.reg [2] [] [] (env':=[(2,one (.int .i64 (mn (w64 ((w64 (v121*(mn (mx v135 1) 1000)))+1)) 1000)))]) (os':=[]) (O:=[]) kr (sound _ _) trivial ?_
 refine WA.ret ?_
 obtain rfl:=Option.some.inj hF
 exact Zp (one (.int .i64 (mn (w64 ((w64 (v121*(mn (mx v135 1) 1000)))+1)) 1000))) [] kr kr kr kr (by decide) rfl rfl }
 {
 refine WA.seq ?_
 refine WA.reg [1,3,6,47] [101] [] (env':=[(1,.val false [.ptr 101 1 0 0]),(3,one (.int .i64 v121)),(6,one (.int .i64 v0.f_Max)),(47,one (.bool (decide (v0.f_Max<0))))]) (os':=[(101,.box (pvL (Zd v0)))]) (O:=[]) kr (sound _ _) trivial ?_
 refine WA.cond (b:=(decide (v0.f_Max<0))) rfl (fun hb134=>?_) (fun hb134=>?_)
 {
 have hF:=Zk hF hb134
 refine WA.reg [3,6] [] [] (env':=[(3,one (.int .i64 v121)),(6,one (.int .i64 (w64 (v0.f_Min+1))))]) (os':=[]) (O:=[]) kr (sound _ _) trivial ?_
 exact ⟨(w64 (v0.f_Min+1)),kr,kr,hF⟩ }
 {
 have hF:=Zj hF hb134
 refine WA.skip ?_
 exact ⟨v0.f_Max,kr,kr,hF⟩ } } }
 {
 have hF:=Zj hF hb133
 refine WA.skip ?_
 refine WA.seq ?_
 refine WA.reg [2] [] [] (env':=[(2,one (.int .i64 (mn (w64 (v121+1)) 1000)))]) (os':=[]) (O:=[]) kr (sound _ _) trivial ?_
 refine WA.ret ?_
 obtain rfl:=Option.some.inj hF
 exact Zp (one (.int .i64 (mn (w64 (v121+1)) 1000))) [] kr kr kr kr (by decide) rfl rfl } } }
def F32:Nat→Ze→Option Int
  | 0,_=>none
  | k+1,v0=>Znz (F32 k) k v0
theorem Zhs:∀(k:Nat),∀(v0:Ze) (r:Int),F32 k v0=some r→Sim Tryz.prog GL0 32 [.val true (pvL (Zd v0))] [] (one (.int .i64 r)) []
  | 0=>fun _ _ hF=>by cases hF
  | k+1=>fun v0 r hF=>ZmX (F32 k) (Zhs k) k v0 r hF
def Zl9 (self0:Int→Option Bool) (v0:List Zb) (v1:List Zb) (v111:Int):Option Bool:=
  (cond (decide (v111<(v0.length:Int))) (((idxL v0 v111).bind fun y113=>(idxL v1 v111).bind fun y114=>(cond (!((y113.f_Lo == y114.f_Lo) && ((y113.f_Hi == y114.f_Hi) && true))) ((some false)) ((self0 (w64 (v111+1))))))) (((some true))))
def ZhH (v0:List Zb) (v1:List Zb):Nat→Int→Option Bool
  | 0,_=>none
  | m_+1,v111=>Zl9 (ZhH v0 v1 m_) v0 v1 v111
def F75 (k:Nat) (v0:List Zb) (v1:List Zb):Option Bool:=
  ((cond ((v0.length:Int) != (v1.length:Int)) ((some false)) (((ZhH v0 v1 k 0)))))
theorem ZoN (k:Nat) (v0:List Zb) (v1:List Zb) (r:Bool) (hF:F75 k v0 v1=some r):Sim Tryz.prog GL0 75 [one (.sl (v0.map Za)),one (.sl (v1.map Za))] [] (one (.bool r)) []:=by
 refine ZB [] Tryz.func75 rfl kr kr ?_
 show WA _ _ 26 _ _ _
 refine WA.seq ?_
 refine WA.reg [0,1] [] [] (env':=[(0,one (.sl (v0.map Za))),(1,one (.sl (v1.map Za)))]) (os':=[]) (O:=[]) kr (sound _ _) trivial ?_
 refine WA.seq ?_
 refine WA.seq ?_
 refine WA.rm (α:=Int×Int) (raw:=(((v0.map Za).length:Int),((v1.map Za).length:Int))) (can:=((v0.length:Int),(v1.length:Int))) (fun m_=>([(0,one (.sl (v0.map Za))),(1,one (.sl (v1.map Za))),(10,one (.bool (m_.1 != m_.2)))],[],[])) (ZE (by first | (simp only [zl,Zh];done) | (simp only [zl,Zh];omega) | omega) (by first | (simp only [zl,Zh];done) | (simp only [zl,Zh];omega) | omega)) [0,1,10] [] [] kr (sound _ _) trivial ?_
 refine WA.cond (b:=((v0.length:Int) != (v1.length:Int))) rfl (fun hb101=>?_) (fun hb101=>?_)
 {
 have hF:=Zk hF hb101
 refine WA.seq ?_
 refine WA.reg [4] [] [] (env':=[(4,one (.bool false))]) (os':=[]) (O:=[]) kr (sound _ _) trivial ?_
 refine WA.ret ?_
 obtain rfl:=Option.some.inj hF
 exact Zp (one (.bool false)) [] kr kr kr kr (by decide) rfl rfl }
 {
 have hF:=Zj hF hb101
 refine WA.skip ?_
 refine WA.seq ?_
 refine WA.seq ?_
 refine WA.rm (α:=Int) (raw:=((v0.map Za).length:Int)) (can:=(v0.length:Int)) (fun m_=>([(0,one (.sl (v0.map Za))),(1,one (.sl (v1.map Za))),(12,one (.int .i64 m_)),(13,one (.int .i64 0))],[],[])) ((by first | (simp only [zl,Zh];done) | (simp only [zl,Zh];omega) | omega)) [0,1,12,13] [] [] kr (sound _ _) trivial ?_
 refine WA.block ?_
 refine WA.loop (fun m s_=>∃(v111:Int),Zl s_.env [0,1,12,13]=[(0,one (.sl (v0.map Za))),(1,one (.sl (v1.map Za))),(12,one (.int .i64 (v0.length:Int))),(13,one (.int .i64 v111))]∧Zl s_.os []=[]∧ZhH v0 v1 m v111=some r) k ⟨0,kr,kr,hF⟩ ?_
 clear hF
 rintro m0 s_ ⟨v111,he,ho,hF⟩
 refine WA.keep _ _ he ho ?_
 clear he ho
 cases m0 with
 | zero=>cases hF
 | succ m0=>
  obtain ⟨self0,hself0⟩:∃g,g=ZhH v0 v1 m0:=⟨_,rfl⟩
  have hF:Zl9 self0 v0 v1 v111=some r:=by first | (rw [hself0];exact hF) | exact hF
  refine WA.seq ?_
  refine WA.reg [0,1,12,13,14] [] [] (env':=[(0,one (.sl (v0.map Za))),(1,one (.sl (v1.map Za))),(12,one (.int .i64 (v0.length:Int))),(13,one (.int .i64 v111)),(14,one (.bool (decide (v111<(v0.length:Int)))))]) (os':=[]) (O:=[]) kr (sound _ _) trivial ?_
  refine WA.seq ?_
  refine WA.cond (b:=(decide (v111<(v0.length:Int)))) rfl (fun hb112=>?_) (fun hb112=>?_)
  {
 have hF:=Zk hF hb112
 refine WA.skip ?_
 refine WA.seq ?_
 refine WA.block ?_
 refine WA.seq ?_
 refine WA.reg [0,1,5,12,13] [] [] (env':=[(0,one (.sl (v0.map Za))),(1,one (.sl (v1.map Za))),(5,one (.int .i64 v111)),(12,one (.int .i64 (v0.length:Int))),(13,one (.int .i64 v111))]) (os':=[]) (O:=[]) kr (sound _ _) trivial ?_
 refine WA.seq ?_
 obtain ⟨y113,hy113,hF⟩:=bind_some hF
 obtain ⟨y114,hy114,hF⟩:=bind_some hF
 refine WA.regD kr [0,1,12,13,24] [] [(2,.cells (Za y113)),(6,.cells (Za y114))] (env':=[(0,one (.sl (v0.map Za))),(1,one (.sl (v1.map Za))),(12,one (.int .i64 (v0.length:Int))),(13,one (.int .i64 v111)),(24,one (.bool (!((y113.f_Lo == y114.f_Lo) && ((y113.f_Hi == y114.f_Hi) && true)))))]) (os':=[]) (O:=[idxL (v0.map Za) v111=some (Za y113),idxL (v1.map Za) v111=some (Za y114)]) kr kr (sound _ _) ⟨(Zs _ hy113),(Zs _ hy114),trivial⟩ ?_
 refine WA.cond (b:=(!((y113.f_Lo == y114.f_Lo) && ((y113.f_Hi == y114.f_Hi) && true)))) rfl (fun hb115=>?_) (fun hb115=>?_)
 {
 have hF:=Zk hF hb115
 refine WA.seq ?_
 refine WA.reg [4] [] [] (env':=[(4,one (.bool false))]) (os':=[]) (O:=[]) kr (sound _ _) trivial ?_
 refine WA.ret ?_
 obtain rfl:=Option.some.inj hF
 exact Zp (one (.bool false)) [] kr kr kr kr (by decide) rfl rfl }
 {
 have hF:=Zj hF hb115
 refine WA.skip ?_
 refine WA.reg [0,1,12,13] [] [] (env':=[(0,one (.sl (v0.map Za))),(1,one (.sl (v1.map Za))),(12,one (.int .i64 (v0.length:Int))),(13,one (.int .i64 (w64 (v111+1))))]) (os':=[]) (O:=[]) kr (sound _ _) trivial ?_
 exact ⟨m0,Nat.lt_succ_self _,(w64 (v111+1)),kr,kr,by rw [hself0] at hF;exact hF⟩ } }
  {
 have hF:=Zj hF hb112
 refine WA.exit ?_
 refine WA.seq ?_
 refine WA.reg [4] [] [] (env':=[(4,one (.bool true))]) (os':=[]) (O:=[]) kr (sound _ _) trivial ?_
 refine WA.ret ?_
 obtain rfl:=Option.some.inj hF
 exact Zp (one (.bool true)) [] kr kr kr kr (by decide) rfl rfl } }
def ZjK (k:Nat) (self2:(List Ze)→Int→Option Ze) (v0:List UInt8) (v118:List Ze) (v120:Int) (v123:Bool):Option Ze:=
  cond v123 ((F55 k v0 v120).bind fun y125=>(F58 k ([(⟨y125.1,y125.1⟩:Zb)]:List Zb)).bind fun y126=>if v118.length+([y126]:List Ze).length≤1073741824 then (self2 (v118 ++ ([y126]:List Ze)) (w64 (v120+y125.2))) else none) (((cond ((v118.length:Int) == 1) (if (0:Int)≤0∧0<(v118.length:Int) then (idxL v118 0).bind fun y130=>(some y130) else none) (((some (⟨2,([]:List Zb),v118,0,0⟩:Ze)))))))
def Zl0 (k:Nat) (self2:(List Ze)→Int→Option Ze) (v0:List UInt8) (v118:List Ze) (v120:Int):Option Ze:=
  (F49 k v0).bind fun y121=>cond y121 ((ZjK k self2 v0 v118 v120 (decide (v120<(v0.length:Int))))) ((ZjK k self2 v0 v118 v120 false))
def Zht (k:Nat) (v0:List UInt8):Nat→(List Ze)→Int→Option Ze
  | 0,_,_=>none
  | m_+1,v118,v120=>Zl0 k (Zht k v0 m_) v0 v118 v120
def F33 (k:Nat) (v0:List UInt8):Option Ze:=
  (((Zht k v0 k ([]:List Ze) 0)))
theorem ZjL (k:Nat) (v0:List UInt8) (r:Ze) (hF:F33 k v0=some r):Sim Tryz.prog GL0 33 [one (.str v0)] [] (.val true (pvL (Zd r))) []:=by
 refine ZB [] Tryz.func33 rfl kr kr ?_
 show WA _ _ 40 _ _ _
 refine WA.seq ?_
 refine WA.reg [0,2] [102] [(0,.obj 102)] (env':=[(0,one (.str v0)),(2,.val false [.ptr 102 1 0 0])]) (os':=[(102,.box (pvL (Zd (⟨0,([]:List Zb),([]:List Ze),0,0⟩:Ze))))]) (O:=[]) kr (sound _ _) trivial ?_
 refine WA.seq ?_
 refine WA.reg [0,2,3] [102,103] [(0,.obj 103)] (env':=[(0,one (.str v0)),(2,.val false [.ptr 102 1 0 0]),(3,.val false [.arr 103 0])]) (os':=[(102,.box (pvL (Zd (⟨0,([]:List Zb),([]:List Ze),0,0⟩:Ze)))),(103,.arr 5 (Zm ([]:List Ze)))]) (O:=[]) kr (sound _ _) trivial ?_
 refine WA.seq ?_
 refine WA.seq ?_
 refine WA.reg [0,2,3,4] [102,103] [] (env':=[(0,one (.str v0)),(2,.val false [.ptr 102 1 0 0]),(3,.val false [.arr 103 0]),(4,one (.int .i64 0))]) (os':=[(102,.box (pvL (Zd (⟨0,([]:List Zb),([]:List Ze),0,0⟩:Ze)))),(103,.arr 5 (Zm ([]:List Ze)))]) (O:=[]) kr (sound _ _) trivial ?_
 refine WA.block ?_
 refine WA.loop (fun m s_=>∃(v118:List Ze) (v119:Nat) (v120:Int),Zl s_.env [0,2,3,4]=[(0,one (.str v0)),(2,.val false [.ptr 102 1 0 0]),(3,.val false [.arr 103 v119]),(4,one (.int .i64 v120))]∧Zl s_.os [102,103]=[(102,.box (pvL (Zd (⟨0,([]:List Zb),([]:List Ze),0,0⟩:Ze)))),(103,.arr 5 (Zm v118))]∧v119=(v118:List _).length∧Zht k v0 m v118 v120=some r) k ⟨([]:List Ze),0,0,kr,kr,zt,hF⟩ ?_
 clear hF
 rintro m2 s_ ⟨v118,v119,v120,he,ho,hn_v119,hF⟩
 refine WA.keep _ _ he ho ?_
 clear he ho
 cases m2 with
 | zero=>cases hF
 | succ m2=>
  obtain ⟨self2,hself2⟩:∃g,g=Zht k v0 m2:=⟨_,rfl⟩
  have hF:Zl0 k self2 v0 v118 v120=some r:=by first | (rw [hself2];exact hF) | exact hF
  refine WA.seq ?_
  refine WA.join (fun s_=>∃(v123:Bool),Zl s_.env [0,2,3,4,14]=[(0,one (.str v0)),(2,.val false [.ptr 102 1 0 0]),(3,.val false [.arr 103 v119]),(4,one (.int .i64 v120)),(14,one (.bool v123))]∧Zl s_.os [102,103]=[(102,.box (pvL (Zd (⟨0,([]:List Zb),([]:List Ze),0,0⟩:Ze)))),(103,.arr 5 (Zm v118))]∧ZjK k self2 v0 v118 v120 v123=some r) ?_ ?_
  {
 rintro s_ ⟨v123,he,ho,hF⟩
 refine WA.keep _ _ he ho ?_
 clear he ho
 refine WA.cond (b:=v123) rfl (fun hb124=>?_) (fun hb124=>?_)
 {
 have hF:=Zk hF hb124
 refine WA.skip ?_
 refine WA.block ?_
 refine WA.seq ?_
 obtain ⟨y125,hy125,hF⟩:=bind_some hF
 refine WA.reg [0,2,3,4,5,6] [102,103] [(2,.callR [] (.tup [(false,[.pv (.int .i64 y125.1)]),(false,[.pv (.int .i64 y125.2)])]))] (env':=[(0,one (.str v0)),(2,.val false [.ptr 102 1 0 0]),(3,.val false [.arr 103 v119]),(4,one (.int .i64 v120)),(5,one (.int .i64 y125.1)),(6,one (.int .i64 y125.2))]) (os':=[(102,.box (pvL (Zd (⟨0,([]:List Zb),([]:List Ze),0,0⟩:Ze)))),(103,.arr 5 (Zm v118))]) (O:=[Sim Tryz.prog GL0 55 [one (.str v0),one (.int .i64 v120)] [] (.tup [(false,[.pv (.int .i64 y125.1)]),(false,[.pv (.int .i64 y125.2)])]) [],([]:List Nat).Nodup]) kr (sound _ _) ⟨(ZjR k _ _ _ hy125),(by decide),trivial⟩ ?_
 refine WA.seq ?_
 obtain ⟨y126,hy126,hF⟩:=bind_some hF
 obtain ⟨hc127,hF⟩:=Zo hF
 refine WA.rm (α:=(List (List PV))×(List (List PV))) (raw:=(((Zm v118) ++ ([(Zd y126)])),[(Zd y126)])) (can:=((Zm (v118 ++ ([y126]:List Ze))),(Zm ([y126]:List Ze)))) (fun m_=>([(0,one (.str v0)),(2,.val false [.ptr 102 1 0 0]),(3,.val false [.arr 103 (v119+1)]),(4,one (.int .i64 v120)),(6,one (.int .i64 y125.2))],[(102,.box (pvL (Zd (⟨0,([]:List Zb),([]:List Ze),0,0⟩:Ze)))),(103,.arr 5 m_.1)],[Sim Tryz.prog GL0 58 [one (.sl (([(⟨y125.1,y125.1⟩:Zb)]:List Zb).map Za))] [] (.val true (pvL (Zd y126))) [],([]:List Nat).Nodup,v119=(Zm v118).length,(Zm v118).length+m_.2.length≤1073741824,∀es,es∈m_.2→es.length=5])) (ZE zm zm) [0,2,3,4,6] [102,103] [(5,.callR [] (.val true (pvL (Zd y126))))] kr (sound _ _) ⟨(ZeA k _ _ hy126),(by decide),zt,(by first | exact hc127 | (simp only [List.length_map,Zh];exact hc127)),(Zci ([y126]:List Ze)),trivial⟩ ?_
 refine WA.reg [0,2,3,4] [102,103] [] (env':=[(0,one (.str v0)),(2,.val false [.ptr 102 1 0 0]),(3,.val false [.arr 103 (v119+1)]),(4,one (.int .i64 (w64 (v120+y125.2))))]) (os':=[(102,.box (pvL (Zd (⟨0,([]:List Zb),([]:List Ze),0,0⟩:Ze)))),(103,.arr 5 (Zm (v118 ++ ([y126]:List Ze))))]) (O:=[]) kr (sound _ _) trivial ?_
 exact ⟨m2,Nat.lt_succ_self _,(v118 ++ ([y126]:List Ze)),(v119+1),(w64 (v120+y125.2)),kr,kr,zt,by rw [hself2] at hF;exact hF⟩ }
 {
 have hF:=Zj hF hb124
 refine WA.exit ?_
 refine WA.seq ?_
 refine WA.seq ?_
 refine WA.rm (α:=Int) (raw:=((v119:Nat):Int)) (can:=(v118.length:Int)) (fun m_=>([(2,.val false [.ptr 102 1 0 0]),(3,.val false [.arr 103 v119]),(34,one (.bool (m_ == 1)))],[(102,.box (pvL (Zd (⟨0,([]:List Zb),([]:List Ze),0,0⟩:Ze)))),(103,.arr 5 (Zm v118))],[])) ((by first | (simp only [zl,Zh];done) | (simp only [zl,Zh];omega) | omega)) [2,3,34] [102,103] [] kr (sound _ _) trivial ?_
 refine WA.cond (b:=((v118.length:Int) == 1)) rfl (fun hb128=>?_) (fun hb128=>?_)
 {
 have hF:=Zk hF hb128
 refine WA.seq ?_
 obtain ⟨hc129,hF⟩:=Zo hF
 obtain ⟨y130,hy130,hF⟩:=bind_some hF
 refine WA.reg [2] [102] [(2,.cells (Zd y130))] (env':=[(2,.val false [.ptr 102 1 0 0])]) (os':=[(102,.box (pvL (Zd y130)))]) (O:=[v119=(Zm v118).length,(0:Int)≤0,0<((v119:Nat):Int),v119=(Zm v118).length,(Zm v118)[Int.toNat 0]?=some (Zd y130)]) kr (sound _ _) ⟨zt,hc129.1,(by have h_:=hc129.2;(try simp only [zl,Zh] at h_ ⊢);omega),zt,(Zr (ZR hy130)),trivial⟩ ?_
 refine WA.ret ?_
 obtain rfl:=Option.some.inj hF
 exact Zp (.val true (pvL (Zd y130))) [] kr kr kr kr (by decide) rfl rfl }
 {
 have hF:=Zj hF hb128
 refine WA.skip ?_
 refine WA.seq ?_
 refine WA.freeze 103 3 (s:=5) (n:=v119) (els:=(Zm v118)) rfl rfl zt ?_
 refine WA.keep [2,3] [102] (env':=[(2,.val false [.ptr 102 1 0 0]),(3,one (.sl (Zm v118)))]) (os':=[(102,.box (pvL (Zd (⟨0,([]:List Zb),([]:List Ze),0,0⟩:Ze))))]) kr kr ?_
 refine WA.reg [2] [102] [] (env':=[(2,.val false [.ptr 102 1 0 0])]) (os':=[(102,.box (pvL (Zd (⟨2,([]:List Zb),v118,0,0⟩:Ze))))]) (O:=[]) kr (sound _ _) trivial ?_
 refine WA.ret ?_
 obtain rfl:=Option.some.inj hF
 exact Zp (.val true (pvL (Zd (⟨2,([]:List Zb),v118,0,0⟩:Ze)))) [] kr kr kr kr (by decide) rfl rfl } } }
  {
 obtain ⟨y121,hy121,hF⟩:=bind_some hF
 rcases Bool.eq_false_or_eq_true y121 with hb122 | hb122
 {
 have hF:=Zk hF hb122
 refine WA.reg [0,2,3,4,14] [102,103] [(1,.callR [] (one (.bool y121))),(2,.bool true)] (env':=[(0,one (.str v0)),(2,.val false [.ptr 102 1 0 0]),(3,.val false [.arr 103 v119]),(4,one (.int .i64 v120)),(14,one (.bool (decide (v120<(v0.length:Int)))))]) (os':=[(102,.box (pvL (Zd (⟨0,([]:List Zb),([]:List Ze),0,0⟩:Ze)))),(103,.arr 5 (Zm v118))]) (O:=[Sim Tryz.prog GL0 49 [one (.str v0)] [] (one (.bool y121)) [],([]:List Nat).Nodup,y121=true]) kr (sound _ _) ⟨(Zhy k _ _ hy121),(by decide),hb122,trivial⟩ ?_
 exact ⟨(decide (v120<(v0.length:Int))),kr,kr,hF⟩ }
 {
 have hF:=Zj hF hb122
 refine WA.reg [0,2,3,4,14] [102,103] [(1,.callR [] (one (.bool y121))),(2,.bool false)] (env':=[(0,one (.str v0)),(2,.val false [.ptr 102 1 0 0]),(3,.val false [.arr 103 v119]),(4,one (.int .i64 v120)),(14,one (.bool false))]) (os':=[(102,.box (pvL (Zd (⟨0,([]:List Zb),([]:List Ze),0,0⟩:Ze)))),(103,.arr 5 (Zm v118))]) (O:=[Sim Tryz.prog GL0 49 [one (.str v0)] [] (one (.bool y121)) [],([]:List Nat).Nodup,y121=false]) kr (sound _ _) ⟨(Zhy k _ _ hy121),(by decide),hb122,trivial⟩ ?_
 exact ⟨false,kr,kr,hF⟩ } }
def F34 (k:Nat):Option Ze:=
  (F59 k).bind fun y101=>(F58 k y101).bind fun y102=>(some (⟨4,([]:List Zb),([y102]:List Ze),0,(-1)⟩:Ze))
theorem ZjM (k:Nat) (r:Ze) (hF:F34 k=some r):Sim Tryz.prog GL0 34 [] [] (.val true (pvL (Zd r))) []:=by
 refine ZB [] Tryz.func34 rfl kr kr ?_
 show WA _ _ 5 _ _ _
 refine WA.seq ?_
 refine WA.reg [0] [100] [(0,.obj 100)] (env':=[(0,.val false [.ptr 100 1 0 0])]) (os':=[(100,.box (pvL (Zd (⟨0,([]:List Zb),([]:List Ze),0,0⟩:Ze))))]) (O:=[]) kr (sound _ _) trivial ?_
 refine WA.seq ?_
 obtain ⟨y101,hy101,hF⟩:=bind_some hF
 obtain ⟨y102,hy102,hF⟩:=bind_some hF
 refine WA.rm (α:=(List (List PV))) (raw:=[(Zd y102)]) (can:=(Zm ([y102]:List Ze))) (fun m_=>([(0,.val false [.ptr 100 1 0 0])],[(100,.box (pvL ([.int .i64 4] ++ [.sl (([]:List Zb).map Za)] ++ [.sl m_] ++ [.int .i64 0] ++ [.int .i64 (-1)])))],[Sim Tryz.prog GL0 59 [] [] (one (.sl (y101.map Za))) [],([]:List Nat).Nodup,Sim Tryz.prog GL0 58 [one (.sl (y101.map Za))] [] (.val true (pvL (Zd y102))) [],([]:List Nat).Nodup])) (zm) [0] [100] [(0,.callR [] (one (.sl (y101.map Za)))),(1,.callR [] (.val true (pvL (Zd y102))))] kr (sound _ _) ⟨(Zfy k _ hy101),(by decide),(ZeA k _ _ hy102),(by decide),trivial⟩ ?_
 refine WA.ret ?_
 obtain rfl:=Option.some.inj hF
 exact Zp (.val true (pvL (Zd (⟨4,([]:List Zb),([y102]:List Ze),0,(-1)⟩:Ze)))) [] kr kr kr kr (by decide) rfl rfl
def F104 (k:Nat) (v0:Zb) (v1:Zb):Option Int:=
  ((some (w64 (v0.f_Lo-v1.f_Lo))))
theorem Zap (k:Nat) (v0:Zb) (v1:Zb) (r:Int) (hF:F104 k v0 v1=some r):Sim Tryz.prog GL0 104 [.val true (pvL (Za v0)),.val true (pvL (Za v1))] [] (one (.int .i64 r)) []:=by
 refine ZB [] Tryz.func104 rfl kr kr ?_
 show WA _ _ 10 _ _ _
 refine WA.seq ?_
 refine WA.reg [2,3] [102,103] [(0,.obj 102),(1,.obj 103)] (env':=[(2,.val false [.ptr 102 1 0 0]),(3,.val false [.ptr 103 1 0 0])]) (os':=[(102,.box (pvL (Za v0))),(103,.box (pvL (Za v1)))]) (O:=[]) kr (sound _ _) trivial ?_
 refine WA.seq ?_
 refine WA.reg [4] [] [] (env':=[(4,one (.int .i64 (w64 (v0.f_Lo-v1.f_Lo))))]) (os':=[]) (O:=[]) kr (sound _ _) trivial ?_
 refine WA.ret ?_
 obtain rfl:=Option.some.inj hF
 exact Zp (one (.int .i64 (w64 (v0.f_Lo-v1.f_Lo)))) [] kr kr kr kr (by decide) rfl rfl
end Go.Proofs.YthilboheomikjaaGreatDoor
end
section
namespace Go.Proofs.YthilboheomikjaaGreatDoor
open Go.AL Go.Lib
set_option maxRecDepth 100000
theorem Zu {x:Int} (h:-9223372036854775808≤x) (h':x≤9223372036854775807):w64 x=x:=by
  simp only [w64,IntKind.wrap,IntKind.bits,IntKind.signed];simp;omega
theorem Zy {α:Type} (l:List α) (i:Nat):idxL l (i:Int)=l[i]?:=by simp [idxL]
theorem dt {p:Prop} [Decidable p] (h:p):decide p=true:=decide_eq_true h
theorem df {p:Prop} [Decidable p] (h:¬p):decide p=false:=decide_eq_false h
def bad (l:List UInt8):Prop:=(decodeL l).1=65533∧(decodeL l).2=1
instance (l:List UInt8):Decidable (bad l):=by unfold bad;infer_instance
theorem ZmT {l:List UInt8} (hne:l≠[]) (h:bad l):validD l=false:=by rw [validD_step l hne];exact if_pos h
theorem ZlS {l:List UInt8} (hne:l≠[]) (h:¬bad l):validD l=validD (l.drop (decodeL l).2):=by rw [validD_step l hne];exact if_neg h
def nxt (l:List UInt8):Int×Int:=if bad l then (-1,1) else (((decodeL l).1:Nat),((decodeL l).2:Nat))
def ZM (c:Int):Prop:=0≤c∧c≤1114111∧(c<55296∨57343<c)
instance (c:Int):Decidable (ZM c):=by unfold ZM;infer_instance
theorem ZbJ (l:List UInt8) (i:Nat):(l.getD i 0).toNat<256:=(l.getD i 0).toNat_lt
theorem Zks {l:List UInt8} (h:¬bad l):ZM ((decodeL l).1:Int):=by
  unfold bad at h
  rw [decodeL_N] at h ⊢
  have h0:=ZbJ l 0;have h1:=ZbJ l 1;have h2:=ZbJ l 2;have h3:=ZbJ l 3
  generalize (l.getD 0 0).toNat=b0 at *;generalize (l.getD 1 0).toNat=b1 at *;generalize (l.getD 2 0).toNat=b2 at *;generalize (l.getD 3 0).toNat=b3 at *
  unfold decodeN at h ⊢
  unfold ZM
  repeat' split
  all_goals first | (exfalso;simp_all;done) | (simp only [];omega)
theorem ZoY {c:Nat} (h:ZM (c:Int)):(Utf8.encode (c:Int)).data.toList=if c<128 then [UInt8.ofNat c] else if c<2048 then [UInt8.ofNat (192+c / 64),UInt8.ofNat (128+c % 64)]
    else if c<65536 then [UInt8.ofNat (224+c / 4096),UInt8.ofNat (128+c / 64 % 64),UInt8.ofNat (128+c % 64)] else [UInt8.ofNat (240+c / 262144),UInt8.ofNat (128+c / 4096 % 64),UInt8.ofNat (128+c / 64 % 64),UInt8.ofNat (128+c % 64)]:=by
  have hv:Utf8.valid (c:Int)=true:=by
    unfold ZM at h
    simp only [Utf8.valid,Bool.or_eq_true,Bool.and_eq_true,decide_eq_true_eq];omega
  unfold Utf8.encode
  simp only [hv,if_true,Int.toNat_natCast]
  repeat' split
  all_goals first | rfl | omega
theorem Zpf (l:List UInt8) (hne:l≠[]):decodeGo ⟨l.toArray⟩=decodeL l:=by
  have:¬(ByteArray.size ⟨l.toArray⟩)=0:=by rw [ZbL];intro h;exact hne (List.eq_nil_of_length_eq_zero h)
  unfold decodeGo decodeL;rw [if_neg this]
theorem Zl6 {k:Nat} {s:List UInt8} {i:Nat} (hi:i<s.length) (hs:s.length≤4611686018427387904):F55 k s (i:Int)=some (nxt (s.drop i)):=by
  have hne:s.drop i≠[]:=fun h=>by have:=congrArg List.length h;rw [List.length_drop] at this;simp at this;omega
  have hr:=decodeL_rune (s.drop i)
  unfold F55 Zfx
  rw [df (by omega),df (by omega)]
  simp only [cond]
  rw [if_pos ⟨by omega,by omega,by omega⟩]
  rw [Int.toNat_natCast,Int.toNat_natCast,List.take_length]
  simp only [F80,Option.bind_some,Zpf _ hne,ZhD,nxt]
  by_cases hb:bad (s.drop i)
  · rw [if_pos hb]
    obtain ⟨h1,h2⟩:=hb
    rw [h1,h2];rfl
  · rw [if_neg hb,Zu (by omega) (by omega)]
    by_cases h1:(decodeL (s.drop i)).1=65533
    · have h2:¬(decodeL (s.drop i)).2=1:=fun h=>hb ⟨h1,h⟩
      have e1:(((decodeL (s.drop i)).1:Nat):Int) == 65533:=by rw [h1];rfl
      have e2:((((decodeL (s.drop i)).2:Nat):Int) == 1)=false:=by
        rw [beq_eq_false_iff_ne];omega
      rw [e1,e2];rfl
    · have e1:((((decodeL (s.drop i)).1:Nat):Int) == 65533)=false:=by
        rw [beq_eq_false_iff_ne];omega
      rw [e1];rfl
end Go.Proofs.YthilboheomikjaaGreatDoor
end
section
namespace Go.AL
variable {D:List Deferred}
variable {P:Program} {GL:List (Nat×List PV)} {C:Spec} {st:S} {N:Nat} {F:Exit→S→Prop}
def ZdR (pv:Value):List PanicEntry:=[{ v:=pv,recovered:=false }]
def ZaV (l:List (List PV)):List Obj:=l.map fun ps=>.box (pvL ps)
def ZjY (P:Program) (GL:List (Nat×List PV)) (pv:Value) (f:FuncId) (args:List AT) (os:List Obj):Prop:=
  ∀(w:World) (I:Nat→Prop) (G:Nat→Option Nat) (vs:List Value),Sr GL w I G (ZC os)→As w I G (shape (ZC os)) args vs→
    Calls P f ⟨vs⟩ w fun e w'=>∃I' G' psl,e = .panicked (ZdR pv)∧psl.length=os.length∧Ext w w' I I' (Mine G (ZC os)) (Mine G' (ZC (ZaV psl)))∧Sr GL w' I' G' (ZC (ZaV psl))∧
      ZJ (· < os.length) w w' I I' G G' (shape (ZC os)) (shape (ZC (ZaV psl)))
def SimP (P:Program) (GL:List (Nat×List PV)) (pv:Value) (f:FuncId) (args:List AT) (os:List Obj):Option (AT×List Obj)→Prop
  | some (res,os')=>Sim P GL f args os res os'
  | none=>ZjY P GL pv f args os
theorem Zlo (ids:List Nat):∀ps:List PV,renL ids (pvL ps)=some (pvL ps)
  | []=>rfl
  | p :: ps=>by
    have ih:=Zlo ids ps
    simp only [pvL,List.map_cons,renL,renC] at ih ⊢
    rw [ih]
theorem Zec (ids:List Nat):∀l:List (List PV),Zar ids (ZaV l)=some (ZaV l)
  | []=>rfl
  | ps :: l=>by
    have ih:=Zec ids l
    simp only [ZaV,List.map_cons,Zar,renO,Zlo,Option.map_some] at ih ⊢
    rw [ih]
theorem ZdO {ops:List Oper} {hs_:List (Nat×Hint)} (hC:ZaU P GL C) (tail:List Oper):∀(pre:List Oper) (i:Nat) (st st':S) (O:List Prop) (w:World) (I:Nat→Prop) (G:Nat→Option Nat) (a:Act) (Q:Exit→Act→World→Prop),
    Z3 P GL C N ops hs_ i pre st=some (st',O)→All O→Sr GL w I G st.os→Fr D w I G (shape st.os) N a st.env→
    (∀w' I' G' a',Ext w w' I I' (Mine G st.os) (Mine G' st'.os)→ZJ (· < 100) w w' I I' G G' (shape st.os) (shape st'.os)→Sr GL w' I' G' st'.os→Fr D w' I' G' (shape st'.os) N a' st'.env→wpList P ops.toArray Q tail a' w')→
    wpList P ops.toArray Q (pre ++ tail) a w
  | [],i,st,st',O,w,I,G,a,Q,he,hO,hs,hf,hQ=>by
    cases he
    exact hQ w I G a (.refl _ _ _) (.refl _ _ _ _ _) hs hf
  | o :: rest,i,st,st',O,w,I,G,a,Q,he,hO,hs,hf,hQ=>by
    simp only [Z3] at he
    split at he
    · rename_i hw hd
      have hw':=Zbx hf hw
      rw [List.cons_append]
      unfold wpList
      rw [hw']
      simp only [Bool.false_eq_true,if_false]
      exact ZdO hC tail rest (i+1) _ st' O w I G _ Q he hO hs (ZfP hf hd (fun _ _ _ _ h=>h) ⟨[],rfl,rfl⟩) hQ
    · rename_i hw hd
      have hw':=Zbx hf hw
      split at he
      · cases he
      · rename_i x os O1 he1
        split at he
        · cases he
        · rename_i st2 O2 he2
          cases he
          obtain ⟨h1,h2⟩:=hO.append
          rw [List.cons_append]
          unfold wpList
          rw [hw']
          simp only [if_true]
          refine .inl (ZgF he1 h1 hC hs hf fun v w' I' G' e1 s1 x1 m1=>?_)
          exact ZdO hC tail rest (i+1) _ st' O2 w' I' G' _ Q he2 h2 s1 (ZfP hf hd m1.env x1) (fun w2 I2 G2 a2 e2 k2 s2 f2=>hQ w2 I2 G2 a2 (e1.trans e2) (m1.keeps.trans k2) s2 f2)
    · cases he
def ZnH (P:Program) (GL:List (Nat×List PV)) (C:Spec) (N:Nat) (l:List Oper) (hs_:List (Nat×Hint)) (n:Nat) (ids ts:List Nat) (st:S):Option (FuncId×List AT×List Obj×List (Nat×AT)×Objs×List Prop):=
  match Z3 P GL C N l hs_ 0 (l.take n) st,l[n]? with
  | some (st1,O),some o=>match Zaj l st1 o,o.op with
    | some true,.call ⟨.value (.func f),⟨xs⟩,_⟩=>match (P.funcs[f]?).map (fun fn=>(fn.body.isSome,fn.name == "runtime.NumGoroutine")),(opds GL st1 xs).bind (unAs ids),(ZS st1.os ids).bind (unOs ids),Nat.ble ids.length 100 with
      | some (true,false),some args,some os,true=>some (f,args,os,Zl st1.env ts,st1.os,O)
      | _,_,_,_=>none
    | _,_=>none
  | _,_=>none
theorem WA.regP {id:Nat} {l:List Oper} (n:Nat) (ids ts:List Nat) (hs_:List (Nat×Hint)) (pv:Value) {f:FuncId} {args:List AT} {os:List Obj} {env1:List (Nat×AT)} {os1:Objs} {O:List Prop}
    (he:ZnH P GL C N l hs_ n ids ts st=some (f,args,os,env1,os1,O)) (hC:ZaU P GL C) (hO:All O) (hnd:ids.Nodup) (hp:ZjY P GL pv f args os)
    (h:∀psl:List (List PV),psl.length=ids.length→F (.panic (ZdR pv)) ⟨env1,ZaH os1 ids (ZaV psl)⟩) :
    WA P GL N (.region id l.toArray false) st F:=fun D w0 I0 G0 os0 w I G a h1 h2 h3 h4=>by
  unfold ZnH at he
  split at he
  · rename_i st1 O' o hev ho
    split at he
    · rename_i f' xs tys hw hop
      split at he
      · rename_i args' os' hfn hargs hos h100
        cases he
        have hn:=(List.getElem?_eq_some_iff.1 ho).1
        have hl:l=l.take n ++ (o :: l.drop (n+1)):=by
          have h2:=(List.getElem?_eq_some_iff.1 ho).2
          rw [←h2,←List.drop_eq_getElem_cons hn,List.take_append_drop]
        refine wp_region_list ?_
        have key:=ZdO (N:=N) (hs_:=hs_) hC (o :: l.drop (n+1)) (l.take n) 0 st st1 O w I G a (Post GL N D w0 I0 G0 os0 F) hev hO h3 h4 fun w' I' G' a' e k s fr=>?_
        · rw [←hl] at key;exact key
        · have hw':=Zbx fr hw
          unfold wpList
          rw [hw']
          simp only [if_true]
          refine .inl ?_
          obtain ⟨az,ha1,ha2⟩:=bind_some hargs
          obtain ⟨zs,hz1,hz2⟩:=bind_some hos
          obtain ⟨ho1,ho2⟩:=ZdS hz2
          have ho':Eqs (Zar ids os) (ZS st1.os ids):=⟨zs,ho1,hz1⟩
          obtain ⟨yl,yg⟩:=Zbi hz1
          have hlen:ids.length=os.length:=by omega
          obtain ⟨hin,hshc⟩:=ZfZ ho'
          have hGc:∀(p k:Nat),ids[p]?=some k→(fun k=>(ids[k]?).bind G') p=G' k:=fun p k h=>by simp [h]
          have hsc:=s.ren ho' hnd hlen
          have hargs2:=Zfn hGc hshc (Zhk ha2) (Zkq s fr ha1)
          have hcall:=hp w' I' (fun k=>(ids[k]?).bind G') (xs.map a'.eval) hsc hargs2
          obtain ⟨fn,hfn1,hfb⟩:=map_some hfn
          simp only [Prod.mk.injEq] at hfb
          obtain ⟨dst,op,ty,pos,after,guard⟩:=o
          simp only at hop;subst hop
          unfold Oper.wp
          have hbody:fn.body.isNone=false:=by rw [←Option.not_isSome,hfb.1];rfl
          have hrun:(execOp a'.eval { dst,op:=.call ⟨.value (.func f),⟨xs⟩,tys⟩,type:=ty,pos,after,guard }).run P w' = .ok (.enter f (xs.map a'.eval).toArray) w':=by
            have hname:¬fn.name = "runtime.NumGoroutine":=by simpa using hfb.2
            have hbn:¬fn.body=none:=fun e=>by rw [e] at hbody;cases hbody
            simp [execOp,resolve,Act.eval,Deferred.ofValue,invoke,callFunc,hfn1]
            rw [if_neg hname,if_neg hbn]
          rw [hrun,Oper.upon_enter]
          refine Calls.imp hcall ?_
          rintro e' w2 ⟨I2,G1,psl,rfl,hpl,p1,p2,p3⟩
          have hbl:(ZaV psl).length=psl.length:=by simp [ZaV]
          obtain ⟨G2,q1,q2,q3,q4,q5⟩:=ZiX (new:=[]) (os':=ZaV psl) (rs:=ZaV psl) (os2:=ZaH st1.os ids (ZaV psl)) s ho' hnd hlen (by rw [hbl,hpl,hlen];exact Nat.le_refl _) (Nat.le_of_ble_eq_true h100) (Zec _ _)
            (by rw [List.take_of_length_le (by rw [hbl,hpl,hlen];exact Nat.le_refl _),List.drop_of_length_le (by rw [hbl,hpl,hlen];exact Nat.le_refl _)];rfl) p1 p2 p3
          exact ⟨I2,G2,_,(h1.trans e).trans q3,(h2.trans k).trans q5.keeps,q4,⟨fr.size,fr.defers,fun t x hx=>⟨(fr.slot t x (ZU hx)).1,q5.env t x _ (ZU hx) (fr.slot t x (ZU hx)).2⟩⟩,h psl (by rw [hpl,hlen])⟩
      · cases he
    · cases he
  · cases he
end Go.AL
end
section
namespace Go.AL
variable {D:List Deferred}
variable {P:Program} {GL:List (Nat×List PV)} {C:Spec} {st:S} {N:Nat} {F:Exit→S→Prop}
def Zlg (P:Program) (GL:List (Nat×List PV)) (C:Spec) (N:Nat) (l:List Oper) (ts:List Nat) (st:S):Option (TypeId×List (Nat×AT)×Objs×List Prop):=
  match l with
  | [o0,o1,o2]=>match Z3 P GL C N [o0,o1,o2] [] 0 [o0] st,o1.op,o1.dst,o1.guard,o2.op,o2.guard with
    | some (st1,O),.makeInterface t (.tmp d0),some d1,none,.panic (.tmp d2),none=>match look st1.env d0,P.concrete t,Nat.beq d1 d2,Nat.blt d1 N with
      | some (.val true []),true,true,true=>match ts.all fun t=>!Nat.beq t d1 with
        | true=>some (t,Zl st1.env ts,st1.os,O)
        | false=>none
      | _,_,_,_=>none
    | _,_,_,_,_,_=>none
  | _=>none
theorem WA.bad {id:Nat} {l:List Oper} (ts:List Nat) {t:TypeId} {env1:List (Nat×AT)} {os1:Objs} {O:List Prop} (he:Zlg P GL C N l ts st=some (t,env1,os1,O)) (hC:ZaU P GL C) (hO:All O)
    (h:F (.panic (ZdR (.iface t (.agg #[])))) ⟨env1,os1⟩):WA P GL N (.region id l.toArray false) st F:=fun D w0 I0 G0 os0 w I G a h1 h2 h3 h4=>by
  unfold Zlg at he
  split at he
  · rename_i o0 o1 o2
    split at he
    · rename_i s1 O' t' d0 d1 d2 hev hop1 hd1 hg1 hop2 hg2
      split at he
      · rename_i hl hcc hdd hlt
        split at he
        case h_2=>cases he
        rename_i hts
        cases he
        have hdd:=Nat.eq_of_beq_eq_true hdd
        subst hdd
        have hlt:d1<N:=Nat.le_of_ble_eq_true hlt
        refine wp_region_list ?_
        refine ZdO (N:=N) (hs_:=[]) hC [o1,o2] [o0] 0 st s1 O w I G a (Post GL N D w0 I0 G0 os0 F) hev hO h3 h4 fun w' I' G' a' e k s fr=>?_
        obtain ⟨vs,hv,hvs⟩:=(fr.slot d0 _ hl).2
        have hvs0:vs=[]:=by
          have h':CSr w' I' G' (shape s1.os) [] vs:=hvs
          cases vs with
          | nil=>rfl
          | cons v vs=>exact absurd h' (by simp [CSr])
        subst hvs0
        obtain ⟨dst1,op1,ty1,pos1,af1,gd1⟩:=o1
        obtain ⟨dst2,op2,ty2,pos2,af2,gd2⟩:=o2
        simp only at hop1 hd1 hg1 hop2 hg2
        subst hop1;subst hd1;subst hg1;subst hop2;subst hg2
        unfold wpList
        rw [show ∀y,Region.wanted ⟨some d1,.makeInterface t (.tmp d0),ty1,pos1,af1,none⟩ y=true from fun _=>rfl]
        simp only [if_true]
        refine .inl ?_
        unfold Oper.wp
        have hr1:(execOp a'.eval ⟨some d1,.makeInterface t (.tmp d0),ty1,pos1,af1,none⟩).run P w' = .ok (.value (.iface t (.agg #[]))) w':=by
          have:a'.eval (.tmp d0) = .agg #[]:=hv
          simp [execOp,this,run_makeInterface _ _ _ hcc]
        rw [hr1]
        show wpList P _ _ _ (a'.put (some d1) (.iface t (.agg #[]))) w'
        unfold wpList
        rw [show ∀y,Region.wanted ⟨dst2,.panic (.tmp d1),ty2,pos2,af2,none⟩ y=true from fun _=>rfl]
        simp only [if_true]
        refine .inl ?_
        unfold Oper.wp
        have hr2:(execOp (a'.put (some d1) (.iface t (.agg #[]))).eval ⟨dst2,.panic (.tmp d1),ty2,pos2,af2,none⟩).run P w' = .halt (.panic (.iface t (.agg #[]))) w':=by
          have:(a'.put (some d1) (.iface t (.agg #[]))).eval (.tmp d1) = .iface t (.agg #[]):=by
            show (a'.tmps.setIfInBounds d1 _).getD d1 undef=_
            rw [Array.getD_eq_getD_getElem?,Array.getElem?_setIfInBounds_self_of_lt (by rw [fr.size];exact hlt)];rfl
          simp [execOp,this,Instr.panic,goPanic]
        rw [hr2,Oper.upon_panic]
        refine ⟨I',G',⟨Zl s1.env ts,s1.os⟩,h1.trans e,h2.trans k,s,⟨?_,?_,fun u x hx=>?_⟩,h⟩
        · simp [Act.put,fr.size]
        · simp [Act.put,fr.defers]
        · have hmem:∀{l:List Nat},look (Zl s1.env l) u=some x→u∈l:=by
            intro l
            induction l with
            | nil=>intro h;cases h
            | cons q l ih=>
              intro h
              simp only [Zl] at h
              split at h
              · rw [Zz] at h
                split at h
                · subst_vars;simp
                · exact List.mem_cons_of_mem _ (ih h)
              · exact List.mem_cons_of_mem _ (ih h)
          have hne:u≠d1:=fun e=>by
            have:=List.all_eq_true.1 hts u (hmem hx)
            rw [e,Nat.beq_refl] at this;cases this
          have hp:(a'.put (some d1) (.iface t (.agg #[]))).tmps.getD u undef=a'.tmps.getD u undef:=by
            show (a'.tmps.setIfInBounds d1 _).getD u undef=_
            rw [Array.getD_eq_getD_getElem?,Array.getElem?_setIfInBounds_ne (Ne.symm hne),←Array.getD_eq_getD_getElem?]
          rw [hp]
          exact fr.slot u x (ZU hx)
      · cases he
    · cases he
  · cases he
def OutP (P:Program) (pv:Value) (rv:List ResultVar) (outs:List Nat) (m:Nat):Option (AT×List Obj)→Exit→S→Prop
  | some (res,os'),e,s=>Out P rv outs m res os' e s
  | none,.panic ch,s=>ch=ZdR pv∧∃psl,ZS s.os (List.range m)=some (ZaV psl)∧psl.length=m
  | none,_,_=>False
theorem Zbk {f:FuncId} {fn:Func} {code:Code} {args:List AT} {os:List Obj} {pv:Value} {o:Option (AT×List Obj)} (outs:List Nat) (hf:P.funcs[f]?=some fn) (hb:fn.body=some code) (hn:Nat.ble args.length fn.ntmps=true)
    (hm:Nat.ble os.length 100=true) (h:WA P GL fn.ntmps code ⟨numA 0 args,ZC os⟩ (OutP P pv fn.results.toList outs os.length o)):SimP P GL pv f args os o:=by
  cases o with
  | some r=>exact ZB outs hf hb hn hm h
  | none=>
    have hn:=Nat.le_of_ble_eq_true hn
    have hm:=Nat.le_of_ble_eq_true hm
    intro w I G vs hs ha
    obtain ⟨hal,hag⟩:=ha.get
    refine calls_of_wp hf hb (wp_mono (h [] w I G (ZC os) w I G _ (.refl _ _ _) (.refl _ _ _ _ _) hs ?_) ?_)
    · refine ⟨by simp [hal];omega,rfl,fun t x hx=>?_⟩
      simp only [ZfQ,Nat.zero_le,if_true,Nat.sub_zero] at hx
      obtain ⟨v,hv,hr⟩:=hag t x hx
      have hlt:=(List.getElem?_eq_some_iff.1 hx).1
      refine ⟨by omega,?_⟩
      rw [Array.getD_eq_getD_getElem?,Array.getElem?_append_left (by simp [hal];omega)]
      simp only [List.getElem?_toArray,hv];exact hr
    · rintro e a' w' ⟨I',G',s,q1,q2,q3,q4,q5⟩
      cases e with
      | panic ch=>
        obtain ⟨rfl,psl,r1,r2⟩:=q5
        have hEq:Eqs (Zar (List.range os.length) (ZaV psl)) (ZS s.os (List.range os.length)):=⟨_,Zec _ _,r1⟩
        have hbl:(ZaV psl).length=psl.length:=by simp [ZaV]
        obtain ⟨hin,hsh⟩:=ZfZ hEq
        have hnd:(List.range os.length).Nodup:=List.nodup_range
        have hG:∀(p k:Nat),(List.range os.length)[p]?=some k→(fun k=>((List.range os.length)[k]?).bind G') p=G' k:=fun p k h=>by simp [h]
        refine ⟨q4.defers,I',fun k=>((List.range os.length)[k]?).bind G',psl,rfl,r2,?_,q3.ren hEq hnd (by simp [hbl,r2]),?_⟩
        · refine ⟨q1.size,q1.os,q1.tape,q1.output,q1.keep,q1.imm,q1.inew,fun b hb=>?_⟩
          obtain ⟨p,o,h1,h2⟩:=hb
          rw [ZH] at h1
          cases hk:(List.range os.length)[p]? with
          | none=>simp [hk] at h2
          | some k=>
            obtain ⟨_,o',_,_,h3⟩:=hin p k hk
            exact q1.mnew b ⟨k,o',h3,by simpa [hk] using h2⟩
        · refine ⟨q2.heap,q2.imm,fun p s' m hp hsp=>?_⟩
          have hp':p<os.length:=hp
          have hk:(List.range os.length)[p]?=some p:=List.getElem?_range hp'
          rw [hsh p p hk] at hsp
          obtain ⟨m0,e1,e2,e3⟩:=q2.objs p s' m (by show p<100;omega) hsp
          refine ⟨m0,e1,e2,fun e=>?_⟩
          have:=e3 e
          simpa [hk] using this
      | normal=>exact q5.elim
      | ret=>exact q5.elim
      | exit _=>exact q5.elim
      | goto _=>exact q5.elim
      | outgrown=>exact q5.elim
def orP {α β:Type} (o:Option (Option α)) (f:α→Option (Option β)):Option (Option β):=o.bind fun y=>match y with
  | none=>some none
  | some z=>f z
theorem Z7 {α β:Type} {o:Option (Option α)} {f:α→Option (Option β)} {r:Option β} (h:orP o f=some r):(o=some none∧r=none)∨∃z,o=some (some z)∧f z=some r:=by
  unfold orP at h
  cases o with
  | none=>cases h
  | some y=>
    cases y with
    | none=>cases h;exact .inl ⟨rfl,rfl⟩
    | some z=>exact .inr ⟨z,rfl,h⟩
theorem ZV {α:Type} {l:List α} (h:l.length=1):∃x,l=[x]:=by
  match l,h with
  | [x],_=>exact ⟨x,rfl⟩
end Go.AL
end
section
namespace Go.AL
variable {D:List Deferred}
variable {P:Program} {GL:List (Nat×List PV)} {C:Spec} {st:S} {N:Nat} {F:Exit→S→Prop}
theorem WA.nilTest {id:Nat} {d1 d2 x t e ty1 ty2 ty3:Nat} {p1 p2:String} {a1 a2:Array Edge} {els:List (List PV)} (ho:look st.env x=some (one (.sl els))) (hu:P.underlying t=some (.slice e)) (hd1:Nat.blt d1 N=true) (hd2:Nat.blt d2 N=true)
    (h:∀b:Bool,(b=true→els=[])→F .normal ⟨(d2,one (.bool b)) :: (d1,one (.sl els)) :: st.env,st.os⟩) :
    WA P GL N (.region id (List.toArray [⟨some d1,.move (.tmp x),ty1,p1,a1,none⟩,⟨some d2,.binOp .eql t (.tmp d1) (.const (.slice none 0 0)) ty3,ty2,p2,a2,none⟩]) false) st F:=fun D w0 I0 G0 os0 w I G a h1 h2 h3 h4=>by
  refine wp_region_list ?_
  have hev:Z3 P GL (Sim P GL) N [⟨some d1,.move (.tmp x),ty1,p1,a1,none⟩,⟨some d2,.binOp .eql t (.tmp d1) (.const (.slice none 0 0)) ty3,ty2,p2,a2,none⟩] [] 0 [⟨some d1,.move (.tmp x),ty1,p1,a1,none⟩] st=some (⟨(d1,one (.sl els)) :: st.env,st.os⟩,[]):=by
    simp [Z3,Zaj,ZdV,hd1,ZX,Zv,look,opd,ho,putE]
  refine ZdO (N:=N) (hs_:=[]) (sound P GL) [_] [_] 0 st _ [] w I G a (Post GL N D w0 I0 G0 os0 F) hev trivial h3 h4 fun w' I' G' a' ee k s fr=>?_
  have hl:look ((d1,one (.sl els)) :: st.env) d1=some (one (.sl els)):=by simp [Zz]
  have hv:PVr w' I' (.sl els) (a'.tmps.getD d1 undef):=ZD (fr.slot d1 _ hl).2
  obtain ⟨A,l,c,hval,hnil⟩:∃A l c,a'.tmps.getD d1 undef = .slice A l c∧(A.isNone=true→els=[]):=by
    generalize a'.tmps.getD d1 undef=v at hv
    cases hv with
    | sl0 A c=>exact ⟨A,0,c,rfl,fun _=>rfl⟩
    | sl els b o c s' vals hI hc hss hm hr'=>exact ⟨_,_,_,rfl,fun h=>by cases h⟩
  unfold wpList
  rw [show ∀y,Region.wanted ⟨some d2,.binOp .eql t (.tmp d1) (.const (.slice none 0 0)) ty3,ty2,p2,a2,none⟩ y=true from fun _=>rfl]
  simp only [if_true]
  refine .inl ?_
  unfold Oper.wp
  have hr:(execOp a'.eval ⟨some d2,.binOp .eql t (.tmp d1) (.const (.slice none 0 0)) ty3,ty2,p2,a2,none⟩).run P w' = .ok (.value (.bool A.isNone)) w':=by
    have h5:a'.eval (.tmp d1) = .slice A l c:=hval
    have h6:a'.eval (.const (.slice none 0 0)) = .slice none 0 0:=rfl
    simp [execOp,h5,h6,eqGuard,binOp,run_equal_slice_nil w' t e A l c hu]
  rw [hr]
  show Post GL N D w0 I0 G0 os0 F .normal (a'.put (some d2) (.bool A.isNone)) w'
  have hd2':ZdV N (⟨some d2,.binOp .eql t (.tmp d1) (.const (.slice none 0 0)) ty3,ty2,p2,a2,none⟩:Oper)=true:=hd2
  have hx:ATr w' I' G' (shape st.os) (one (.bool A.isNone)) (.bool A.isNone):=⟨_,rfl,.bool _⟩
  exact ⟨I',G',⟨(d2,one (.bool A.isNone)) :: (d1,one (.sl els)) :: st.env,st.os⟩,h1.trans ee,h2.trans k,s,ZfP (o:=⟨some d2,.binOp .eql t (.tmp d1) (.const (.slice none 0 0)) ty3,ty2,p2,a2,none⟩) (st:=⟨(d1,one (.sl els)) :: st.env,st.os⟩) (os':=st.os) fr hd2' (fun _ _ _ _ h=>h) hx,h A.isNone hnil⟩
end Go.AL
end
section
namespace Go.Proofs.YthilboheomikjaaGreatDoor
open Go.AL Go.RowKit
set_option maxRecDepth 100000
def F102 (k:Nat) (l:List Zb):Option (List Zb):=if l.length≤1073741824 then some l else none
theorem ZnO (k:Nat) (v0:List Zb) (r:List Zb) (hF:F102 k v0=some r):Sim Tryz.prog GL0 102 [one (.sl (v0.map Za))] [] (.val false [.arr 0 r.length]) [.arr 2 (r.map Za)]:=by
  obtain ⟨hl,hF⟩:=Zo hF
  obtain rfl:=Option.some.inj hF
  refine ZB [900] Tryz.func102 rfl (by kernel_rfl) (by kernel_rfl) ?_
  show WA _ _ 8 _ _ _
  refine WA.seq ?_
  refine WA.reg [0] [] [] (env':=[(0,one (.sl (v0.map Za)))]) (os':=[]) (O:=[]) (by kernel_rfl) (sound _ _) trivial ?_
  refine WA.seq ?_
  refine WA.seq ?_
  refine WA.nilTest (e:=60) (els:=v0.map Za) rfl (by kernel_rfl) (by kernel_rfl) (by kernel_rfl) fun b hb=>?_
  refine WA.cond (b:=b) rfl (fun hb'=>?_) (fun hb'=>?_)
  · have h0:v0=[]:=List.map_eq_nil_iff.1 (hb hb')
    subst h0
    refine WA.seq ?_
    refine WA.reg [2] [900] [(0,.obj 900)] (env':=[(2,.val false [.arr 900 0])]) (os':=[(900,.arr 2 [])]) (O:=[]) (by kernel_rfl) (sound _ _) trivial ?_
    refine WA.ret ?_
    exact Zp (.val false [.arr 900 0]) [.arr 2 []] (by kernel_rfl) (by kernel_rfl) (by kernel_rfl) (by kernel_rfl) (by decide) rfl rfl
  · refine WA.skip ?_
    refine WA.seq ?_
    refine WA.regM (α:=Nat×List (List PV)) (raw:=(0+(v0.map Za).length,[] ++ v0.map Za)) (can:=(v0.length,v0.map Za)) (fun m_=>([(2,.val false [.arr 900 m_.1])],[(900,.arr 2 m_.2)],[0=([]:List (List PV)).length,([]:List (List PV)).length+(v0.map Za).length≤1073741824,∀es,es∈v0.map Za→es.length=2]))
      (ZE (by simp) (by simp)) [2] [900] [(0,.obj 900)] (env':=[(2,.val false [.arr 900 v0.length])]) (os':=[(900,.arr 2 (v0.map Za))]) (O:=[0=([]:List (List PV)).length,([]:List (List PV)).length+(v0.map Za).length≤1073741824,∀es,es∈v0.map Za→es.length=2]) (by kernel_rfl) (by kernel_rfl) (sound _ _) ⟨rfl,by simpa using hl,ZN v0,trivial⟩ ?_
    refine WA.ret ?_
    exact Zp (.val false [.arr 900 v0.length]) [.arr 2 (v0.map Za)] (by kernel_rfl) (by kernel_rfl) (by kernel_rfl) (by kernel_rfl) (by decide) rfl rfl
end Go.Proofs.YthilboheomikjaaGreatDoor
end
section
namespace Go.Proofs
open Go.Shelf
def Tryz.lays125_ren:Go.Shelf.Ren:=⟨fun | 125=>112 | 128=>133 | 129=>134 | n=>n,fun | 46=>37 | 3=>3 | 51=>170 | 53=>159 | 4=>4 | 5=>5 | 9=>9 | n=>n,fun | n=>n⟩
theorem Tryz.lays125:Go.Proofs.Lays.n125 Tryz.prog Tryz.lays125_ren:={
  mixed:=by kernel_rfl
  f125:=Tryz.func112.trans (congrArg some (by kernel_rfl))
  f128:=Tryz.func133.trans (congrArg some (by kernel_rfl))
  f129:=Tryz.func134.trans (congrArg some (by kernel_rfl))
  t3:=Tryz.underlying3
  a3:=Tryz.isAgg3
  z3:=Tryz.sizeOf3
  v3:=Tryz.zeroValue3
  t4:=Tryz.underlying4
  a4:=Tryz.isAgg4
  z4:=Tryz.sizeOf4
  v4:=Tryz.zeroValue4
  t5:=Tryz.underlying5
  a5:=Tryz.isAgg5
  z5:=Tryz.sizeOf5
  v5:=Tryz.zeroValue5
  t9:=Tryz.underlying9
  a9:=Tryz.isAgg9
  z9:=Tryz.sizeOf9
  v9:=Tryz.zeroValue9
  t46:=Tryz.underlying37
  a46:=Tryz.isAgg37
  z46:=Tryz.sizeOf37
  v46:=Tryz.zeroValue37
  t51:=Tryz.underlying170
  a51:=Tryz.isAgg170
  z51:=Tryz.sizeOf170
  v51:=Tryz.zeroValue170
  t53:=Tryz.underlying159
  a53:=Tryz.isAgg159
  z53:=Tryz.sizeOf159
  v53:=Tryz.zeroValue159 }
end Go.Proofs
end
section
namespace Go.Proofs.YthilboheomikjaaGreatDoor
open Go.AL Go.RowKit
def F112 (k:Nat) (n:Int):Option Int:=if 0≤n∧n<18446744073709551616 then some (Lib.bitLen n.toNat:Nat) else none
theorem ZkW (k:Nat) (v0:Int) (r:Int) (hF:F112 k v0=some r):Sim Tryz.prog GL0 112 [one (.int .u64 v0)] [] (one (.int .i64 r)) []:=by
  obtain ⟨hl,hF⟩:=Zo hF
  obtain rfl:=Option.some.inj hF
  refine Zbw fun w I G vs hs ha=>?_
  obtain ⟨vs,rfl,hb⟩:=Zj1 ha;clear ha;have ha:=hb;clear hb
  obtain rfl:=ZdG ha
  refine Calls.imp (Any.bits_Len Tryz.lays125 v0 w (by omega) (by omega)) ?_
  rintro e w' ⟨rfl,rfl⟩
  exact ⟨_,rfl,fun _ _ _ _=>⟨_,rfl,.int _ _⟩,.refl _ _⟩
end Go.Proofs.YthilboheomikjaaGreatDoor
end
