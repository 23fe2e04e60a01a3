/- N11, N12, N13, N14, N15, V1, V2, V3, V4, V5, V6, V7, V8, G21, Q16 -/
import Derived.Test.YthilboheomikjaaGreatDoorMRRexPrints5
set_option linter.unusedVariables false
set_option linter.unusedSimpArgs false
section
namespace Go.Proofs.YthilboheomikjaaGreatDoor
open Go.AL Go.Lib
set_option maxRecDepth 100000
theorem Zg0 (k:Nat):F143 k=some ptsR:=rfl
theorem ZgH {self8:List Zb→Int→Option (List Zb)} {v0 v1:List Zb} {i:Nat} {x:Zb} (hx:v0[i]?=some x) (h1:v1.length≤1000) (h0:v0.length≤1048576):∀(l acc:List Zb) (j m:Nat),v1.drop j=l→acc.length+l.length≤1073741824→l.length<m→j≤v1.length→
    ZbX self8 v0 v1 (i:Int) m acc (j:Int)=self8 (acc ++ l.flatMap (cutR x)) (w64 ((i:Int)+1))
  | [],acc,j,m,hd,ha,hm,hj=>by
    obtain ⟨m,rfl⟩:∃q,m=q+1:=⟨m-1,by simp at hm;omega⟩
    have:=ZP hd
    show Zct _ _ _ _ _ _ _=_
    unfold Zct
    rw [df (by omega),zf_,List.flatMap_nil,List.append_nil]
  | y :: l,acc,j,m,hd,ha,hm,hj=>by
    obtain ⟨m,rfl⟩:∃q,m=q+1:=⟨m-1,by omega⟩
    obtain ⟨g1,g2,g3⟩:=ZA hd
    rw [List.length_cons] at ha hm
    show Zct self8 (ZbX self8 v0 v1 (i:Int) m) v0 v1 (i:Int) acc (j:Int)=_
    unfold Zct
    have ex:idxL v0 (i:Int)=some x:=by rw [Zx];exact hx
    have ey:idxL v1 (j:Int)=some y:=by rw [Zx];exact g2
    rw [dt (by omega),zt_,ex,zb_,ey,zb_,zb_,zb_,List.flatMap_cons]
    unfold Zfs
    rw [ZR (by omega)]
    by_cases hc:mx x.f_Lo y.f_Lo≤mn x.f_Hi y.f_Hi
    · have ec:cutR x y=[⟨mx x.f_Lo y.f_Lo,mn x.f_Hi y.f_Hi⟩]:=if_pos hc
      rw [dt hc,zt_,if_pos (by simp;omega),ZgH hx h1 h0 l _ (j+1) m g3 (by simp;omega) (by omega) (by omega),ec,List.append_assoc]
    · have ec:cutR x y=[]:=if_neg hc
      rw [df hc,zf_,ZgH hx h1 h0 l _ (j+1) m g3 (by omega) (by omega) (by omega),ec,List.nil_append]
theorem Zjx {k:Nat} {v0 v1:List Zb} (h1:v1.length≤1000) (hk:v1.length<k) (h0:v0.length≤1048576):∀(l acc:List Zb) (i m:Nat),v0.drop i=l→acc.length+l.length*v1.length≤1073741824→l.length<m→i≤v0.length→
    ZbG k v0 v1 m acc (i:Int)=some (acc ++ ZaE l v1)
  | [],acc,i,m,hd,ha,hm,hi=>by
    obtain ⟨m,rfl⟩:∃q,m=q+1:=⟨m-1,by simp at hm;omega⟩
    have:=ZP hd
    show Zdm _ _ _ _ _ _=_
    unfold Zdm
    rw [df (by omega),zf_]
    show _=some (acc ++ [])
    rw [List.append_nil]
  | x :: l,acc,i,m,hd,ha,hm,hi=>by
    obtain ⟨m,rfl⟩:∃q,m=q+1:=⟨m-1,by omega⟩
    obtain ⟨g1,g2,g3⟩:=ZA hd
    rw [List.length_cons] at ha hm
    rw [Nat.add_mul,Nat.one_mul] at ha
    have hrl:=Zhx x v1
    show Zdm k (ZbG k v0 v1 m) v0 v1 acc (i:Int)=_
    unfold Zdm
    rw [dt (by omega),zt_]
    have e:=ZgH (self8:=ZbG k v0 v1 m) (x:=x) g2 h1 h0 v1 acc 0 k rfl (by omega) hk (Nat.zero_le _)
    have e':ZbX (ZbG k v0 v1 m) v0 v1 (i:Int) k acc 0=ZbG k v0 v1 m (acc ++ v1.flatMap (cutR x)) (w64 ((i:Int)+1)):=e
    rw [e',ZR (by omega),Zjx h1 hk h0 l _ (i+1) m g3 (by rw [List.length_append];omega) (by omega) (by omega),List.append_assoc]
    rfl
theorem Zkm {c:Int}:∀{l1 l2:List Zb} {b:Int},Z7 b l1→(∀r∈l1,r.f_Hi+2≤c)→Z7 c l2→b≤c→Z7 b (l1 ++ l2)
  | [],l2,b,_,_,h2,hbc=>h2.mono hbc
  | r :: l1,l2,b,⟨h1,h3,h4⟩,hr,h2,hbc=>⟨h1,h3,Zkm h4 (fun x hx=>hr x (List.mem_cons_of_mem _ hx)) h2 (hr r List.mem_cons_self)⟩
theorem Zks {x y:Zb}:Z7 x.f_Lo (cutR x y)∧∀r∈cutR x y,r.f_Hi≤x.f_Hi∧r.f_Hi≤y.f_Hi∧y.f_Lo≤r.f_Lo:=by
  have h2:=Zhr.1 (Int.le_refl (mx x.f_Lo y.f_Lo))
  have h3:=Zji.1 (Int.le_refl (mn x.f_Hi y.f_Hi))
  unfold cutR
  split
  · rename_i h
    refine ⟨⟨h2.1,h,trivial⟩,fun r hr=>?_⟩
    obtain rfl:=List.mem_singleton.1 hr
    exact ⟨h3.1,h3.2,h2.2⟩
  · exact ⟨trivial,fun r hr=>by cases hr⟩
theorem ZhQ:∀{l:List Zb} {b:Int},Z7 b l→Z7 b (ZaE l ptsR)
  | [],_,_=>trivial
  | x :: l,b,⟨h1,h2,h3⟩=>by
    have ih:=ZhQ h3
    have e:ZaE (x :: l) ptsR=(cutR x ⟨0,55295⟩ ++ (cutR x ⟨57344,1114111⟩ ++ [])) ++ ZaE l ptsR:=rfl
    rw [e,List.append_nil]
    obtain ⟨a1,a2⟩:=Zks (x:=x) (y:=⟨0,55295⟩)
    obtain ⟨b1,b2⟩:=Zks (x:=x) (y:=⟨57344,1114111⟩)
    refine Zkm (c:=x.f_Hi+2) ?_ (fun r hr=>?_) ih (by omega)
    ·
      unfold cutR at a1 a2 b1 b2 ⊢
      simp only at a1 a2 b1 b2 ⊢
      split
      · rename_i c1
        rw [if_pos c1] at a1 a2
        have q:=a2 _ List.mem_cons_self
        simp only at q
        split
        · rename_i c2
          rw [if_pos c2] at b1 b2
          have q2:=b2 _ List.mem_cons_self
          simp only at q2
          have m1:=Zhr.1 (Int.le_refl (mx x.f_Lo 0))
          have h9:x.f_Lo≤mx x.f_Lo 0:=a1.1
          exact ⟨by show b≤mx x.f_Lo 0;omega,c1,⟨by show mn x.f_Hi 55295+2≤mx x.f_Lo 57344;omega,c2,trivial⟩⟩
        · have h9:x.f_Lo≤mx x.f_Lo 0:=a1.1
          exact ⟨by show b≤mx x.f_Lo 0;omega,c1,trivial⟩
      · split
        · rename_i c2
          rw [if_pos c2] at b1
          have h9:x.f_Lo≤mx x.f_Lo 57344:=b1.1
          exact ⟨by show b≤mx x.f_Lo 57344;omega,c2,trivial⟩
        · trivial
    · rcases List.mem_append.1 hr with hr | hr
      · have:=(a2 r hr).1;omega
      · have:=(b2 r hr).1;omega
theorem Zmt {k:Nat} {a:List Zb} (ha:a.length≤100000) (hk:a.length+3≤k) (hap:Z7 0 a):F190 k a ptsR=some (ZaE a ptsR)∧Zaj (ZaE a ptsR)∧(∀c,inR (ZaE a ptsR) c↔inR a c∧ZC c)∧(ZaE a ptsR).length≤2*a.length:=by
  have h2:ptsR.length=2:=rfl
  have hl:=ZgG ptsR a
  rw [h2] at hl
  have e:F190 k a ptsR=some ([] ++ ZaE a ptsR):=Zjx (k:=k) (v0:=a) (v1:=ptsR) (by rw [h2];omega) (by rw [h2];omega) (by omega) a [] 0 k rfl (by rw [h2];simp;omega) (by omega) (Nat.zero_le _)
  rw [List.nil_append] at e
  have ei:∀c,inR (ZaE a ptsR) c↔inR a c∧ZC c:=fun c=>by rw [Zms,Zjr]
  exact ⟨e,⟨ZhQ hap,fun c hc=>((ei c).1 hc).2⟩,ei,by omega⟩
theorem Zi6:∀(l:List Zb) (b:Int),Z7 b l→Bd l→Z7 b (comp b l)
  | [],b,_,_=>by
    unfold comp
    split
    · rename_i h;exact ⟨Int.le_refl _,h,trivial⟩
    · trivial
  | r :: l,b,⟨h1,h2,h3⟩,hb=>by
    have ih:=Zi6 l (r.f_Hi+1) (h3.mono (by omega)) fun x hx=>hb x (List.mem_cons_of_mem _ hx)
    unfold comp
    split
    · rename_i h
      exact ⟨Int.le_refl _,by simp only;omega,ih.mono (by simp only;omega)⟩
    · exact ih.mono (by omega)
theorem ZgI {k:Nat} {y:List Zb} (hy:y.length≤100000) (hb:Bd y):∀(l acc:List Zb) (b:Int) (i m:Nat),y.drop i=l→acc.length+l.length+1≤1073741824→l.length<m→i≤y.length→0≤b→b≤1114112→
    Zdl k y m acc b (i:Int)=F190 k (acc ++ comp b l) ptsR
  | [],acc,b,i,m,hd,ha,hm,hi,h0,h1=>by
    obtain ⟨m,rfl⟩:∃q,m=q+1:=⟨m-1,by simp at hm;omega⟩
    have:=ZP hd
    have fin:∀a,Zev k a=F190 k a ptsR:=fun a=>by
      unfold Zev
      rw [Zg0,zb_]
      cases F190 k a ptsR <;> rfl
    show Zdk _ _ _ _ _ _=_
    unfold Zdk
    rw [df (by omega),zf_]
    unfold comp
    by_cases hc:b≤1114111
    · rw [dt hc,zt_,if_pos (by simp at ha ⊢;omega),fin,if_pos hc]
    · rw [df hc,zf_,fin,if_neg hc,List.append_nil]
  | r :: l,acc,b,i,m,hd,ha,hm,hi,h0,h1=>by
    obtain ⟨m,rfl⟩:∃q,m=q+1:=⟨m-1,by omega⟩
    obtain ⟨g1,g2,g3⟩:=ZA hd
    rw [List.length_cons] at ha hm
    have hr:=hb r (List.mem_of_getElem? g2)
    have ex:idxL y (i:Int)=some r:=by rw [Zx];exact g2
    show Zdk k (Zdl k y m) y acc b (i:Int)=_
    unfold Zdk Zhe
    rw [dt (by omega),zt_]
    simp only [ex,zb_]
    rw [ZR (by omega),Zv (x:=r.f_Hi+1) (by omega) (by omega),Zv (x:=r.f_Lo-1) (by omega) (by omega)]
    conv=>rhs;unfold comp
    by_cases hc:b<r.f_Lo
    · rw [dt hc,zt_,if_pos (by simp;omega),ZgI hy hb l _ _ (i+1) m g3 (by simp;omega) (by omega) (by omega) (by omega) (by omega),if_pos hc,List.append_assoc]
    · rw [df hc,zf_,ZgI hy hb l _ _ (i+1) m g3 (by omega) (by omega) (by omega) (by omega) (by omega),if_neg hc,List.nil_append]
theorem Zrm {k:Nat} {l:List Zb} (hl:l.length≤50000) (hk:l.length+10≤k) (hb:Bd l) (ha:Z7 0 l):∃l',F175 k l=some l'∧Zaj l'∧(∀c,inR l' c↔ZC c∧¬inR l c):=by
  have hc:=ZhZ l 0
  obtain ⟨e1,c1,i1,n1⟩:=Zmt (k:=k) (a:=comp 0 l) (by omega) (by omega) (Zi6 l 0 ha hb)
  have e:F175 k l=F190 k ([] ++ comp 0 l) ptsR:=ZgI (k:=k) (by omega) hb l [] 0 0 k rfl (by simp;omega) (by omega) (Nat.zero_le _) (by omega) (by omega)
  rw [List.nil_append,e1] at e
  refine ⟨_,e,c1,fun c=>?_⟩
  rw [i1,Zj4 l 0 ha hb]
  exact ⟨fun h=>⟨h.2,h.1.2.2⟩,fun h=>⟨⟨h.1.1,h.1.2.1,h.2⟩,h.1⟩⟩
def Zae (x:Zb) (out:List Zb):Nat→Nat
  | 0=>0
  | j+1=>match out[j]? with
    | some y=>if y.f_Lo > x.f_Lo then Zae x out j else j+1
    | none=>j+1
theorem Zme (x:Zb) (out:List Zb):∀j,Zae x out j≤j
  | 0=>Nat.le_refl _
  | j+1=>by
    unfold Zae
    split
    · split
      · have:=Zme x out j;omega
      · exact Nat.le_refl _
    · exact Nat.le_refl _
def ins (x:Zb) (out:List Zb):List Zb:=out.take (Zae x out out.length) ++ [x] ++ out.drop (Zae x out out.length)
theorem ZlZ (x:Zb) (out:List Zb):List.Perm (ins x out) (x :: out):=by
  unfold ins
  have:=List.take_append_drop (Zae x out out.length) out
  conv=>rhs;rw [←this]
  rw [List.append_assoc]
  exact List.perm_middle
theorem Zic:∀{l1 l2:List Zb},Rise l1→Rise l2→(∀a∈l1,∀b∈l2,a.f_Lo≤b.f_Lo)→Rise (l1 ++ l2)
  | [],_,_,h2,_=>h2
  | x :: l1,l2,⟨h1,h3⟩,h2,h=>⟨fun y hy=>by
      rcases List.mem_append.1 hy with hy | hy
      · exact h1 y hy
      · exact h x List.mem_cons_self y hy,Zic h3 h2 fun a ha b hb=>h a (List.mem_cons_of_mem _ ha) b hb⟩
theorem ZkR:∀{l:List Zb} (n:Nat),Rise l→Rise (l.take n)
  | [],n,_=>by cases n <;> exact trivial
  | x :: l,0,_=>trivial
  | x :: l,n+1,⟨h1,h2⟩=>⟨fun y hy=>h1 y (List.mem_of_mem_take hy),ZkR n h2⟩
theorem ZkQ:∀{l:List Zb} (n:Nat),Rise l→Rise (l.drop n)
  | [],n,_=>by cases n <;> exact trivial
  | x :: l,0,h=>h
  | x :: l,n+1,⟨h1,h2⟩=>ZkQ n h2
theorem ZnA:∀{l:List Zb} {i j:Nat} {a b:Zb},Rise l→i≤j→l[i]?=some a→l[j]?=some b→a.f_Lo≤b.f_Lo
  | [],i,j,a,b,_,_,h,_=>by simp at h
  | x :: l,0,0,a,b,_,_,h1,h2=>by rw [h1] at h2;obtain rfl:=zj_ h2;exact Int.le_refl _
  | x :: l,0,j+1,a,b,⟨h,_⟩,_,h1,h2=>by
    simp at h1;subst h1
    exact h b (List.mem_of_getElem? (by simpa using h2))
  | x :: l,i+1,0,a,b,_,hij,_,_=>by omega
  | x :: l,i+1,j+1,a,b,⟨_,h⟩,hij,h1,h2=>ZnA (i:=i) (j:=j) h (by omega) (by rw [List.getElem?_cons_succ] at h1;exact h1) (by rw [List.getElem?_cons_succ] at h2;exact h2)
theorem Zjq {x:Zb} {out:List Zb} (hr:Rise out):∀j,j≤out.length→(∀i y,j≤i→out[i]?=some y→x.f_Lo≤y.f_Lo)→(∀i y,i<Zae x out j→out[i]?=some y→y.f_Lo≤x.f_Lo)∧(∀i y,Zae x out j≤i→out[i]?=some y→x.f_Lo≤y.f_Lo)
  | 0,_,h=>⟨fun i y hi=>by simp [Zae] at hi,fun i y _ hy=>h i y (Nat.zero_le _) hy⟩
  | j+1,hj,h=>by
    obtain ⟨z,hz⟩:∃z,out[j]?=some z:=⟨_,List.getElem?_eq_getElem (by omega)⟩
    unfold Zae
    rw [hz]
    simp only
    by_cases hc:z.f_Lo > x.f_Lo
    · rw [if_pos hc]
      exact Zjq hr j (by omega) fun i y hi hy=>by
        by_cases e:i=j
        · subst e;rw [hz] at hy;obtain rfl:=zj_ hy;omega
        · exact h i y (by omega) hy
    · rw [if_neg hc]
      exact ⟨fun i y hi hy=>by have:=ZnA hr (show i≤j by omega) hy hz;omega,h⟩
theorem ZpM {x:Zb} {out:List Zb} (hr:Rise out):Rise (ins x out):=by
  obtain ⟨h1,h2⟩:=Zjq (x:=x) hr out.length (Nat.le_refl _) (fun i y hi hy=>by rw [List.getElem?_eq_none hi] at hy;cases hy)
  have hle:=Zme x out out.length
  unfold ins
  have m1:∀a∈out.take (Zae x out out.length),a.f_Lo≤x.f_Lo:=fun a ha=>by
    obtain ⟨i,hi,rfl⟩:=List.mem_iff_getElem.1 ha
    rw [List.length_take] at hi
    refine h1 i _ (by omega) ?_
    rw [List.getElem_take];exact List.getElem?_eq_getElem _
  have m2:∀b∈out.drop (Zae x out out.length),x.f_Lo≤b.f_Lo:=fun b hb=>by
    obtain ⟨i,hi,rfl⟩:=List.mem_iff_getElem.1 hb
    rw [List.getElem_drop]
    exact h2 (Zae x out out.length+i) _ (by omega) (List.getElem?_eq_getElem _)
  refine Zic (Zic (ZkR _ hr) ⟨(fun y hy=>by cases hy),trivial⟩ fun a ha b hb=>?_) (ZkQ _ hr) fun a ha b hb=>?_
  · simp at hb;subst hb;exact m1 a ha
  · rcases List.mem_append.1 ha with ha | ha
    · have:=m1 a ha;have:=m2 b hb;omega
    · simp at ha;subst ha;exact m2 b hb
theorem Zjp {self8:List Zb→Int→Option (List Zb)} {v0 out:List Zb} {i:Nat} {x:Zb} (hx:v0[i]?=some x) (h0:v0.length≤100000) (ho:out.length≤100000):∀(j m:Nat),j≤out.length→j<m→Zae x out j=Zae x out out.length→
    ZbW self8 v0 out (i:Int) m (j:Int)=self8 (ins x out) ((i+1:Nat):Int)
  | j,0,_,hm,_=>by omega
  | 0,m+1,hj,hm,hp=>by
    show Zcs self8 (ZbW self8 v0 out (i:Int) m) v0 out (i:Int) ((0:Nat):Int)=_
    have ex:idxL v0 (i:Int)=some x:=by rw [Zx];exact hx
    have hi:=(List.getElem?_eq_some_iff.1 hx).1
    unfold Zcs Zdy
    rw [df (by omega),zf_,zf_,if_pos ⟨by omega,by omega,by omega⟩,if_pos (by simp),ex,zb_,if_pos (by simp),if_pos ⟨by omega,by omega,by omega⟩,if_pos (by simp;omega),ZR (by omega)]
    unfold ins
    rw [←hp]
    simp [Zae]
  | j+1,m+1,hj,hm,hp=>by
    show Zcs self8 (ZbW self8 v0 out (i:Int) m) v0 out (i:Int) ((j+1:Nat):Int)=_
    have ex:idxL v0 (i:Int)=some x:=by rw [Zx];exact hx
    have hi:=(List.getElem?_eq_some_iff.1 hx).1
    obtain ⟨z,hz⟩:∃z,out[j]?=some z:=⟨_,List.getElem?_eq_getElem (by omega)⟩
    have ez:idxL out (w64 (((j+1:Nat):Int)-1))=some z:=by rw [Zv (by omega) (by omega),show ((j+1:Nat):Int)-1=(j:Int) by omega,Zx];exact hz
    have hpj:Zae x out (j+1)=if z.f_Lo > x.f_Lo then Zae x out j else j+1:=by
      conv=>lhs;unfold Zae
      rw [hz]
    unfold Zcs Zdy
    rw [dt (by omega),zt_,ez,zb_,ex,zb_]
    by_cases hc:z.f_Lo > x.f_Lo
    · rw [if_pos hc] at hpj
      rw [dt hc,zt_,Zv (by omega) (by omega),show ((j+1:Nat):Int)-1=(j:Int) by omega]
      exact Zjp hx h0 ho j m (by omega) (by omega) (by rw [←hpj];exact hp)
    · rw [if_neg hc] at hpj
      rw [df hc,zf_,if_pos ⟨by omega,by omega,by omega⟩,if_pos (by simp;omega),zb_,if_pos (by simp;omega),if_pos ⟨by omega,by omega,by omega⟩,if_pos (by simp;omega),ZR (by omega)]
      unfold ins
      rw [←hp,hpj]
      simp
def Zd7:List Zb→List Zb→List Zb
  | out,[]=>out
  | out,x :: l=>Zd7 (ins x out) l
theorem ZjE:∀(l out:List Zb),List.Perm (Zd7 out l) (out ++ l)
  | [],out=>by rw [List.append_nil];exact List.Perm.refl _
  | x :: l,out=>by
    refine (ZjE l (ins x out)).trans ?_
    exact ((ZlZ x out).append_right l).trans List.perm_middle.symm
theorem ZjF:∀(l out:List Zb),Rise out→Rise (Zd7 out l)
  | [],out,h=>h
  | x :: l,out,h=>ZjF l _ (ZpM h)
theorem Zei {k:Nat} {y:List Zb} (hy:y.length≤100000):∀(l acc:List Zb) (p:Zb) (i m:Nat),y.drop i=l→acc.length+1+l.length≤1073741824→l.length<m→i≤y.length→
    Zbs k y m (acc ++ [p]) (i:Int)=F190 k (acc ++ mrg p l) ptsR
  | [],acc,p,i,m,hd,ha,hm,hi=>by
    obtain ⟨m,rfl⟩:∃q,m=q+1:=⟨m-1,by simp at hm;omega⟩
    have:=ZP hd
    show ZaX _ _ _ _ _=_
    unfold ZaX
    rw [df (by omega),zf_,Zg0,zb_]
    show _=F190 k (acc ++ [p]) ptsR
    cases F190 k (acc ++ [p]) ptsR <;> rfl
  | r :: l,acc,p,i,m,hd,ha,hm,hi=>by
    obtain ⟨m,rfl⟩:∃q,m=q+1:=⟨m-1,by omega⟩
    obtain ⟨h1,h2,h3⟩:=ZA hd
    rw [List.length_cons] at ha hm
    have hl:(acc ++ [p]).length=acc.length+1:=by simp
    have ew:w64 (((acc ++ [p]).length:Int)-1)=(acc.length:Int):=by rw [hl,Zv (by omega) (by omega)];omega
    have el:idxL (acc ++ [p]) (acc.length:Int)=some p:=by rw [Zx];simp
    have er:idxL y (i:Int)=some r:=by rw [Zx];exact h2
    show ZaX k (Zbs k y m) y _ _=_
    unfold ZaX
    rw [dt (by omega),zt_,dt (by omega),zt_,er,zb_,ew,if_pos ⟨by omega,by omega⟩,el,zb_]
    unfold Zdz ZdA
    rw [ew,er,ZR (by omega)]
    by_cases hc:r.f_Lo≤w64 (p.f_Hi+1)
    · rw [dt hc,zt_,if_pos ⟨by omega,by omega⟩,el,zb_,zb_,if_pos ⟨by omega,by omega⟩,zb_]
      have es:(acc ++ [p]).set (Int.toNat (acc.length:Int)) { p with f_Hi:=mx p.f_Hi r.f_Hi } = acc ++ [{ p with f_Hi:=mx p.f_Hi r.f_Hi }]:=by
        rw [Int.toNat_natCast,List.set_append_right (h:=Nat.le_refl _),Nat.sub_self];rfl
      rw [es,Zei hy l acc _ (i+1) m h3 (by omega) (by omega) (by omega)]
      conv=>rhs;unfold mrg
      rw [if_pos hc]
    · rw [df hc,zf_,zb_,if_pos (by rw [hl];simp;omega),Zei hy l (acc ++ [p]) r (i+1) m h3 (by rw [hl];omega) (by omega) (by omega)]
      conv=>rhs;unfold mrg
      rw [if_neg hc,List.append_assoc]
      rfl
theorem Zn3 {k m:Nat} {y:List Zb} (hy:y.length≤100000) (hm:y.length<m):Zbs k y m [] 0=F190 k (mrgs y) ptsR:=by
  obtain ⟨m,rfl⟩:∃q,m=q+1:=⟨m-1,by omega⟩
  cases y with
  | nil=>
    show ZaX _ _ _ _ _=_
    unfold ZaX
    rw [df (by simp),zf_,Zg0,zb_]
    show _=F190 k [] ptsR
    cases F190 k [] ptsR <;> rfl
  | cons r l=>
    rw [List.length_cons] at hy hm
    show ZaX k (Zbs k (r :: l) m) (r :: l) _ _=_
    unfold ZaX
    rw [dt (by simp),zt_,df (by simp),zf_]
    unfold Zdz ZdA
    rw [zf_,Zk7,zb_,if_pos (by simp)]
    have e1:w64 ((0:Int)+1)=((1:Nat):Int):=by rw [Zv (by omega) (by omega)];rfl
    rw [e1]
    have:=Zei (k:=k) (y:=r :: l) (by rw [List.length_cons];exact hy) l [] r 1 m rfl (by simp;omega) (by omega) (by simp)
    rw [List.nil_append] at this ⊢
    exact this
theorem ZkV {k:Nat} {v0:List Zb} (h0:v0.length≤50000) (hk:v0.length+2<k):∀(l out:List Zb) (i m:Nat),v0.drop i=l→out.length+l.length≤v0.length→l.length<m→i≤v0.length→
    Zdj k v0 m out (i:Int)=F190 k (mrgs (Zd7 out l)) ptsR
  | [],out,i,m,hd,ha,hm,hi=>by
    obtain ⟨m,rfl⟩:∃q,m=q+1:=⟨m-1,by simp at hm;omega⟩
    have:=ZP hd
    show Zdi _ _ _ _ _=_
    unfold Zdi
    rw [df (by omega),zf_]
    rw [List.length_nil] at ha
    exact Zn3 (by omega) (by omega)
  | x :: l,out,i,m,hd,ha,hm,hi=>by
    obtain ⟨m,rfl⟩:∃q,m=q+1:=⟨m-1,by omega⟩
    obtain ⟨g1,g2,g3⟩:=ZA hd
    rw [List.length_cons] at ha hm
    show Zdi k (Zdj k v0 m) v0 out (i:Int)=_
    unfold Zdi
    rw [dt (by omega),zt_,Zjp g2 (by omega) (by omega) out.length k (Nat.le_refl _) (by omega) rfl,ZkV h0 hk l (ins x out) (i+1) m g3 (by rw [(ZlZ x out).length_eq,List.length_cons];omega) (by omega) (by omega)]
    rfl
theorem ZoA {k:Nat} {l:List Zb} (hl:l.length≤50000) (hk:l.length+10≤k) (hb:Bd l):∃l',F174 k l=some l'∧Zaj l'∧(∀c,inR l' c↔inR l c∧ZC c)∧l'.length≤2*l.length:=by
  have hp:List.Perm (Zd7 [] l) l:=ZjE l []
  obtain ⟨h1,h2,h3⟩:=Zjk (ZjF l [] trivial) (hb.perm hp)
  have hm:=Zh6 (Zd7 [] l)
  have hpl:=hp.length_eq
  obtain ⟨e1,c1,i1,n1⟩:=Zmt (k:=k) (a:=mrgs (Zd7 [] l)) (by omega) (by omega) h1
  have e:F174 k l=F190 k (mrgs (Zd7 [] l)) ptsR:=ZkV hl (by omega) l [] 0 k rfl (by simp) (by omega) (Nat.zero_le _)
  exact ⟨_,by rw [e,e1],c1,fun c=>by rw [i1,h2,ZlY hp],by omega⟩
end Go.Proofs.YthilboheomikjaaGreatDoor
end
section
namespace Go.Proofs.YthilboheomikjaaGreatDoor
open Go.AL Go.Lib
set_option maxRecDepth 100000
def mk16:List UInt8:=[92,46,91,93,40,41,123,125,42,43,63,124,94,36,45,47]
def esc (b:UInt8):Option Int:=if b=100 then some (-1) else if b=110 then some 10 else if b=116 then some 9 else if mk16.contains b then some (b.toNat:Int) else none
def rgv (v:Int):Zb:=if v = -1 then ⟨48,57⟩ else ⟨v,v⟩
theorem Zq5:((List.range 256).all fun n=>decide (UInt8.ofNat n=100) || decide (UInt8.ofNat n=110) || decide (UInt8.ofNat n=116) || (if mk16.contains (UInt8.ofNat n) then decide (n≤126) && decide (n≠0) && decide (0≤indexByte mk16 (UInt8.ofNat n)) && (mk16.any fun x=>(x.toNat:Int) == (n:Int)) else decide (indexByte mk16 (UInt8.ofNat n)<0) && !(mk16.any fun x=>(x.toNat:Int) == (n:Int))))=true:=by kernel_rfl
theorem Zgi (b:UInt8):(b=100∧esc b=some (-1))∨(b=110∧esc b=some 10)∨(b=116∧esc b=some 9)∨
    ((b.toNat≠100∧b.toNat≠110∧b.toNat≠116)∧((b.toNat≤126∧b.toNat≠0∧0≤indexByte mk16 b∧(mk16.any fun x=>(x.toNat:Int) == (b.toNat:Int))=true∧esc b=some (b.toNat:Int))∨(indexByte mk16 b<0∧(mk16.any fun x=>(x.toNat:Int) == (b.toNat:Int))=false∧esc b=none))):=by
  by_cases h1:b=100
  · exact .inl ⟨h1,by subst h1;rfl⟩
  by_cases h2:b=110
  · exact .inr (.inl ⟨h2,by subst h2;rfl⟩)
  by_cases h3:b=116
  · exact .inr (.inr (.inl ⟨h3,by subst h3;rfl⟩))
  have h:=List.all_eq_true.1 Zq5 b.toNat (List.mem_range.2 b.toNat_lt)
  simp only [UInt8.ofNat_toNat] at h
  rw [df h1,df h2,df h3,Bool.false_or,Bool.false_or,Bool.false_or] at h
  have n1:b.toNat≠100:=fun c=>h1 (UInt8.toNat_inj.1 c)
  have n2:b.toNat≠110:=fun c=>h2 (UInt8.toNat_inj.1 c)
  have n3:b.toNat≠116:=fun c=>h3 (UInt8.toNat_inj.1 c)
  refine .inr (.inr (.inr ⟨⟨n1,n2,n3⟩,?_⟩))
  unfold esc
  rw [if_neg h1,if_neg h2,if_neg h3]
  by_cases hc:mk16.contains b=true
  · rw [if_pos hc] at h ⊢
    simp only [Bool.and_eq_true,decide_eq_true_eq] at h
    exact .inl ⟨h.1.1.1,h.1.1.2,h.1.2,h.2,rfl⟩
  · rw [if_neg hc] at h ⊢
    simp only [Bool.and_eq_true,decide_eq_true_eq,Bool.not_eq_true'] at h
    exact .inr ⟨h.1,h.2,rfl⟩
theorem ZmI {k p:Nat} {s:List UInt8} {b o:Bool} (hk:20≤k) (hs:s.length≤1000000) (h:s[p]?=some 92) :
    (∃c v,s[p+1]?=some c∧esc c=some v∧F173 k (rx s p b o)=some (v,rx s (p+1+1) b o))∨((∀c,s[p+1]?=some c→esc c=none)∧F173 k (rx s p b o)=some (0,rx s (p+1+1) true o)):=by
  have hp:=(List.getElem?_eq_some_iff.1 h).1
  have ep:∀c:Bool,({ rx s (p+1) c o with f_I:=w64 ((rx s (p+1) c o).f_I+1) }:Zf)=rx s (p+1+1) c o:=fun c=>by
    have:w64 (((p+1:Nat):Int)+1)=((p+1+1:Nat):Int):=ZR (by omega)
    show ({ f_S:=s,f_I:=w64 (((p+1:Nat):Int)+1),f_Bad:=c,f_Long:=o }:Zf)=_
    rw [this];rfl
  have ew:w64 ((rx s (p+1) b o).f_I+1)=((p+1+1:Nat):Int):=ZR (by omega)
  unfold F173 Zhd
  rw [Znz (c:=92) hs h rfl,zb_]
  simp only [Bool.not_true,zf_]
  rw [Zav,zb_,ep]
  by_cases hl:p+1<s.length
  · obtain ⟨c,hc⟩:∃c,s[p+1]?=some c:=⟨_,List.getElem?_eq_getElem hl⟩
    rw [ZaQ hc]
    rcases Zgi c with ⟨e0,e⟩ | ⟨e0,e⟩ | ⟨e0,e⟩ | ⟨⟨n1,n2,n3⟩,⟨h1,h2,h3,h4,e⟩ | ⟨h1,h4,e⟩⟩
    · subst e0;exact .inl ⟨_,_,hc,e,rfl⟩
    · subst e0;exact .inl ⟨_,_,hc,e,rfl⟩
    · subst e0;exact .inl ⟨_,_,hc,e,rfl⟩
    · refine .inl ⟨_,_,hc,e,?_⟩
      unfold mk16 at h4
      rw [ZF (by omega),zf_,ZF (by omega),zf_,ZF (by omega),zf_,show ((c.toNat:Int) != 0)=true by simp;omega,zt_,Zcv (by simp) (by simp;omega),zb_,h4,zt_,Zv (by omega) (by omega)]
    · refine .inr ⟨fun c' hc'=>by rw [hc] at hc';obtain rfl:=zj_ hc';exact e,?_⟩
      unfold mk16 at h4
      rw [ZF (by omega),zf_,ZF (by omega),zf_,ZF (by omega),zf_]
      cases (c.toNat:Int) != 0
      · simp only [zf_]
        rw [ew];rfl
      · rw [zt_,Zcv (by simp) (by simp;omega),zb_,h4,zf_,ew];rfl
  · rw [Zht (by omega)]
    refine .inr ⟨(fun c hc=>by rw [List.getElem?_eq_none (by omega)] at hc;cases hc),?_⟩
    simp only [show ((0:Int) == 100)=false from rfl,show ((0:Int) == 110)=false from rfl,show ((0:Int) == 116)=false from rfl,show ((0:Int) != 0)=false from rfl,zf_]
    rw [ew];rfl
end Go.Proofs.YthilboheomikjaaGreatDoor
end
section
namespace Go.Proofs.YthilboheomikjaaGreatDoor
open Go.AL Go.Lib
set_option maxRecDepth 100000
def clsT (k:Nat) (self4:Zf→List Zb→Option (Zd×Zf)) (y101:Bool×Zf) (v138:List Zb) (y141:Int×Zf):Option (Zd×Zf):=
  cond (y141.1 == (-1)) (if v138.length+([(⟨48,57⟩:Zb)]:List Zb).length≤1073741824 then (ZbZ k self4 y101 y141.2 (v138 ++ ([(⟨48,57⟩:Zb)]:List Zb))) else none) ((F74 k y141.2 45).bind fun y144=>(cond y144.1 ((F173 k y144.2).bind fun y146=>((cond (decide (y146.1<y141.1)) ((ZbB k self4 y101 v138 y141 ({ y146.2 with f_Bad:=true }:Zf) y146.1)) ((ZbB k self4 y101 v138 y141 y146.2 y146.1))))) ((ZbB k self4 y101 v138 y141 y144.2 y141.1))))
theorem Zsi {k q:Nat} {s:List UInt8} {o:Bool} {self4:Zf→List Zb→Option (Zd×Zf)} {y:Bool×Zf} {acc:List Zb}:Zg1 k self4 y (rx s q false o) acc=(F173 k (rx s q false o)).bind fun y141=>clsT k self4 y acc y141:=rfl
theorem Zqp {k:Nat} {self4:Zf→List Zb→Option (Zd×Zf)} {y:Bool×Zf} {acc:List Zb} {z:Int×Zf} {r:Zf} {v:Int} (ha:acc.length≤1000000):ZbB k self4 y acc z r v=ZbZ k self4 y r (acc ++ [⟨z.1,v⟩]):=by
  unfold ZbB
  rw [if_pos (by simp;omega)]
end Go.Proofs.YthilboheomikjaaGreatDoor
end
section
namespace Go.Proofs.YthilboheomikjaaGreatDoor
open Go.AL Go.Lib
set_option maxRecDepth 100000
def Zk6 (k:Nat) (y114:Bool×Zf):Option (Zd×Zf):=
  (F100 k y114.2).bind fun y116=>cond (y116 == 100) (some ((⟨1,([(⟨48,57⟩:Zb)]:List Zb),([]:List Zd),0,0⟩:Zd),({ y114.2 with f_I:=(w64 (y114.2.f_I+1)) }:Zf))) (cond (y116 == 110) ((F145 k 10).bind fun y119=>(some (y119,({ y114.2 with f_I:=(w64 (y114.2.f_I+1)) }:Zf))))
    (cond (y116 == 116) ((F145 k 9).bind fun y121=>(some (y121,({ y114.2 with f_I:=(w64 (y114.2.f_I+1)) }:Zf)))) (cond (y116 != 0) ((F146 k ([92,46,91,93,40,41,123,125,42,43,63,124,94,36,45,47]:List UInt8) y116).bind fun y123=>(Zc3 k y114 y116 y123)) (Zc3 k y114 y116 false))))
theorem Zr0 {k q:Nat} {s:List UInt8} {o:Bool} (hk:5≤k) (hs:s.length≤1000000) (hq:q≤s.length+1):∃x r,ZbY k (rx s q true o)=some (x,r)∧BadR s r:=by
  obtain ⟨c,r,e,hr⟩:=Zn4 (k:=k) (o:=o) hk hs hq
  unfold ZbY
  rw [e]
  exact ⟨_,_,rfl,hr⟩
theorem ZpA {k q:Nat} {s:List UInt8} {o:Bool} (hk:20≤k) (hs:s.length≤1000000) (hq:q≤s.length) :
    (∃c v,s[q]?=some c∧esc c=some v∧Zk6 k (true,rx s q false o)=some (⟨1,[rgv v],[],0,0⟩,rx s (q+1) false o))∨((∀c,s[q]?=some c→esc c=none)∧∃x r,Zk6 k (true,rx s q false o)=some (x,r)∧BadR s r):=by
  have ew:w64 ((rx s q false o).f_I+1)=((q+1:Nat):Int):=ZR (by omega)
  have ep:({ rx s q false o with f_I:=w64 ((rx s q false o).f_I+1) }:Zf)=rx s (q+1) false o:=by rw [ew];rfl
  have eb:({ ({ rx s q false o with f_I:=w64 ((rx s q false o).f_I+1) }:Zf) with f_Bad:=true }:Zf)=rx s (q+1) true o:=by rw [ew];rfl
  unfold Zk6 Zc3
  simp only
  rw [Zav,zb_]
  have hbad:∃x r,ZbY k (rx s (q+1) true o)=some (x,r)∧BadR s r:=Zr0 (by omega) hs (by omega)
  by_cases hl:q<s.length
  · obtain ⟨c,hc⟩:∃c,s[q]?=some c:=⟨_,List.getElem?_eq_getElem hl⟩
    rw [ZaQ hc]
    rcases Zgi c with ⟨e0,e⟩ | ⟨e0,e⟩ | ⟨e0,e⟩ | ⟨⟨n1,n2,n3⟩,⟨h1,h2,h3,h4,e⟩ | ⟨h1,h4,e⟩⟩
    · subst e0
      refine .inl ⟨_,_,hc,e,?_⟩
      show some (_,({ rx s q false o with f_I:=w64 ((rx s q false o).f_I+1) }:Zf))=_
      rw [ep];rfl
    · subst e0
      refine .inl ⟨_,_,hc,e,?_⟩
      show some (_,({ rx s q false o with f_I:=w64 ((rx s q false o).f_I+1) }:Zf))=_
      rw [ep];rfl
    · subst e0
      refine .inl ⟨_,_,hc,e,?_⟩
      show some (_,({ rx s q false o with f_I:=w64 ((rx s q false o).f_I+1) }:Zf))=_
      rw [ep];rfl
    · refine .inl ⟨_,_,hc,e,?_⟩
      unfold mk16 at h4
      rw [ZF (by omega),zf_,ZF (by omega),zf_,ZF (by omega),zf_,show ((c.toNat:Int) != 0)=true by simp;omega,zt_,Zcv (by simp) (by simp;omega),zb_,h4,zt_,Zv (x:=(c.toNat:Int)) (by omega) (by omega)]
      have er:rgv (c.toNat:Int)=⟨(c.toNat:Int),(c.toNat:Int)⟩:=by unfold rgv;rw [if_neg (by omega)]
      rw [er,ep];rfl
    · refine .inr ⟨fun c' hc'=>by rw [hc] at hc';obtain rfl:=zj_ hc';exact e,?_⟩
      unfold mk16 at h4
      rw [ZF (by omega),zf_,ZF (by omega),zf_,ZF (by omega),zf_,eb]
      cases (c.toNat:Int) != 0
      · rw [zf_,zf_];exact hbad
      · rw [zt_,Zcv (by simp) (by simp;omega),zb_,h4,zf_];exact hbad
  · rw [Zht (by omega),eb]
    exact .inr ⟨(fun c hc=>by rw [List.getElem?_eq_none (by omega)] at hc;cases hc),hbad⟩
end Go.Proofs.YthilboheomikjaaGreatDoor
end
section
namespace Go.Proofs.YthilboheomikjaaGreatDoor
open Go.AL Go.Lib
set_option maxRecDepth 100000
theorem Znh (l:List Zd) (x:Zd):fsL (l ++ [x])=max (fsL l) (fs x):=by
  induction l with
  | nil=>simp [fsL]
  | cons y l ih=>simp only [List.cons_append,fsL,ih];omega
def Zgz (k:Nat) (y101:Zd×Zf):Option (Zd×Zf):=
  (F74 k y101.2 42).bind fun y102=>cond y102.1 (some ((⟨4,([]:List Zb),([y101.1]:List Zd),0,(-1)⟩:Zd),y102.2)) ((F74 k y102.2 43).bind fun y104=>cond y104.1 (some ((⟨4,([]:List Zb),([y101.1]:List Zd),1,(-1)⟩:Zd),y104.2)) ((F74 k y104.2 63).bind fun y106=>cond y106.1 (some ((⟨4,([]:List Zb),([y101.1]:List Zd),0,1⟩:Zd),y106.2)) ((F74 k y106.2 123).bind fun y108=>cond y108.1 ((F120 k y108.2 y101.1).bind fun y110=>(some (y110.1,y110.2))) (some (y101.1,y108.2)))))
def Inv (acc:List Zd) (n:Nat):Prop:=acc.length≤n+1∧((∃x,acc=[x]∧fs x≤20*n+100)∨(2≤acc.length∧fsL acc≤20*n+80))
theorem Inv.add {acc:List Zd} {x:Zd} {n d:Nat} (h:Inv acc n) (hd:1≤d) (hx:fs x≤20*(n+d)+80):Inv (acc ++ [x]) (n+d):=by
  obtain ⟨h1,h2⟩:=h
  refine ⟨by simp;omega,.inr ?_⟩
  rcases h2 with ⟨y,rfl,hy⟩ | ⟨h2,h3⟩
  · exact ⟨by simp,by rw [Znh];simp only [fsL];omega⟩
  · exact ⟨by simp;omega,by rw [Znh];omega⟩
theorem Zi8 {R:Zd→Option Int} {v:Zd} (hl:v.f_L.length≤1048576) (hd1:∀x∈v.f_L,R x=some (dp x:Int)) (hb:dpL v.f_L≤1048576):∀(l:List Zd) (c i m:Nat),v.f_L.drop i=l→l.length<m→i≤v.f_L.length→c≤1048576→ZcI R v m (c:Int) (i:Int)=some ((max c (dpL l)+1:Nat):Int)
  | [],c,i,m,hd,hm,hi,hc=>by
    obtain ⟨m,rfl⟩:∃q,m=q+1:=⟨m-1,by simp at hm;omega⟩
    have:=ZP hd
    show ZeO _ _ _ _ _=_
    unfold ZeO
    rw [df (by omega),zf_,ZR (by omega)]
    simp [dpL]
  | x :: l,c,i,m,hd,hm,hi,hc=>by
    obtain ⟨m,rfl⟩:∃q,m=q+1:=⟨m-1,by omega⟩
    obtain ⟨g1,g2,g3⟩:=ZA hd
    rw [List.length_cons] at hm
    have hx:=List.mem_of_getElem? g2
    have hxb:=Zbw.1 hb x hx
    show ZeO R (ZcI R v m) v (c:Int) (i:Int)=_
    unfold ZeO
    have em:mx (c:Int) (dp x:Int)=((max c (dp x):Nat):Int):=by unfold mx;split <;> omega
    rw [dt (by omega),zt_,Zx,g2,zb_,hd1 x hx,zb_,ZR (by omega),em,Zi8 hl hd1 hb l _ (i+1) m g3 (by omega) (by omega) (by omega)]
    simp only [dpL]
    rw [Nat.max_assoc]
theorem Zqk:∀r:Zd,dp r≤fs r:=by
  intro r
  have h:∀n (r:Zd),fs r≤n→dp r≤fs r:=by
    intro n
    induction n with
    | zero=>intro ⟨k,st,l,a,b⟩ h;simp only [fs] at h;omega
    | succ n ih=>
      intro ⟨k,st,l,a,b⟩ h
      simp only [fs,dp] at h ⊢
      have:dpL l≤fsL l:=Zbw.2 fun x hx=>by
        have:=ZaP hx
        have:=ih x (by omega)
        omega
      omega
  exact h (fs r) r (Nat.le_refl _)
theorem ZlM:∀(k:Nat) (r:Zd),k≤1048576→fs r≤k→F50 k r=some (dp r:Int)
  | 0,⟨kd,st,l,a,b⟩,_,hf=>by simp only [fs] at hf;omega
  | k+1,⟨kd,st,l,a,b⟩,hk,hf=>by
    have hdp:=Zqk ⟨kd,st,l,a,b⟩
    simp only [fs] at hf
    simp only [fs,dp] at hdp
    have e:=Zi8 (R:=F50 k) (v:=⟨kd,st,l,a,b⟩) (by show l.length≤_;omega) (fun x hx=>ZlM k x (by omega) (by have:=ZaP (show x∈l from hx);omega)) (by show dpL l≤_;omega) l 0 0 k rfl (by omega) (Nat.zero_le _) (by omega)
    show ZcI (F50 k) ⟨kd,st,l,a,b⟩ k 0 0=_
    have e':ZcI (F50 k) ⟨kd,st,l,a,b⟩ k 0 0=_:=e
    rw [e']
    simp only [dp]
    congr 2
    omega
theorem Zi7 {R:Zd→Int→Option Int} {n c:Nat} {v:Zd} (hl:v.f_L.length≤1048576) (hn:n≤16) (hc:c≤16) (hR:∀x∈v.f_L,∃t,R x ((n+1:Nat):Int)=some t∧(t≤c↔n+1+dp x≤c+1)) :
    ∀(l:List Zd) (z:Int) (i m:Nat),v.f_L.drop i=l→l.length<m→i≤v.f_L.length→∃t,ZcF R v (n:Int) m z (i:Int)=some t∧(t≤c↔z≤c∧∀x∈l,n+1+dp x≤c+1)
  | [],z,i,m,hd,hm,hi=>by
    obtain ⟨m,rfl⟩:∃q,m=q+1:=⟨m-1,by simp at hm;omega⟩
    have:=ZP hd
    refine ⟨z,?_,by simp⟩
    show ZbL _ _ _ _ _ _=_
    unfold ZbL
    rw [df (by omega),zf_]
  | x :: l,z,i,m,hd,hm,hi=>by
    obtain ⟨m,rfl⟩:∃q,m=q+1:=⟨m-1,by omega⟩
    obtain ⟨g1,g2,g3⟩:=ZA hd
    rw [List.length_cons] at hm
    obtain ⟨t1,e1,p1⟩:=hR x (List.mem_of_getElem? g2)
    obtain ⟨t2,e2,p2⟩:=Zi7 hl hn hc hR l (mx z t1) (i+1) m g3 (by omega) (by omega)
    refine ⟨t2,?_,by rw [p2,Zhr,List.forall_mem_cons,p1,and_assoc]⟩
    show ZbL R (ZcF R v (n:Int) m) v (n:Int) z (i:Int)=_
    unfold ZbL
    rw [dt (by omega),zt_,Zx,g2,zb_,ZR (by omega),e1,zb_,ZR (by omega),e2]
theorem ZlL {c:Nat} (hc:c≤16):∀(k:Nat) (r:Zd) (n:Nat),k≤1048576→fs r≤k→n≤17→∃t,F42 k r (n:Int)=some t∧(t≤c↔n+dp r≤c+1)
  | 0,⟨kd,st,l,a,b⟩,n,_,hf,_=>by simp only [fs] at hf;omega
  | k+1,⟨kd,st,l,a,b⟩,n,hk,hf,hn=>by
    simp only [fs] at hf
    show ∃t,Zhg (F42 k) k ⟨kd,st,l,a,b⟩ (n:Int)=_∧_
    unfold Zhg
    by_cases h17:n=17
    · subst h17
      exact ⟨17,rfl,by have:=Zi9 ⟨kd,st,l,a,b⟩;omega⟩
    · rw [df (by omega),zf_]
      obtain ⟨t,e,p⟩:=Zi7 (R:=F42 k) (n:=n) (c:=c) (v:=⟨kd,st,l,a,b⟩) (by show l.length≤_;omega) (by omega) hc (fun x hx=>ZlL hc k x (n+1) (by omega) (by have:=ZaP (show x∈l from hx);omega) (by omega)) l (n:Int) 0 k rfl (by omega) (Nat.zero_le _)
      refine ⟨t,e,p.trans ?_⟩
      simp only [dp]
      constructor
      · rintro ⟨h1,h⟩
        have:dpL l≤c-n:=Zbw.2 fun x hx=>by have:=h x hx;omega
        omega
      · intro h
        exact ⟨by omega,fun x hx=>by have:=Zbw.1 (Nat.le_refl (dpL l)) x hx;omega⟩
end Go.Proofs.YthilboheomikjaaGreatDoor
end
section
namespace Go.Proofs.YthilboheomikjaaGreatDoor
open Go.AL Go.Lib
set_option maxRecDepth 100000
def en (c:Int):List UInt8:=(Utf8.encode c).data.toList
def mkd (c:Int):Bool:=mk16.any fun b=>(b.toNat:Int) == c
def ptS (c:Int):List UInt8:=if c=10 then [92,110] else if c=9 then [92,116] else if mkd c then 92 :: en c else en c
theorem dN2 {n m b2 b3:Nat} (hn:2≤n) (h1:128≤m) (h2:m<2048):decodeN n (192+m / 64) (128+m % 64) b2 b3=(m,2):=by
  unfold decodeN
  rw [if_neg (by omega),if_pos ⟨by omega,by omega,by omega⟩,if_pos (by omega)]
  congr 1;omega
theorem dN3 {n m b3:Nat} (hn:3≤n) (h1:2048≤m) (h2:m<65536) (h3:m<55296∨57343<m):decodeN n (224+m / 4096) (128+m / 64 % 64) (128+m % 64) b3=(m,3):=by
  unfold decodeN
  rw [if_neg (by omega),if_neg (by omega),if_pos ⟨by omega,⟨by omega,by omega⟩,by omega,by omega⟩,if_pos (by omega)]
  congr 1;omega
theorem dN4 {n m:Nat} (hn:4≤n) (h1:65536≤m) (h2:m≤1114111):decodeN n (240+m / 262144) (128+m / 4096 % 64) (128+m / 64 % 64) (128+m % 64)=(m,4):=by
  unfold decodeN
  rw [if_neg (by omega),if_neg (by omega),if_neg (by omega),if_pos ⟨by omega,⟨by omega,by omega⟩,⟨by omega,by omega⟩,by omega,by omega⟩,if_pos (by omega)]
  congr 1;omega
theorem Zch {c:Int} (hc:ZC c):decodeL (en c)=(c.toNat,(en c).length)∧(c<128→en c=[UInt8.ofNat c.toNat])∧(128≤c→2≤(en c).length∧∃x t,en c=x :: t∧128≤x.toNat)∧(en c).length≤4:=by
  obtain ⟨m,rfl⟩:∃m:Nat,c=(m:Int):=⟨c.toNat,by have:=hc.1;omega⟩
  unfold en
  have hp:=hc
  unfold ZC at hp
  rw [ZrW hc,Int.toNat_natCast,decodeL_N]
  by_cases h1:m<128
  · rw [if_pos h1]
    have e0:(UInt8.ofNat m).toNat=m:=by rw [UInt8.toNat_ofNat'];omega
    simp only [List.length_cons,List.length_nil,List.getD_cons_zero,e0]
    refine ⟨?_,fun _=>trivial,fun h=>by omega,by omega⟩
    unfold decodeN
    rw [if_pos h1]
  rw [if_neg h1]
  by_cases h2:m<2048
  · rw [if_pos h2]
    have e0:(UInt8.ofNat (192+m / 64)).toNat=192+m / 64:=by rw [UInt8.toNat_ofNat'];omega
    have e1:(UInt8.ofNat (128+m % 64)).toNat=128+m % 64:=by rw [UInt8.toNat_ofNat'];omega
    simp only [List.length_cons,List.length_nil,List.getD_cons_zero,List.getD_cons_succ,e0,e1]
    exact ⟨dN2 (by omega) (by omega) h2,fun h=>by omega,fun _=>⟨by omega,_,_,rfl,by rw [e0];omega⟩,by omega⟩
  rw [if_neg h2]
  by_cases h3:m<65536
  · rw [if_pos h3]
    have e0:(UInt8.ofNat (224+m / 4096)).toNat=224+m / 4096:=by rw [UInt8.toNat_ofNat'];omega
    have e1:(UInt8.ofNat (128+m / 64 % 64)).toNat=128+m / 64 % 64:=by rw [UInt8.toNat_ofNat'];omega
    have e2:(UInt8.ofNat (128+m % 64)).toNat=128+m % 64:=by rw [UInt8.toNat_ofNat'];omega
    simp only [List.length_cons,List.length_nil,List.getD_cons_zero,List.getD_cons_succ,e0,e1,e2]
    exact ⟨dN3 (by omega) (by omega) h3 (by omega),fun h=>by omega,fun _=>⟨by omega,_,_,rfl,by rw [e0];omega⟩,by omega⟩
  · rw [if_neg h3]
    have e0:(UInt8.ofNat (240+m / 262144)).toNat=240+m / 262144:=by rw [UInt8.toNat_ofNat'];omega
    have e1:(UInt8.ofNat (128+m / 4096 % 64)).toNat=128+m / 4096 % 64:=by rw [UInt8.toNat_ofNat'];omega
    have e2:(UInt8.ofNat (128+m / 64 % 64)).toNat=128+m / 64 % 64:=by rw [UInt8.toNat_ofNat'];omega
    have e3:(UInt8.ofNat (128+m % 64)).toNat=128+m % 64:=by rw [UInt8.toNat_ofNat'];omega
    simp only [List.length_cons,List.length_nil,List.getD_cons_zero,List.getD_cons_succ,e0,e1,e2,e3]
    exact ⟨dN4 (by omega) (by omega) (by omega),fun h=>by omega,fun _=>⟨by omega,_,_,rfl,by rw [e0];omega⟩,by omega⟩
theorem ZoI {c:Int} (hc:ZC c):1≤(en c).length:=by
  obtain ⟨_,h1,h2,_⟩:=Zch hc
  by_cases h:c<128
  · rw [h1 h];simp
  · have:=(h2 (by omega)).1;omega
theorem Zql {c:Int} (hc:ZC c):en c≠[]:=fun h=>by have:=ZoI hc;rw [h] at this;simp at this
theorem Zj5 {c:Int} (hc:ZC c):¬bad (en c):=by
  obtain ⟨h0,h1,h2,_⟩:=Zch hc
  unfold bad
  rw [h0]
  rintro ⟨h3,h4⟩
  have hp:=hc.1
  have:128≤c:=by simp only at h3;omega
  have:=(h2 this).1
  simp only at h4;omega
theorem Znd {c:Int} (hc:ZC c) (u:List UInt8):decodeL (en c ++ u)=(c.toNat,(en c).length)∧¬bad (en c ++ u):=by
  have h:=ZhF u (Zql hc) (Zj5 hc)
  have h2:=Zj5 hc
  refine ⟨by rw [h,(Zch hc).1],?_⟩
  unfold bad at h2 ⊢
  rw [h];exact h2
theorem ZpI {c:Int} (hc:ZC c):validD (en c)=true:=by
  rw [ZcZ (Zql hc) (Zj5 hc),(Zch hc).1,List.drop_length]
  rfl
theorem Zr4:((List.range 128).all fun n=>Lib.contains mk16 [UInt8.ofNat n] == mk16.any fun b=>(b.toNat:Int) == (n:Int))=true:=by kernel_rfl
theorem Zqs {c:Int} (h:mkd c=true):36≤c∧c<126:=by
  unfold mkd mk16 at h
  simp only [List.any_cons,List.any_nil,Bool.or_false,Bool.or_eq_true,beq_iff_eq] at h
  have e:∀n:Nat,n<256→((UInt8.ofNat n).toNat:Int)=n:=fun n hn=>by rw [UInt8.toNat_ofNat'];omega
  have t:((92:UInt8).toNat:Int)=92∧((46:UInt8).toNat:Int)=46∧((91:UInt8).toNat:Int)=91∧((93:UInt8).toNat:Int)=93∧((40:UInt8).toNat:Int)=40∧((41:UInt8).toNat:Int)=41∧((123:UInt8).toNat:Int)=123∧((125:UInt8).toNat:Int)=125∧((42:UInt8).toNat:Int)=42∧((43:UInt8).toNat:Int)=43∧((63:UInt8).toNat:Int)=63∧((124:UInt8).toNat:Int)=124∧((94:UInt8).toNat:Int)=94∧((36:UInt8).toNat:Int)=36∧((45:UInt8).toNat:Int)=45∧((47:UInt8).toNat:Int)=47:=by decide
  omega
theorem ZmB {c:Int} (hc:ZC c):Lib.contains mk16 (en c)=mkd c:=by
  obtain ⟨_,h1,h2,_⟩:=Zch hc
  by_cases h:c<128
  · rw [h1 h]
    have hp:=hc.1
    have:=List.all_eq_true.1 Zr4 c.toNat (List.mem_range.2 (by omega))
    rw [beq_iff_eq] at this
    rw [this,Int.toNat_of_nonneg hp]
    rfl
  · have hm:mkd c=false:=by
      cases hm:mkd c
      · rfl
      · have:=Zqs hm;omega
    obtain ⟨_,x,t,e,hx⟩:=h2 (by omega)
    rw [hm,e]
    unfold Lib.contains
    have:index mk16 (x :: t) = -1:=by
      refine index_none fun j hj=>?_
      unfold occAt
      have hj:∀l:List UInt8,(∀b∈l,b.toNat<128)→(x :: t).isPrefixOf l=false:=fun l hl=>by
        cases l with
        | nil=>rfl
        | cons b l=>
          have:=hl b List.mem_cons_self
          have hbx:(x == b)=false:=by
            rw [beq_eq_false_iff_ne];intro hh;subst hh;omega
          simp [List.isPrefixOf,hbx]
      have hd:∀b∈mk16,b.toNat<128:=by decide
      first
        | exact hj _ fun b hb=>hd b (List.mem_of_mem_drop hb)
        | (simp [hj _ fun b hb=>hd b (List.mem_of_mem_drop hb)])
    rw [this];rfl
end Go.Proofs.YthilboheomikjaaGreatDoor
end
section
namespace Go.Proofs.YthilboheomikjaaGreatDoor
open Go.AL Go.Lib
set_option maxRecDepth 100000
theorem Zse {c:Int} (hc:ZC c):IntKind.wrap .i32 c=c:=by
  have h1:=hc.1;have h2:=hc.2.1
  simp [IntKind.wrap,IntKind.bits,IntKind.signed];omega
theorem Zpi {k:Nat} {c:Int} (hc:ZC c):F115 k c=some true:=by
  have hp:=hc
  unfold ZC at hp
  unfold F115 ZgP ZgQ
  rw [dt (by omega),zt_]
  by_cases h9:c<55296
  · rw [dt h9,zt_]
  · rw [df h9,zf_,dt (by omega),zt_,dt (by omega),zt_]
theorem Zsa {k:Nat} {c:Int} (hc:ZC c):F94 k c=some (en c):=by
  have h1:=hc.1;have h2:=hc.2.1
  unfold F94 Zf9
  rw [df (by omega),zf_,df (by omega),zf_,Zse hc,Zpi hc]
  rfl
theorem ZrY:∀b∈mk16,esc b=some (b.toNat:Int):=by decide
theorem ZcS {c:Int} (hc:ZC c):(∃b,esc b=some c∧ptS c=[92,b])∨(mkd c=false∧ptS c=en c):=by
  unfold ptS
  by_cases h1:c=10
  · rw [if_pos h1];exact .inl ⟨110,by rw [h1];decide,rfl⟩
  rw [if_neg h1]
  by_cases h2:c=9
  · rw [if_pos h2];exact .inl ⟨116,by rw [h2];decide,rfl⟩
  rw [if_neg h2]
  cases h3:mkd c
  · exact .inr ⟨rfl,rfl⟩
  · have hl:=Zqs h3
    rw [if_pos rfl,(Zch hc).2.1 (by omega)]
    unfold mkd at h3
    obtain ⟨b,hb,e⟩:=List.any_eq_true.1 h3
    have e':(b.toNat:Int)=c:=by simpa using e
    subst e'
    refine .inl ⟨b,ZrY b hb,?_⟩
    rw [Int.toNat_natCast,UInt8.ofNat_toNat]
theorem ZdP {k:Nat} {c:Int} (hc:ZC c):F107 k c=some (ptS c):=by
  have hl:=(Zch hc).2.2.2
  unfold F107 ptS
  rw [Zsa hc,zb_]
  by_cases h1:c=10
  · rw [if_pos h1,show (c == 10)=true by simp [h1],zt_]
  rw [if_neg h1,show (c == 10)=false by simp [h1],zf_]
  by_cases h2:c=9
  · rw [if_pos h2,show (c == 9)=true by simp [h2],zt_]
  rw [if_neg h2,show (c == 9)=false by simp [h2],zf_]
  have hc2:=ZmB hc
  unfold mk16 at hc2
  unfold F122
  rw [if_pos (by simp),zb_,hc2]
  cases h3:mkd c
  · rfl
  · rw [zt_,if_pos (by simp;omega)];rfl
theorem Zef {c:Int} (hc:ZC c) (h:mkd c=false):∃x t,en c=x :: t∧∀m∈mk16,x≠m:=by
  obtain ⟨_,h1,h2,_⟩:=Zch hc
  by_cases h8:c<128
  · refine ⟨_,_,h1 h8,fun m hm e=>?_⟩
    have hp:=hc.1
    have:mkd c=true:=by
      unfold mkd
      refine List.any_eq_true.2 ⟨m,hm,?_⟩
      rw [←e,UInt8.toNat_ofNat',beq_iff_eq];omega
    rw [h] at this;cases this
  · obtain ⟨_,x,t,e,hx⟩:=h2 (by omega)
    refine ⟨x,t,e,fun m hm e=>?_⟩
    have hd:∀b∈mk16,b.toNat<128:=by decide
    have:=hd m hm
    rw [←e] at this;omega
theorem ZgB {c:Int} (hc:ZC c):∃x t,ptS c=x :: t∧∀m∈mk16,m=92∨x≠m:=by
  rcases ZcS hc with ⟨b,_,e⟩ | ⟨h,e⟩
  · exact ⟨92,[b],e,fun m _=>(Decidable.em (m=92)).elim .inl fun hm=>.inr fun h=>hm h.symm⟩
  · obtain ⟨x,t,e2,hx⟩:=Zef hc h
    exact ⟨x,t,by rw [e,e2],fun m hm=>.inr (hx m hm)⟩
theorem Zcz {c:Int} (hc:ZC c):1≤(ptS c).length∧(ptS c).length≤4:=by
  rcases ZcS hc with ⟨b,_,e⟩ | ⟨h,e⟩
  · rw [e];simp
  · rw [e];exact ⟨ZoI hc,(Zch hc).2.2.2⟩
theorem ZrX {b:UInt8} {v:Int} (h:esc b=some v):b.toNat<128:=by
  rcases Zgi b with ⟨e0,e⟩ | ⟨e0,e⟩ | ⟨e0,e⟩ | ⟨⟨n1,n2,n3⟩,⟨h1,h2,h3,h4,e⟩ | ⟨h1,h4,e⟩⟩
  · rw [e0];decide
  · rw [e0];decide
  · rw [e0];decide
  · omega
  · rw [h] at e;cases e
theorem ZgC {c:Int} (hc:ZC c):validD (ptS c)=true:=by
  rcases ZcS hc with ⟨b,h,e⟩ | ⟨h,e⟩
  · rw [e]
    refine (ZcV _ fun x hx=>?_).1
    rcases List.mem_cons.1 hx with rfl | hx
    · decide
    · rw [List.mem_singleton.1 hx];exact ZrX h
  · rw [e];exact ZpI hc
theorem Zag {s a u:List UInt8} {q:Nat} (h:s.drop q=a ++ u):s.drop (q+a.length)=u:=by
  rw [←List.drop_drop,h,List.drop_left]
theorem ZoU {k q:Nat} {s u:List UInt8} {c:Int} (hk:20≤k) (hs:s.length≤1000000) (hc:ZC c) (hd:s.drop q=ptS c ++ u):F173 k (rx s q false false)=some (c,rx s (q+(ptS c).length) false false):=by
  rcases ZcS hc with ⟨b,he,e⟩ | ⟨h,e⟩
  · rw [e] at hd ⊢
    obtain ⟨h1,h2,h3⟩:=ZA hd
    obtain ⟨h4,h5,h6⟩:=ZA h3
    rcases ZmI (k:=k) (b:=false) (o:=false) hk hs h2 with ⟨x,v,hx,hv,e2⟩ | ⟨hx,_⟩
    · rw [h5] at hx;obtain rfl:=zj_ hx
      rw [he] at hv;obtain rfl:=zj_ hv
      exact e2
    · rw [hx b h5] at he;cases he
  · rw [e] at hd ⊢
    obtain ⟨x,t,e2,hx⟩:=Zef hc h
    obtain ⟨h1,h2,h3⟩:=ZA (show s.drop q=x :: (t ++ u) by rw [hd,e2];rfl)
    obtain ⟨r1,r2⟩:=Znd hc u
    rw [←hd] at r1 r2
    have hany:(([93,91,94,45]:List UInt8).any fun y=>(y.toNat:Int) == (x.toNat:Int))=false:=by
      rw [List.any_eq_false]
      intro y hy
      have hm:y∈mk16:=by
        unfold mk16
        simp only [List.mem_cons,List.not_mem_nil,or_false] at hy ⊢
        rcases hy with rfl | rfl | rfl | rfl <;> decide
      have:=hx y hm
      simp only [beq_iff_eq]
      intro h;exact this (UInt8.toNat_inj.1 (by omega))
    have hid:decide ((rx s q false false).f_I<((rx s q false false).f_S.length:Int))=decide (q<s.length):=decide_eq_decide.2 (by show (q:Int)<(s.length:Int)↔_;omega)
    unfold F173 Zhb Zhc
    rw [Zmr (c:=92) (fun y hy hh=>by rw [h2] at hy;obtain rfl:=zj_ hy;exact hx 92 (by decide) (UInt8.toNat_inj.1 (by have:(92:UInt8).toNat=92:=rfl;omega))),zb_]
    simp only [Bool.not_false,zt_]
    rw [hid,dt h1,zt_,Zav,zb_,ZaQ h2,Zcv (by simp) (by simp;omega),zb_,hany,zf_,Zej (by omega) hs h1 r2,zb_,r1]
    have hp:=hc.1
    simp only
    rw [Int.toNat_of_nonneg hp]
end Go.Proofs.YthilboheomikjaaGreatDoor
end
section
namespace Go.Proofs.YthilboheomikjaaGreatDoor
open Go.AL Go.Lib
set_option maxRecDepth 100000
def rgS (r:Zb):List UInt8:=ptS r.f_Lo ++ (if r.f_Hi > r.f_Lo then 45 :: ptS r.f_Hi else [])
def rgsS:List Zb→List UInt8
  | []=>[]
  | r :: l=>rgS r ++ rgsS l
def Rgs (L:List Zb):Prop:=∀r∈L,ZC r.f_Lo∧ZC r.f_Hi∧r.f_Lo≤r.f_Hi
theorem Rgs.bd {L:List Zb} (h:Rgs L):Bd L:=fun r hr=>by
  obtain ⟨h1,h2,h3⟩:=h r hr
  exact ⟨h1.1,h3,h2.2.1⟩
theorem ZdY {l:List Zb} (h:Zaj l):Rgs l:=fun r hr=>by
  obtain ⟨_,h2⟩:=Zgc h.1 r hr
  exact ⟨h.2 _ ⟨r,hr,Int.le_refl _,h2⟩,h.2 _ ⟨r,hr,h2,Int.le_refl _⟩,h2⟩
theorem Zrl {r:Zb} (h1:ZC r.f_Lo) (h2:ZC r.f_Hi):(rgS r).length≤9:=by
  have a:=(Zcz h1).2;have b:=(Zcz h2).2
  unfold rgS
  split <;> simp <;> omega
theorem ZfM:∀{l:List Zb},Rgs l→(rgsS l).length≤9*l.length
  | [],_=>by simp [rgsS]
  | r :: l,h=>by
    obtain ⟨h1,h2,_⟩:=h r List.mem_cons_self
    have a:=Zrl h1 h2
    have b:=ZfM (l:=l) fun x hx=>h x (List.mem_cons_of_mem _ hx)
    simp only [rgsS,List.length_append,List.length_cons];omega
theorem ZhO {k:Nat} {v0:List Zb} (hv:v0.length≤100000):∀(l:List Zb) (acc:List UInt8) (i m:Nat),v0.drop i=l→l.length<m→i≤v0.length→Rgs l→acc.length+9*l.length≤1000000→Zem k v0 m acc (i:Int)=some (acc ++ rgsS l)
  | [],acc,i,m,hd,hm,hi,hr,ha=>by
    obtain ⟨m,rfl⟩:∃q,m=q+1:=⟨m-1,by simp at hm;omega⟩
    have:=ZP hd
    show Zc0 _ _ _ _ _=_
    unfold Zc0
    rw [df (by omega),zf_]
    simp [rgsS]
  | r :: l,acc,i,m,hd,hm,hi,hr,ha=>by
    obtain ⟨m,rfl⟩:∃q,m=q+1:=⟨m-1,by simp at hm;omega⟩
    obtain ⟨h1,h2,h3⟩:=ZA hd
    obtain ⟨p1,p2,_⟩:=hr r List.mem_cons_self
    have l1:=(Zcz p1).2;have l2:=(Zcz p2).2
    simp only [List.length_cons] at hm ha
    show Zc0 _ _ _ _ _=_
    unfold Zc0 ZgN
    rw [dt (by omega),zt_,Zx,h2,zb_,ZdP p1,zb_,if_pos (by omega),ZR (by omega)]
    have ih:=fun acc' ha'=>ZhO (k:=k) hv l acc' (i+1) m h3 (by omega) (by omega) (fun x hx=>hr x (List.mem_cons_of_mem _ hx)) ha'
    by_cases hh:r.f_Hi > r.f_Lo
    · rw [dt hh,zt_,if_pos (by simp;omega),ZdP p2,zb_,if_pos (by simp;omega),ih _ (by simp;omega)]
      simp [rgsS,rgS,hh]
    · rw [df hh,zf_,ih _ (by simp;omega)]
      simp [rgsS,rgS,hh]
theorem ZkK {k:Nat} {l:List Zb} (hl:l.length≤100000) (hk:l.length<k) (hr:Rgs l):F108 k l=some (rgsS l):=by
  unfold F108
  have:=ZhO (k:=k) hl l [] 0 k rfl hk (Nat.zero_le _) hr (by simp;omega)
  simpa using this
theorem Zkd {L:List Zb} (hL:Rgs L) (u:List UInt8):∃x t,rgsS L ++ 93 :: u=x :: t∧x≠45∧x≠94∧(L=[]→x=93)∧(L≠[]→x≠93):=by
  cases L with
  | nil=>exact ⟨93,u,rfl,by decide,by decide,fun _=>rfl,fun h=>absurd rfl h⟩
  | cons r L=>
    obtain ⟨x,t,e,hx⟩:=ZgB (hL r List.mem_cons_self).1
    refine ⟨x,t ++ ((if r.f_Hi > r.f_Lo then 45 :: ptS r.f_Hi else []) ++ rgsS L ++ 93 :: u),by simp [rgsS,rgS,e],?_,?_,(fun h=>by cases h),fun _=>?_⟩
    · exact (hx 45 (by decide)).resolve_left (by decide)
    · exact (hx 94 (by decide)).resolve_left (by decide)
    · exact (hx 93 (by decide)).resolve_left (by decide)
theorem Zl6 {x c:UInt8} (h:x≠c):(x.toNat:Int)≠(c.toNat:Int):=fun e=>h (UInt8.toNat_inj.1 (by omega))
theorem Zac {k q:Nat} {s t:List UInt8} {b o:Bool} {x c:UInt8} (hd:s.drop q=x :: t) (h:x≠c):F74 k (rx s q b o) (c.toNat:Int)=some (false,rx s q b o):=
  Zmr fun y hy=>by
    have h2:=(ZA hd).2.1
    rw [h2] at hy;obtain rfl:=zj_ hy
    exact Zl6 h
theorem ZaB {k q:Nat} {s t:List UInt8} {b o:Bool} {c:UInt8} (hs:s.length≤1000000) (hd:s.drop q=c :: t):F74 k (rx s q b o) (c.toNat:Int)=some (true,rx s (q+1) b o):=
  Znz hs (ZA hd).2.1 rfl
theorem ZhY {k:Nat} {s u:List UInt8} {y:Bool×Zf} (hk:20≤k) (hs:s.length≤1000000):∀(L acc:List Zb) (q m:Nat),L≠[]→Rgs L→s.drop q=rgsS L ++ 93 :: u→L.length<m→acc.length+L.length≤100000→
    Zc7 k y m (rx s q false false) acc=Zcn k y (rx s (q+(rgsS L).length+1) false false) (acc ++ L)
  | [],_,_,_,h,_,_,_,_=>absurd rfl h
  | r :: L,acc,q,m,_,hL,hd,hm,ha=>by
    obtain ⟨m,rfl⟩:∃q,m=q+1:=⟨m-1,by simp at hm;omega⟩
    obtain ⟨p1,p2,p3⟩:=hL r List.mem_cons_self
    have hL':Rgs L:=fun x hx=>hL x (List.mem_cons_of_mem _ hx)
    simp only [List.length_cons] at hm ha
    have step:∀(q':Nat),s.drop q'=rgsS L ++ 93 :: u→ZbZ k (Zc7 k y m) y (rx s q' false false) (acc ++ [r])=Zcn k y (rx s (q'+(rgsS L).length+1) false false) (acc ++ r :: L):=fun q' hq=>by
      obtain ⟨x,t,e,_,_,h1,h2⟩:=Zkd hL' u
      rw [e] at hq
      unfold ZbZ
      by_cases hn:L=[]
      · have hx:=h1 hn
        subst hn;subst hx
        rw [show (93:Int)=((93:UInt8).toNat:Int) from rfl,ZaB hs hq,zb_]
        simp only [zt_]
        rfl
      · rw [show (93:Int)=((93:UInt8).toNat:Int) from rfl,Zac hq (h2 hn),zb_]
        simp only [zf_]
        rw [ZhY hk hs L (acc ++ [r]) q' m hn hL' (by rw [hq,e]) (by omega) (by simp;omega),List.append_assoc]
        rfl
    show Zg1 _ _ _ _ _=_
    have hd1:s.drop q=ptS r.f_Lo ++ ((if r.f_Hi > r.f_Lo then 45 :: ptS r.f_Hi else []) ++ (rgsS L ++ 93 :: u)):=by rw [hd];simp [rgsS,rgS]
    have hd2:=Zag hd1
    have h0:=p1.1
    rw [Zsi,ZoU hk hs p1 hd1,zb_]
    unfold clsT
    simp only
    rw [show (r.f_Lo == (-1:Int))=false by simp;omega,zf_]
    by_cases hh:r.f_Hi > r.f_Lo
    · rw [if_pos hh] at hd2
      have hd3:s.drop (q+(ptS r.f_Lo).length+1)=ptS r.f_Hi ++ (rgsS L ++ 93 :: u):=(ZA hd2).2.2
      have hd4:=Zag hd3
      rw [show (45:Int)=((45:UInt8).toNat:Int) from rfl,ZaB hs hd2,zb_]
      simp only [zt_]
      rw [ZoU hk hs p2 hd3,zb_]
      simp only
      rw [df (by omega),zf_,Zqp (by omega)]
      show ZbZ _ _ _ _ (acc ++ [r])=_
      rw [step _ hd4]
      congr 2
      have:(rgsS (r :: L)).length=(ptS r.f_Lo).length+1+(ptS r.f_Hi).length+(rgsS L).length:=by
        simp only [rgsS,rgS,if_pos hh,List.length_append,List.length_cons];omega
      rw [this];omega
    · rw [if_neg hh,List.nil_append] at hd2
      obtain ⟨x,t,e,h45,_,_,_⟩:=Zkd hL' u
      rw [show (45:Int)=((45:UInt8).toNat:Int) from rfl,Zac (hd2.trans e) h45,zb_]
      simp only [zf_]
      rw [Zqp (by omega)]
      have er:(⟨r.f_Lo,r.f_Lo⟩:Zb)=r:=by
        have:r.f_Hi=r.f_Lo:=by omega
        cases r;simp only at this ⊢;rw [this]
      simp only
      rw [er,step _ hd2]
      congr 2
      have:(rgsS (r :: L)).length=(ptS r.f_Lo).length+(rgsS L).length:=by
        simp only [rgsS,rgS,if_neg hh,List.length_append,List.length_nil];omega
      rw [this];omega
theorem Zq0 {k q:Nat} {s u:List UInt8} {l:List Zb} (hk:5000≤k) (hs:s.length≤1000000) (hc:Zaj l) (hn:l≠[]) (hl:l.length≤2000) (hd:s.drop q=rgsS l ++ 93 :: u) :
    F144 k (rx s q false false)=some (⟨1,l,[],0,0⟩,rx s (q+(rgsS l).length+1) false false):=by
  have hr:=ZdY hc
  obtain ⟨x,t,e,_,h94,_,_⟩:=Zkd hr u
  unfold F144
  rw [show (94:Int)=((94:UInt8).toNat:Int) from rfl,Zac (hd.trans e) h94,zb_]
  simp only
  rw [ZhY (by omega) hs l [] q k hn hr hd (by omega) (by simp;omega),List.nil_append]
  obtain ⟨m2,f2,d2,j2,_⟩:=ZoA (k:=k) (l:=l) (by omega) (by omega) hr.bd
  have:m2=l:=ZdI d2 hc fun c=>by rw [j2];exact ⟨fun h=>h.1,fun h=>⟨h,hc.2 c h⟩⟩
  subst this
  unfold Zcn Zer
  show cond false _ _=_
  rw [zf_,f2,zb_]
  rfl
theorem ZqZ {k q:Nat} {s u:List UInt8} {l L:List Zb} (hk:5000≤k) (hs:s.length≤1000000) (hc:Zaj l) (hr:Rgs L) (hn:L≠[]) (hl:L.length≤2000) (he:∀c,inR l c↔ZC c∧¬inR L c) (hd:s.drop q=94 :: (rgsS L ++ 93 :: u)) :
    F144 k (rx s q false false)=some (⟨1,l,[],0,0⟩,rx s (q+1+(rgsS L).length+1) false false):=by
  unfold F144
  rw [show (94:Int)=((94:UInt8).toNat:Int) from rfl,ZaB hs hd,zb_]
  simp only
  rw [ZhY (by omega) hs L [] (q+1) k hn hr (ZA hd).2.2 (by omega) (by simp;omega),List.nil_append]
  obtain ⟨m2,f2,d2,j2,n2⟩:=ZoA (k:=k) (l:=L) (by omega) (by omega) hr.bd
  obtain ⟨m3,f3,d3,j3⟩:=Zrm (k:=k) (l:=m2) (by omega) (by omega) d2.bd d2.1
  have:m3=l:=ZdI d3 hc fun c=>by
    rw [j3,he,j2]
    exact ⟨fun h=>⟨h.1,fun hi=>h.2 ⟨hi,h.1⟩⟩,fun h=>⟨h.1,fun hi=>h.2 hi.1⟩⟩
  subst this
  unfold Zcn Zer
  show cond false _ _=_
  rw [zf_,f2,zb_]
  simp only [zt_]
  rw [f3]
  rfl
end Go.Proofs.YthilboheomikjaaGreatDoor
end
section
namespace Go.Proofs.YthilboheomikjaaGreatDoor
open Go.AL Go.Lib
set_option maxRecDepth 100000
def Zi1 (l:List Zb) (t:List UInt8):Prop:=
  (l=ptsR∧t=[46])∨(∃c,ZC c∧l=[⟨c,c⟩]∧t=ptS c)∨∃L,L≠[]∧Rgs L∧L.length≤2000∧((L=l∧t=91 :: (rgsS L ++ [93]))∨((∀c,inR l c↔ZC c∧¬inR L c)∧t=91 :: 94 :: (rgsS L ++ [93])))
theorem Zqo {t:List UInt8} (h:t.length≤1000000):ZdF t=some (91 :: (t ++ [93])):=by
  unfold ZdF
  rw [if_pos (by simp;omega),if_pos (by simp;omega)]
  rfl
theorem Zsn {l:List Zb} (hc:Zaj l) (hp:l≠ptsR) (hl:l.length≤900):∃t,(∀k,20000≤k→ZbN k l false=some t)∧Zi1 l t:=by
  by_cases hn:l=[]
  · subst hn
    have p0:ZC 0:=by decide
    have p1:ZC 1114111:=by decide
    have l0:=(Zcz p0).2;have l1:=(Zcz p1).2
    refine ⟨[91,94] ++ ptS 0 ++ [45] ++ ptS 1114111 ++ [93],fun k hk=>?_,.inr (.inr ⟨[⟨0,1114111⟩],by simp,fun r hr=>?_,by simp,.inr ⟨fun c=>?_,by simp [rgsS,rgS]⟩⟩)⟩
    · unfold ZbN
      rw [zf_,show ((([]:List Zb).length:Int) == 0)=true from rfl,zt_,ZdP p0,zb_,if_pos (by simp;omega),if_pos (by simp;omega),ZdP p1,zb_,if_pos (by simp;omega),if_pos (by simp;omega)]
    · rw [List.mem_singleton.1 hr];exact ⟨p0,p1,by decide⟩
    · refine ⟨fun h=>absurd h Zai,fun ⟨h1,h2⟩=>absurd ⟨_,List.mem_singleton.2 rfl,h1.1,h1.2.1⟩ h2⟩
  · have hr:=ZdY hc
    obtain ⟨l1,e1,c1,i1,n1⟩:=ZoZ (k:=1000000) (l:=l) (by omega) (by omega) hr.bd hc.1
    have hr1:=ZdY c1
    have b1:=ZfM hr;have b2:=ZfM hr1
    have hn1:l1≠[]:=fun h=>hp (ZdI hc ⟨by unfold ptsR;simp [Z7],fun c hcc=>Zjr.1 hcc⟩ fun c=>by
      rw [Zjr]
      refine ⟨fun hh=>hc.2 c hh,fun hh=>Classical.byContradiction fun hx=>?_⟩
      have:=(i1 c).2 ⟨hh,hx⟩
      rw [h] at this;exact Zai this)
    have hh:∀k,20000≤k→ZbN k l false=cond (decide (((94 :: rgsS l1).length:Int)<((rgsS l).length:Int))) (ZdF (94 :: rgsS l1)) (ZdF (rgsS l)):=fun k hk=>by
      obtain ⟨l2,e2,c2,i2,n2⟩:=ZoZ (k:=k) (l:=l) (by omega) (by omega) hr.bd hc.1
      have:l2=l1:=ZdI c2 c1 fun c=>by rw [i2,i1]
      subst this
      unfold ZbN
      rw [zf_,ZF (show ((l.length:Nat):Int)≠0 from fun h=>hn (List.length_eq_zero_iff.1 (by omega))),zf_,ZkK (by omega) (by omega) hr,zb_,e2,zb_,ZkK (by omega) (by omega) hr1,zb_,if_pos (by simp;omega)]
      rfl
    by_cases hlt:((94 :: rgsS l1).length:Int)<((rgsS l).length:Int)
    · refine ⟨91 :: 94 :: (rgsS l1 ++ [93]),fun k hk=>?_,.inr (.inr ⟨l1,hn1,hr1,by omega,.inr ⟨fun c=>?_,rfl⟩⟩)⟩
      · rw [hh k hk,dt hlt,zt_,Zqo (by simp only [List.length_cons];omega)];rfl
      · rw [i1]
        exact ⟨fun h=>⟨hc.2 c h,fun ⟨_,h2⟩=>h2 h⟩,fun ⟨h1,h2⟩=>Classical.byContradiction fun h3=>h2 ⟨h1,h3⟩⟩
    · refine ⟨91 :: (rgsS l ++ [93]),fun k hk=>?_,.inr (.inr ⟨l,hn,hr,by omega,.inl ⟨rfl,rfl⟩⟩)⟩
      rw [hh k hk,df hlt,zf_,Zqo (by omega)]
theorem Zro {l:List Zb} (hc:Zaj l) (hl:l.length≤900):∃t,(∀k,20000≤k→F81 k l=some t)∧Zi1 l t:=by
  by_cases hp:l=ptsR
  · subst hp
    exact ⟨[46],fun k hk=>by kernel_rfl,.inl ⟨rfl,rfl⟩⟩
  have h0:∀k,F81 k l=Zcd k l false:=fun k=>by
    unfold F81
    rw [Zlt,zb_]
    match l,hp with
    | [],_=>rw [show ((([]:List Zb).length:Int) == 2)=false from rfl,zf_]
    | [a],_=>rw [show ((([a]:List Zb).length:Int) == 2)=false from rfl,zf_]
    | a :: b :: c :: t,_=>
      rw [show (((a :: b :: c :: t).length:Int) == 2)=false by simp;omega,zf_]
    | [a,b],hp=>
      show cond (((a.f_Lo == 0) && ((a.f_Hi == 55295) && true))) (Zcd k [a,b] ((b.f_Lo == 57344) && ((b.f_Hi == 1114111) && true))) (Zcd k [a,b] false)=_
      cases h1:((a.f_Lo == (0:Int)) && ((a.f_Hi == (55295:Int)) && true))
      · rfl
      · cases h2:((b.f_Lo == (57344:Int)) && ((b.f_Hi == (1114111:Int)) && true))
        · rfl
        · exfalso
          simp only [Bool.and_true,Bool.and_eq_true,beq_iff_eq] at h1 h2
          refine hp ?_
          cases a;cases b
          simp only at h1 h2
          rw [h1.1,h1.2,h2.1,h2.2]
          rfl
  by_cases h1:∃r,l=[r]∧r.f_Lo=r.f_Hi
  · obtain ⟨r,rfl,he⟩:=h1
    have hpt:=(ZdY hc r List.mem_cons_self).1
    refine ⟨ptS r.f_Lo,fun k hk=>?_,.inr (.inl ⟨r.f_Lo,hpt,by cases r;simp only at he ⊢;rw [he],rfl⟩)⟩
    rw [h0]
    unfold Zcd
    show (ZbN k [r] (r.f_Lo == r.f_Hi))=_
    rw [ZV he]
    unfold ZbN
    show (F107 k r.f_Lo).bind _=_
    rw [ZdP hpt];rfl
  · obtain ⟨t,h2,h3⟩:=Zsn hc hp hl
    refine ⟨t,fun k hk=>?_,h3⟩
    rw [h0,←h2 k hk]
    unfold Zcd
    match l,h1 with
    | [],_=>rw [show ((([]:List Zb).length:Int) == 1)=false from rfl,zf_,zf_]
    | [a],h1=>
      show (ZbN k [a] (a.f_Lo == a.f_Hi))=_
      rw [ZF fun h=>h1 ⟨a,rfl,h⟩]
    | a :: b :: t,_=>
      rw [show (((a :: b :: t).length:Int) == 1)=false by simp;omega,zf_,zf_]
def setS (l:List Zb):List UInt8:=(F81 1000000 l).getD []
theorem Zfe {l:List Zb} (hc:Zaj l) (hl:l.length≤900):(∀k,20000≤k→F81 k l=some (setS l))∧Zi1 l (setS l):=by
  obtain ⟨t,h1,h2⟩:=Zro hc hl
  have:setS l=t:=by unfold setS;rw [h1 _ (by omega)];rfl
  rw [this];exact ⟨h1,h2⟩
theorem ZrQ {L:List UInt8} {x:UInt8} (h:∀y∈L,x≠y):(L.any fun y=>(y.toNat:Int) == (x.toNat:Int))=false:=by
  rw [List.any_eq_false]
  intro y hy
  simp only [beq_iff_eq]
  exact fun e=>h y hy (UInt8.toNat_inj.1 (by omega))
theorem ZnN {k q:Nat} {s u:List UInt8} {c:Int} {R51:Zf→Option (Zd×Zf)} (hk:20≤k) (hs:s.length≤1000000) (hc:ZC c) (hd:s.drop q=ptS c ++ u) :
    F119 R51 k (rx s q false false)=some (⟨1,[⟨c,c⟩],[],0,0⟩,rx s (q+(ptS c).length) false false):=by
  have hp:=hc.1
  obtain ⟨x,t,ex,hx⟩:=ZgB hc
  have hdx:s.drop q=x :: (t ++ u):=by rw [hd,ex];rfl
  unfold F119
  rw [Zav,zb_,show (46:Int)=((46:UInt8).toNat:Int) from rfl,Zac hdx ((hx 46 (by decide)).resolve_left (by decide)),zb_]
  simp only [zf_]
  rw [show (40:Int)=((40:UInt8).toNat:Int) from rfl,Zac hdx ((hx 40 (by decide)).resolve_left (by decide)),zb_]
  simp only [zf_]
  rw [show (91:Int)=((91:UInt8).toNat:Int) from rfl,Zac hdx ((hx 91 (by decide)).resolve_left (by decide)),zb_]
  simp only [zf_]
  rcases ZcS hc with ⟨b,he,e⟩ | ⟨h,e⟩
  · rw [e] at hd ⊢
    obtain ⟨h1,h2,h3⟩:=ZA hd
    obtain ⟨h4,h5,h6⟩:=ZA h3
    rw [show (92:Int)=((92:UInt8).toNat:Int) from rfl,ZaB hs hd,zb_]
    simp only [zt_]
    show Zk6 k (true,rx s (q+1) false false)=_
    rcases ZpA (k:=k) (q:=q+1) (o:=false) hk hs (by omega) with ⟨y,v,hy,hv,e2⟩ | ⟨hy,_⟩
    · rw [h5] at hy;obtain rfl:=zj_ hy
      rw [he] at hv;obtain rfl:=zj_ hv
      rw [e2]
      have:rgv c=⟨c,c⟩:=by unfold rgv;rw [if_neg (by omega)]
      rw [this];rfl
    · rw [hy b h5] at he;cases he
  · rw [e] at hd ⊢
    obtain ⟨x',t',e2,hx'⟩:=Zef hc h
    have hd':s.drop q=x' :: (t' ++ u):=by rw [hd,e2];rfl
    obtain ⟨h1,h2,h3⟩:=ZA hd'
    obtain ⟨r1,r2⟩:=Znd hc u
    rw [←hd] at r1 r2
    have hid:decide ((rx s q false false).f_I<((rx s q false false).f_S.length:Int))=decide (q<s.length):=decide_eq_decide.2 (by show (q:Int)<(s.length:Int)↔_;omega)
    rw [show (92:Int)=((92:UInt8).toNat:Int) from rfl,Zac hd' (hx' 92 (by decide)),zb_]
    simp only [zf_]
    rw [hid,dt h1,zt_,ZaQ h2,Zcv (by simp) (by simp;omega),zb_,ZrQ fun y hy=>hx' y (by
      unfold mk16
      simp only [List.mem_cons,List.not_mem_nil,or_false] at hy ⊢
      rcases hy with rfl | rfl | rfl | rfl | rfl | rfl | rfl | rfl | rfl | rfl | rfl | rfl <;> decide)]
    unfold ZgS ZbY
    rw [zf_,Zej (by omega) hs h1 r2,zb_,r1]
    simp only
    rw [Int.toNat_of_nonneg hp]
    rfl
theorem ZpC {k q:Nat} {s t u:List UInt8} {l:List Zb} {R51:Zf→Option (Zd×Zf)} (hk:5000≤k) (hs:s.length≤1000000) (hc:Zaj l) (hl:l.length≤900) (ht:Zi1 l t) (hd:s.drop q=t ++ u) :
    F119 R51 k (rx s q false false)=some (⟨1,l,[],0,0⟩,rx s (q+t.length) false false):=by
  rcases ht with ⟨rfl,rfl⟩ | ⟨c,hpt,rfl,rfl⟩ | ⟨L,hn,hr,hL,h⟩
  · unfold F119
    rw [Zav,zb_,show (46:Int)=((46:UInt8).toNat:Int) from rfl,ZaB hs hd,zb_]
    simp only [zt_]
    rw [Zg0]
    rfl
  · exact ZnN (by omega) hs hpt hd
  · have h91:∃v,t=91 :: v:=by rcases h with ⟨_,h⟩ | ⟨_,h⟩ <;> exact ⟨_,h⟩
    obtain ⟨v,hv⟩:=h91
    have hdx:s.drop q=91 :: (v ++ u):=by rw [hd,hv];rfl
    have hd1:=(ZA hdx).2.2
    unfold F119
    rw [Zav,zb_,show (46:Int)=((46:UInt8).toNat:Int) from rfl,Zac hdx (by decide),zb_]
    simp only [zf_]
    rw [show (40:Int)=((40:UInt8).toNat:Int) from rfl,Zac hdx (by decide),zb_]
    simp only [zf_]
    rw [show (91:Int)=((91:UInt8).toNat:Int) from rfl,ZaB hs hdx,zb_]
    simp only [zt_]
    rcases h with ⟨rfl,h⟩ | ⟨he,h⟩
    · have ev:v=rgsS L ++ [93]:=by rw [h] at hv;exact (List.cons.inj hv).2.symm
      rw [Zq0 hk hs hc hn hL (u:=u) (by rw [hd1,ev];simp),zb_,h]
      simp only [List.length_cons,List.length_append,List.length_nil]
      congr 3;omega
    · have ev:v=94 :: (rgsS L ++ [93]):=by rw [h] at hv;exact (List.cons.inj hv).2.symm
      rw [ZqZ hk hs hc hr hn hL he (u:=u) (by rw [hd1,ev];simp),zb_,h]
      simp only [List.length_cons,List.length_append,List.length_nil]
      congr 3;omega
def Hd (t:List UInt8):Prop:=∃x v,t=x :: v∧x≠124∧x≠41∧x≠42∧x≠43∧x≠63∧x≠123
theorem ZfN:∀{l:List Zb} (u:List UInt8),Rgs l→validD (rgsS l ++ u)=validD u
  | [],u,_=>rfl
  | r :: l,u,h=>by
    obtain ⟨h1,h2,_⟩:=h r List.mem_cons_self
    have ih:=ZfN (l:=l) u fun x hx=>h x (List.mem_cons_of_mem _ hx)
    simp only [rgsS,rgS,List.append_assoc]
    rw [(Zby _ _ _ (Nat.le_refl _) (ZgC h1)).1]
    split
    · rw [show (45 :: ptS r.f_Hi ++ (rgsS l ++ u))=[45] ++ (ptS r.f_Hi ++ (rgsS l ++ u)) from rfl,(Zby _ _ _ (Nat.le_refl _) (by decide +kernel:validD [45]=true)).1,(Zby _ _ _ (Nat.le_refl _) (ZgC h2)).1,ih]
    · exact ih
theorem ZdR {l:List Zb} {t:List UInt8} (ht:Zi1 l t):validD t=true∧Hd t∧t.length≤20000:=by
  rcases ht with ⟨_,rfl⟩ | ⟨c,hpt,_,rfl⟩ | ⟨L,hn,hr,hL,h⟩
  · exact ⟨by decide +kernel,⟨46,[],rfl,by decide⟩,by simp⟩
  · obtain ⟨x,v,e,hx⟩:=ZgB hpt
    have:=(Zcz hpt).2
    refine ⟨ZgC hpt,⟨x,v,e,?_,?_,?_,?_,?_,?_⟩,by omega⟩
    · exact (hx 124 (by decide)).resolve_left (by decide)
    · exact (hx 41 (by decide)).resolve_left (by decide)
    · exact (hx 42 (by decide)).resolve_left (by decide)
    · exact (hx 43 (by decide)).resolve_left (by decide)
    · exact (hx 63 (by decide)).resolve_left (by decide)
    · exact (hx 123 (by decide)).resolve_left (by decide)
  · have hb:=ZfM hr
    have h93:validD [93]=true:=by decide +kernel
    rcases h with ⟨_,rfl⟩ | ⟨_,rfl⟩
    · refine ⟨?_,⟨91,_,rfl,by decide⟩,by simp;omega⟩
      rw [show (91 :: (rgsS L ++ [93]))=[91] ++ (rgsS L ++ [93]) from rfl,(Zby _ _ _ (Nat.le_refl _) (by decide +kernel:validD [91]=true)).1,ZfN _ hr,h93]
    · refine ⟨?_,⟨91,_,rfl,by decide⟩,by simp;omega⟩
      rw [show (91 :: 94 :: (rgsS L ++ [93]))=[91,94] ++ (rgsS L ++ [93]) from rfl,(Zby _ _ _ (Nat.le_refl _) (by decide +kernel:validD [91,94]=true)).1,ZfN _ hr,h93]
end Go.Proofs.YthilboheomikjaaGreatDoor
end
section
namespace Go.Proofs.YthilboheomikjaaGreatDoor
open Go.AL Go.Lib
set_option maxRecDepth 100000
def tmS (a b:Int):List UInt8:=if a=0∧b = -1 then [42] else if a=1∧b = -1 then [43] else if a=0∧b=1 then [63] else if b = -1 then 123 :: (itoa a ++ [44,125]) else if a=b then 123 :: (itoa a ++ [125]) else 123 :: (itoa a ++ 44 :: (itoa b ++ [125]))
theorem Zfx {n:Int} (h0:-1≤n) (h1:n≤20):(itoa n).length≤2:=by
  unfold itoa
  split
  · rw [decDigits_one (by omega)];simp
  · by_cases h:n.toNat<10
    · rw [decDigits_one h];simp
    · rw [decDigits_two h (by omega)];simp
theorem Zp9 {k:Nat} {a b:Int} (h0:0≤a) (h1:a≤20) (h2:-1≤b) (h3:b≤20):F83 k a b=some (tmS a b):=by
  have la:=Zfx (n:=a) (by omega) h1
  have lb:=Zfx h2 h3
  unfold F83 ZiV ZiW ZiX F88 tmS
  rw [if_pos ⟨by omega,by omega⟩,zb_,if_pos ⟨by omega,by omega⟩,zb_]
  have g:∀t:List UInt8,t.length≤100→t.length≤4611686018427387904:=fun t h=>by omega
  have q1:([123]:List UInt8).length+(itoa a).length≤4611686018427387904:=by simp;omega
  have q2:(([123]:List UInt8) ++ itoa a).length+([44,125]:List UInt8).length≤4611686018427387904:=by simp;omega
  have q3:(([123]:List UInt8) ++ itoa a).length+([125]:List UInt8).length≤4611686018427387904:=by simp;omega
  have q4:(([123]:List UInt8) ++ itoa a).length+([44]:List UInt8).length≤4611686018427387904:=by simp;omega
  have q5:((([123]:List UInt8) ++ itoa a) ++ ([44]:List UInt8)).length+(itoa b).length≤4611686018427387904:=by simp;omega
  have q6:(((([123]:List UInt8) ++ itoa a) ++ ([44]:List UInt8)) ++ itoa b).length+([125]:List UInt8).length≤4611686018427387904:=by simp;omega
  simp only [if_pos q1,if_pos q2,if_pos q3,if_pos q4,if_pos q5,if_pos q6]
  generalize itoa a=ia at *
  generalize itoa b=ib at *
  by_cases a0:a=0
  · subst a0
    by_cases bm:b = -1
    · subst bm;rfl
    · have e1:(b == (-1:Int))=false:=ZF bm
      by_cases b1:b=1
      · subst b1;rfl
      · have e2:(b == (1:Int))=false:=ZF b1
        by_cases e:(0:Int)=b
        · subst e;simp
        · have e3:((0:Int) == b)=false:=ZF e
          simp [e1,e2,e3,bm,b1,e]
  · have f1:(a == (0:Int))=false:=ZF a0
    by_cases a1:a=1
    · subst a1
      by_cases bm:b = -1
      · subst bm;rfl
      · have e1:(b == (-1:Int))=false:=ZF bm
        by_cases e:(1:Int)=b
        · subst e;simp
        · have e3:((1:Int) == b)=false:=ZF e
          simp [e1,e3,bm,e]
    · have f2:(a == (1:Int))=false:=ZF a1
      by_cases bm:b = -1
      · subst bm;simp [f1,f2,a0,a1]
      · have e1:(b == (-1:Int))=false:=ZF bm
        by_cases e:a=b
        · subst e;simp [f1,f2,a0,a1,bm,e1]
        · have e3:(a == b)=false:=ZF e
          simp [f1,f2,e1,e3,a0,a1,bm,e]
theorem Zgg {n:Nat} (h:n<10):isD (UInt8.ofNat (48+n))∧dv (UInt8.ofNat (48+n))=n:=by
  unfold isD dv
  rw [UInt8.toNat_ofNat'];omega
theorem ZnX {n:Int} (h0:0≤n) (h1:n≤20):∃x t,itoa n=x :: t∧isD x:=by
  unfold itoa
  rw [if_neg (by omega)]
  by_cases h:n.toNat<10
  · rw [decDigits_one h];exact ⟨_,_,rfl,(Zgg h).1⟩
  · rw [decDigits_two h (by omega)];exact ⟨_,_,rfl,(Zgg (by omega)).1⟩
theorem ZcW {k q:Nat} {s t:List UInt8} {x:UInt8} {n:Int} (hk:5≤k) (hs:s.length≤1000000) (h0:0≤n) (h1:n≤20) (hd:s.drop q=itoa n ++ x :: t) (hx:¬isD x) :
    F148 k (rx s q false false)=some (n,rx s (q+(itoa n).length) false false):=by
  have hd2:=Zag hd
  have hx2:∀y,s[q+(itoa n).length]?=some y→¬isD y:=fun y hy=>by
    rw [(ZA hd2).2.1] at hy;obtain rfl:=zj_ hy;exact hx
  unfold itoa at hd hx2 ⊢
  rw [if_neg (by omega)] at hd hx2 ⊢
  obtain ⟨m,rfl⟩:∃m,k=m+3:=⟨k-3,by omega⟩
  show Za1 _ (m+2+1) _ 0 ((0:Nat):Int)=_
  by_cases h:n.toNat<10
  · rw [decDigits_one h] at hd hx2 ⊢
    obtain ⟨d1,d2⟩:=Zgg h
    rw [Zeg hs (ZA hd).2.1 d1 (by omega) (by omega) (by omega),ZhP (.inl (by simpa using hx2)),d2]
    simp only [List.length_cons,List.length_nil]
    rw [show ((0:Int)*10+(n.toNat:Int))=n by omega]
    rfl
  · rw [decDigits_two h (by omega)] at hd hx2 ⊢
    obtain ⟨d1,d2⟩:=Zgg (n:=n.toNat / 10) (by omega)
    obtain ⟨d3,d4⟩:=Zgg (n:=n.toNat % 10) (by omega)
    obtain ⟨_,g1,g2⟩:=ZA hd
    obtain ⟨_,g3,g4⟩:=ZA g2
    rw [Zeg hs g1 d1 (by omega) (by omega) (by omega),Zeg hs g3 d3 (by omega) (by omega) (by omega),ZhP (.inl (by simpa [Nat.add_assoc] using hx2)),d2,d4]
    simp only [List.length_cons,List.length_nil]
    rw [show (((0:Int)*10+((n.toNat / 10:Nat):Int))*10+((n.toNat % 10:Nat):Int))=n by omega]
    rfl
def Nx (u:List UInt8):Prop:=∀x t,u=x :: t→x≠42∧x≠43∧x≠63∧x≠123
theorem ZgF {k q:Nat} {s u:List UInt8} {b o:Bool} {c:UInt8} (hd:s.drop q=u) (h:∀x t,u=x :: t→x≠c):F74 k (rx s q b o) (c.toNat:Int)=some (false,rx s q b o):=by
  cases u with
  | nil=>
    have:=ZP hd
    exact Zmr fun y hy=>by rw [List.getElem?_eq_none (by omega)] at hy;cases hy
  | cons x t=>exact Zac hd (h x t rfl)
theorem Zjo {k q:Nat} {s u:List UInt8} {x:Zd} (hd:s.drop q=u) (h:Nx u):Zgz k (x,rx s q false false)=some (x,rx s q false false):=by
  unfold Zgz
  simp only
  rw [show (42:Int)=((42:UInt8).toNat:Int) from rfl,ZgF hd fun y t e=>(h y t e).1,zb_]
  simp only [zf_]
  rw [show (43:Int)=((43:UInt8).toNat:Int) from rfl,ZgF hd fun y t e=>(h y t e).2.1,zb_]
  simp only [zf_]
  rw [show (63:Int)=((63:UInt8).toNat:Int) from rfl,ZgF hd fun y t e=>(h y t e).2.2.1,zb_]
  simp only [zf_]
  rw [show (123:Int)=((123:UInt8).toNat:Int) from rfl,ZgF hd fun y t e=>(h y t e).2.2.2,zb_]
  rfl
theorem Zj9 {k q:Nat} {s u:List UInt8} {x:Zd} {y:Int×Zf} {m:Int} (hs:s.length≤1000000) (hd:s.drop q=125 :: u) (h1:y.1≤20) (h2:m≤20) (h3:m = -1∨y.1≤m):Zc4 k x y (rx s q false false) m=some (⟨4,[],[x],y.1,m⟩,rx s (q+1) false false):=by
  unfold Zc4
  rw [show (125:Int)=((125:UInt8).toNat:Int) from rfl,ZaB hs hd,zb_]
  simp only [Bool.not_true,zf_]
  rw [Zsm,df (by omega)]
  rfl
theorem Zob {k q:Nat} {s u:List UInt8} {x:Zd} {a b:Int} (hk:5≤k) (hs:s.length≤1000000) (h0:0≤a) (h1:a≤20) (h3:b≤20) (h4:b = -1∨a≤b) (hd:s.drop q=tmS a b ++ u) :
    Zgz k (x,rx s q false false)=some (⟨4,[],[x],a,b⟩,rx s (q+(tmS a b).length) false false):=by
  unfold tmS at hd ⊢
  unfold Zgz
  simp only
  by_cases c1:a=0∧b = -1
  · rw [if_pos c1] at hd ⊢
    rw [show (42:Int)=((42:UInt8).toNat:Int) from rfl,ZaB hs hd,zb_,c1.1,c1.2];rfl
  rw [if_neg c1] at hd ⊢
  by_cases c2:a=1∧b = -1
  · rw [if_pos c2] at hd ⊢
    rw [show (42:Int)=((42:UInt8).toNat:Int) from rfl,Zac hd (by decide),zb_]
    simp only [zf_]
    rw [show (43:Int)=((43:UInt8).toNat:Int) from rfl,ZaB hs hd,zb_,c2.1,c2.2];rfl
  rw [if_neg c2] at hd ⊢
  by_cases c3:a=0∧b=1
  · rw [if_pos c3] at hd ⊢
    rw [show (42:Int)=((42:UInt8).toNat:Int) from rfl,Zac hd (by decide),zb_]
    simp only [zf_]
    rw [show (43:Int)=((43:UInt8).toNat:Int) from rfl,Zac hd (by decide),zb_]
    simp only [zf_]
    rw [show (63:Int)=((63:UInt8).toNat:Int) from rfl,ZaB hs hd,zb_,c3.1,c3.2];rfl
  rw [if_neg c3] at hd ⊢
  have brace:∃v,(if b = -1 then 123 :: (itoa a ++ [44,125]) else if a=b then 123 :: (itoa a ++ [125]) else 123 :: (itoa a ++ 44 :: (itoa b ++ [125])))=(123:UInt8) :: v:=by
    split
    · exact ⟨_,rfl⟩
    · split <;> exact ⟨_,rfl⟩
  obtain ⟨v,hv⟩:=brace
  have hb:s.drop q=123 :: (v ++ u):=by rw [hd,hv];rfl
  have hd1:=(ZA hb).2.2
  rw [show (42:Int)=((42:UInt8).toNat:Int) from rfl,Zac hb (by decide),zb_]
  simp only [zf_]
  rw [show (43:Int)=((43:UInt8).toNat:Int) from rfl,Zac hb (by decide),zb_]
  simp only [zf_]
  rw [show (63:Int)=((63:UInt8).toNat:Int) from rfl,Zac hb (by decide),zb_]
  simp only [zf_]
  rw [show (123:Int)=((123:UInt8).toNat:Int) from rfl,ZaB hs hb,zb_]
  simp only [zt_]
  have n44:¬isD 44:=by unfold isD;decide
  have n125:¬isD 125:=by unfold isD;decide
  unfold F120
  by_cases c4:b = -1
  · rw [if_pos c4] at hv ⊢
    obtain ⟨_,ev⟩:=List.cons.inj hv
    have hd2:s.drop (q+1)=itoa a ++ 44 :: (125 :: u):=by rw [hd1,←ev];simp
    have hd3:=Zag hd2
    have hd4:=(ZA hd3).2.2
    rw [ZcW hk hs h0 h1 hd2 n44,zb_]
    simp only
    rw [show (44:Int)=((44:UInt8).toNat:Int) from rfl,ZaB hs hd3,zb_]
    simp only [zt_]
    rw [Zav,zb_,ZaQ (ZA hd4).2.1,show (((125:UInt8).toNat:Int) != 125)=false from rfl,zf_,Zj9 hs hd4 h1 (by omega) (.inl rfl),zb_]
    simp only [List.length_cons,List.length_append,List.length_nil]
    rw [c4]
    congr 3;omega
  · rw [if_neg c4] at hv ⊢
    by_cases c5:a=b
    · rw [if_pos c5] at hv ⊢
      obtain ⟨_,ev⟩:=List.cons.inj hv
      have hd2:s.drop (q+1)=itoa a ++ 125 :: u:=by rw [hd1,←ev];simp
      have hd3:=Zag hd2
      rw [ZcW hk hs h0 h1 hd2 n125,zb_]
      simp only
      rw [show (44:Int)=((44:UInt8).toNat:Int) from rfl,Zac hd3 (by decide),zb_]
      simp only [zf_]
      rw [Zj9 hs hd3 h1 h1 (.inr (Int.le_refl _)),zb_]
      simp only [List.length_cons,List.length_append,List.length_nil]
      rw [←c5]
      congr 3;omega
    · rw [if_neg c5] at hv ⊢
      obtain ⟨_,ev⟩:=List.cons.inj hv
      have hd2:s.drop (q+1)=itoa a ++ 44 :: (itoa b ++ 125 :: u):=by rw [hd1,←ev];simp
      have hd3:=Zag hd2
      have hd4:=(ZA hd3).2.2
      have hd5:=Zag hd4
      obtain ⟨z,w,ez,hz⟩:=ZnX (n:=b) (by omega) h3
      have hz5:s[q+1+(itoa a).length+1]?=some z:=(ZA (show s.drop _=z :: (w ++ 125 :: u) by rw [hd4,ez];rfl)).2.1
      rw [ZcW hk hs h0 h1 hd2 n44,zb_]
      simp only
      rw [show (44:Int)=((44:UInt8).toNat:Int) from rfl,ZaB hs hd3,zb_]
      simp only [zt_]
      rw [Zav,zb_,ZaQ hz5,show ((z.toNat:Int) != 125)=true by unfold isD at hz;simp;omega,zt_,ZcW hk hs (by omega) h3 hd4 n125,zb_]
      simp only
      rw [Zj9 hs hd5 h1 h3 (.inr (by simp only;omega)),zb_]
      simp only [List.length_cons,List.length_append,List.length_nil]
      congr 3;omega
theorem Zii {a b:Int} (h0:0≤a) (h1:a≤20) (h2:-1≤b) (h3:b≤20):(∀x∈tmS a b,x.toNat<128)∧(tmS a b).length≤7:=by
  have la:=Zfx (n:=a) (by omega) h1
  have lb:=Zfx h2 h3
  have hi:∀n:Int,0≤n→n≤20→∀x∈itoa n,x.toNat<128:=fun n g0 g1 x hx=>by
    unfold itoa at hx
    rw [if_neg (by omega)] at hx
    by_cases h:n.toNat<10
    · rw [decDigits_one h,List.mem_singleton] at hx;rw [hx,UInt8.toNat_ofNat'];omega
    · rw [decDigits_two h (by omega)] at hx
      simp only [List.mem_cons,List.not_mem_nil,or_false] at hx
      rcases hx with rfl | rfl <;> rw [UInt8.toNat_ofNat'] <;> omega
  have ha:=hi a h0 h1
  unfold tmS
  by_cases c1:a=0∧b = -1
  · rw [if_pos c1];exact ⟨by decide,by simp⟩
  rw [if_neg c1]
  by_cases c2:a=1∧b = -1
  · rw [if_pos c2];exact ⟨by decide,by simp⟩
  rw [if_neg c2]
  by_cases c3:a=0∧b=1
  · rw [if_pos c3];exact ⟨by decide,by simp⟩
  rw [if_neg c3]
  have k1:(123:UInt8).toNat<128:=by decide
  have k2:(44:UInt8).toNat<128:=by decide
  have k3:(125:UInt8).toNat<128:=by decide
  by_cases c4:b = -1
  · rw [if_pos c4]
    refine ⟨fun x hx=>?_,by simp;omega⟩
    simp only [List.mem_cons,List.mem_append,List.not_mem_nil,or_false] at hx
    rcases hx with rfl | hx | rfl | rfl
    · exact k1
    · exact ha x hx
    · exact k2
    · exact k3
  rw [if_neg c4]
  by_cases c5:a=b
  · rw [if_pos c5]
    refine ⟨fun x hx=>?_,by simp;omega⟩
    simp only [List.mem_cons,List.mem_append,List.not_mem_nil,or_false] at hx
    rcases hx with rfl | hx | rfl
    · exact k1
    · exact ha x hx
    · exact k3
  rw [if_neg c5]
  have hb:=hi b (by omega) h3
  refine ⟨fun x hx=>?_,by simp;omega⟩
  simp only [List.mem_cons,List.mem_append,List.not_mem_nil,or_false] at hx
  rcases hx with rfl | hx | rfl | hx | rfl
  · exact k1
  · exact ha x hx
  · exact k2
  · exact hb x hx
  · exact k3
end Go.Proofs.YthilboheomikjaaGreatDoor
end
section
namespace Go.Proofs.YthilboheomikjaaGreatDoor
open Go.AL Go.Lib
set_option maxRecDepth 100000
def grp (x:Zd) (t:List UInt8):List UInt8:=if x.f_Kind=3∨x.f_Kind=2 then 40 :: (t ++ [41]) else t
def jt:List (List UInt8)→List UInt8
  | []=>[]
  | t :: l=>124 :: (t ++ jt l)
def jn:List (List UInt8)→List UInt8
  | []=>[]
  | t :: l=>t ++ jt l
mutual
def prn:Zd→List UInt8
  | ⟨k,st,l,a,b⟩=>if k=1 then setS st else if k=3 then jn (prnL l) else if k=2 then (prnG l).flatten else prnH l ++ tmS a b
def prnL:List Zd→List (List UInt8)
  | []=>[]
  | x :: l=>prn x :: prnL l
def prnG:List Zd→List (List UInt8)
  | []=>[]
  | x :: l=>grp x (prn x) :: prnG l
def prnH:List Zd→List UInt8
  | []=>[]
  | x :: _=>if x.f_Kind≠1 then 40 :: (prn x ++ [41]) else prn x
end
theorem Zp2 (l:List Zd):prnL l=l.map prn:=by induction l with
  | nil=>rfl
  | cons x l ih=>simp only [prnL,List.map_cons,ih]
theorem Zp1 (l:List Zd):prnG l=l.map fun x=>grp x (prn x):=by induction l with
  | nil=>rfl
  | cons x l ih=>simp only [prnG,List.map_cons,ih]
theorem Zra (l:List (List UInt8)):joinTail [124] l=jt l:=by induction l with
  | nil=>rfl
  | cons t l ih=>
    unfold joinTail at ih ⊢
    simp only [List.map_cons,List.flatten_cons,jt,ih]
    rfl
theorem Zq9 (l:List (List UInt8)):Lib.join l [124]=jn l:=by cases l with
  | nil=>rfl
  | cons t l=>rw [join_cons,Zra];rfl
theorem ZoN (l:List (List UInt8)):Lib.join l []=l.flatten:=by cases l with
  | nil=>rfl
  | cons t l=>
    rw [join_cons]
    unfold joinTail
    simp
theorem Zbc {k:Int} {st:List Zb} {l:List Zd} {a b:Int} (hk:k=2∨k=3) (hs:sz ⟨k,st,l,a,b⟩≤200):sz ⟨k,st,l,a,b⟩=szL l+1:=by
  have e:sz ⟨k,st,l,a,b⟩=mn (szL l+1) 1000:=by rcases hk with rfl | rfl <;> simp [sz]
  rw [e] at hs ⊢
  exact mn_l (by rw [Zhq] at hs;omega)
theorem ZjI {st:List Zb} {x:Zd} {a b:Int} (hs:sz ⟨4,st,[x],a,b⟩≤200):sz x+1≤sz ⟨4,st,[x],a,b⟩:=by
  have e:sz ⟨4,st,[x],a,b⟩=mn (sz x*mn (mx (if b<0 then w64 (a+1) else b) 1) 1000+1) 1000:=by simp [sz,szH]
  have hx:=Zar x
  obtain ⟨h1,h2⟩:=mnmx (if b<0 then w64 (a+1) else b)
  rw [e] at hs ⊢
  have hm:sz x*1≤sz x*mn (mx (if b<0 then w64 (a+1) else b) 1) 1000:=Int.mul_le_mul_of_nonneg_left h1 (by omega)
  rw [mn_l (by rw [Zhq] at hs;omega)]
  omega
mutual
theorem Zhu:∀r:Zd,OK r→sz r≤200→fs r≤1600→((prn r).length:Int)+10≤25000*sz r
  | ⟨kd,st,l,a,b⟩,ho,hs,hf=>by
    simp only [OK] at ho
    simp only [fs] at hf
    obtain ⟨h0,hl⟩:=ho
    rcases h0 with ⟨rfl,_,h3,h4⟩ | ⟨rfl,_,h3,_⟩ | ⟨rfl,_,h3,_⟩ | ⟨rfl,h3,_,h5,h6,h7,h8⟩
    · have hc:Zaj st:=h4
      have:=(ZdR (Zfe hc (by omega)).2).2.2
      have e:sz ⟨1,st,l,a,b⟩=1:=by simp [sz]
      simp only [prn,if_true]
      rw [e];omega
    · have e:=Zbc (.inl rfl) hs
      rw [e] at hs ⊢
      have:=(Zh9 l hl (by omega) (by omega)).2
      simp only [prn,if_neg (show ¬(2:Int)=1 by omega),if_neg (show ¬(2:Int)=3 by omega),if_true]
      omega
    · have e:=Zbc (.inr rfl) hs
      rw [e] at hs ⊢
      have:=(Zh9 l hl (by omega) (by omega)).1
      have hj:(jn (prnL l)).length≤(jt (prnL l)).length:=by cases prnL l <;> simp [jn,jt]
      simp only [prn,if_neg (show ¬(3:Int)=1 by omega),if_true]
      omega
    · simp only at h3 h5 h6 h7 h8
      obtain ⟨x,rfl⟩:=List.length_eq_one_iff.1 h3
      have e:=ZjI hs
      have ht:=(Zii h5 h6 (b:=b) (by omega) h7).2
      simp only [fsL] at hf
      simp only [OKL] at hl
      have:=Zhu x hl.1 (by omega) (by omega)
      simp only [prn,if_neg (show ¬(4:Int)=1 by omega),if_neg (show ¬(4:Int)=3 by omega),if_neg (show ¬(4:Int)=2 by omega),prnH]
      split <;> simp only [List.length_append,List.length_cons,List.length_nil] <;> omega
theorem Zh9:∀l:List Zd,OKL l→szL l≤199→fsL l≤1600→((jt (prnL l)).length:Int)≤25000*szL l∧(((prnG l).flatten.length:Nat):Int)≤25000*szL l
  | [],_,_,_=>by simp [prnL,prnG,jt,szL]
  | x :: l,ho,hs,hf=>by
    simp only [OKL] at ho
    simp only [szL] at hs
    simp only [fsL] at hf
    have h1:=Zar x
    have h2:=Zax l
    have a1:=Zhu x ho.1 (by omega) (by omega)
    obtain ⟨b1,b2⟩:=Zh9 l ho.2 (by omega) (by omega)
    have hg:(grp x (prn x)).length≤(prn x).length+2:=by unfold grp;split <;> simp
    simp only [prnL,prnG,jt,szL,List.length_cons,List.length_append,List.flatten_cons]
    omega
end
theorem Zo8 {r:Zd} (ho:OK r) (hs:sz r≤200) (hf:fs r≤1600):(prn r).length≤5000000:=by
  have:=Zhu r ho hs hf;omega
theorem Znv {k:Nat} {v:Zd} (hl:v.f_L.length≤100000) (hb:(prnG v.f_L).flatten.length≤10000000):∀(l:List Zd) (pre:List (List UInt8)) (i m:Nat),v.f_L.drop i=l→pre.length=i→l.length<m→i≤v.f_L.length→pre ++ prnG l=prnG v.f_L→(∀x∈l,(prn x).length≤10000000)→
    ZdD k v m (pre ++ prnL l) (i:Int)=some (prnG v.f_L).flatten
  | [],pre,i,m,hd,hp,hm,hi,he,hx=>by
    obtain ⟨m,rfl⟩:∃q,m=q+1:=⟨m-1,by simp at hm;omega⟩
    have:=ZP hd
    simp only [prnG,prnL,List.append_nil] at he ⊢
    show ZeU _ _ _ _ _=_
    unfold ZeU F82
    rw [df (by omega),zf_,ZoN,if_pos ?_,zb_,he]
    have:(prnG v.f_L).length=v.f_L.length:=by rw [Zp1,List.length_map]
    rw [he];omega
  | x :: l,pre,i,m,hd,hp,hm,hi,he,hx=>by
    obtain ⟨m,rfl⟩:∃q,m=q+1:=⟨m-1,by simp at hm;omega⟩
    obtain ⟨h1,h2,h3⟩:=ZA hd
    simp only [List.length_cons] at hm
    have hpx:=hx x List.mem_cons_self
    have ih:=Znv (k:=k) hl hb l (pre ++ [grp x (prn x)]) (i+1) m h3 (by simp [hp]) (by omega) (by omega) (by rw [←he];simp [prnG]) fun y hy=>hx y (List.mem_cons_of_mem _ hy)
    rw [List.append_assoc] at ih
    show ZeU _ _ _ _ _=_
    unfold ZeU ZiH ZiI
    have hat:(pre ++ prnL (x :: l))[i]?=some (prn x):=by rw [List.getElem?_append_right (by omega),hp];simp [prnL]
    have hat2:i<(pre ++ prnL (x :: l)).length:=(List.getElem?_eq_some_iff.1 hat).1
    have hset:(pre ++ prnL (x :: l)).set i ([40] ++ prn x ++ [41])=pre ++ ([[40] ++ prn x ++ [41]] ++ prnL l):=by
      rw [List.set_append_right _ _ (by omega),hp,Nat.sub_self];rfl
    rw [dt (by omega),zt_,Zx,h2,zb_,ZR (by omega)]
    have yes:(if (0:Int)≤(i:Int)∧(i:Int)<((pre ++ prnL (x :: l)).length:Int) then (idxL (pre ++ prnL (x :: l)) (i:Int)).bind fun y162=>if ([40]:List UInt8).length+y162.length≤4611686018427387904 then if (([40]:List UInt8) ++ y162).length+([41]:List UInt8).length≤4611686018427387904 then if (0:Int)≤(i:Int)∧(i:Int)<((pre ++ prnL (x :: l)).length:Int) then (idxL (pre ++ prnL (x :: l)) (i:Int)).bind fun y166=>ZdD k v m ((pre ++ prnL (x :: l)).set (Int.toNat (i:Int)) ((([40]:List UInt8) ++ y162) ++ ([41]:List UInt8))) ((i+1:Nat):Int) else none else none else none else none)=ZdD k v m (pre ++ ([[40] ++ prn x ++ [41]] ++ prnL l)) ((i+1:Nat):Int):=by
      rw [if_pos ⟨by omega,by omega⟩,Zx,hat,zb_,if_pos (by simp;omega),if_pos (by simp;omega),if_pos ⟨by omega,by omega⟩,zb_,Int.toNat_natCast,hset]
    by_cases k3:x.f_Kind=3
    · rw [ZV k3,zt_,zt_,yes,←ih]
      unfold grp;rw [if_pos (.inl k3)];rfl
    · rw [ZF k3,zf_]
      by_cases k2:x.f_Kind=2
      · rw [ZV k2,zt_,yes,←ih]
        unfold grp;rw [if_pos (.inr k2)];rfl
      · rw [ZF k2,zf_,←ih]
        unfold grp;rw [if_neg (by omega)];rfl
theorem Zmf {R:Zd→Option (List UInt8)} {k:Nat} {v:Zd} (hl:v.f_L.length≤100000) (hR:∀x∈v.f_L,R x=some (prn x)):∀(l:List Zd) (acc:List (List UInt8)) (i m:Nat),v.f_L.drop i=l→l.length<m→i≤v.f_L.length→acc.length=i→
    ∃q,ZcJ R k v m acc (i:Int)=ZdC R k (ZcJ R k v q) v (acc ++ prnL l) (v.f_L.length:Int)
  | [],acc,i,m,hd,hm,hi,ha=>by
    obtain ⟨m,rfl⟩:∃q,m=q+1:=⟨m-1,by simp at hm;omega⟩
    have:=ZP hd
    obtain rfl:i=v.f_L.length:=by omega
    exact ⟨m,by simp only [prnL,List.append_nil];rfl⟩
  | x :: l,acc,i,m,hd,hm,hi,ha=>by
    obtain ⟨m,rfl⟩:∃q,m=q+1:=⟨m-1,by simp at hm;omega⟩
    obtain ⟨h1,h2,h3⟩:=ZA hd
    simp only [List.length_cons] at hm
    obtain ⟨q,e⟩:=Zmf (k:=k) hl hR l (acc ++ [prn x]) (i+1) m h3 (by omega) (by omega) (by simp [ha])
    refine ⟨q,?_⟩
    have e3:acc ++ prnL (x :: l)=acc ++ [prn x] ++ prnL l:=by simp [prnL]
    rw [e3,←e]
    show ZdC _ _ _ _ _ _=_
    unfold ZdC
    rw [dt (by omega),zt_,Zx,h2,zb_,hR x (List.mem_of_getElem? h2),zb_,if_pos (by simp;omega),ZR (by omega)]
theorem Znu:∀(k:Nat) (r:Zd),30000+dp r≤k→OK r→sz r≤200→fs r≤1600→F60 k r=some (prn r)
  | 0,r,hk,_,_,_=>by omega
  | k+1,⟨kd,st,l,a,b⟩,hk,ho,hs,hf=>by
    have hlen:=Zhu ⟨kd,st,l,a,b⟩ ho hs hf
    have ho':=ho
    simp only [OK] at ho
    obtain ⟨h0,hl⟩:=ho
    have hf':=hf
    simp only [fs] at hf
    simp only [dp] at hk
    have hsx:∀x∈l,sz x≤199:=fun x hx=>by
      have mem:∀t:List Zd,x∈t→sz x≤szL t:=fun t=>by
        induction t with
        | nil=>intro h;cases h
        | cons y t ih=>
          intro h
          have hy:=Zar y
          have ht:=Zax t
          simp only [szL]
          rcases List.mem_cons.1 h with rfl | h
          · omega
          · have:=ih h;omega
      have hm:=mem l hx
      rcases h0 with ⟨rfl,_,h3,_⟩ | ⟨rfl,_,h3,_⟩ | ⟨rfl,_,h3,_⟩ | ⟨rfl,h3,_,h5,h6,h7,h8⟩
      · simp only at h3;subst h3;cases hx
      · have e:=Zbc (.inl rfl) hs;omega
      · have e:=Zbc (.inr rfl) hs;omega
      · obtain ⟨y,rfl⟩:=List.length_eq_one_iff.1 (show l.length=1 from h3)
        have:=ZjI hs
        rw [List.mem_singleton.1 hx];omega
    have hR:∀x∈l,F60 k x=some (prn x):=fun x hx=>by
      have h1:=Zbw.1 (Nat.le_refl (dpL l)) x hx
      have h2:=ZaP hx
      have h3:=hsx x hx
      exact Znu k x (by omega) (ZbH.1 hl x hx) (by omega) (by omega)
    have hll:l.length≤100000:=by omega
    show Zk5 (F60 k) k _=_
    unfold Zk5
    obtain ⟨q,e⟩:=Zmf (R:=F60 k) (k:=k) (v:=⟨kd,st,l,a,b⟩) hll hR l [] 0 k rfl (by omega) (Nat.zero_le _) rfl
    have e':ZcJ (F60 k) k ⟨kd,st,l,a,b⟩ k [] 0=ZdC (F60 k) k (ZcJ (F60 k) k ⟨kd,st,l,a,b⟩ q) ⟨kd,st,l,a,b⟩ ([] ++ prnL l) (l.length:Int):=e
    rw [e',List.nil_append]
    unfold ZdC
    rw [df (by show ¬(l.length:Int)<(l.length:Int);omega),zf_]
    have hpL:(prnL l).length=l.length:=by rw [Zp2,List.length_map]
    rcases h0 with ⟨rfl,_,h3,h4⟩ | ⟨rfl,_,h3,_⟩ | ⟨rfl,_,h3,_⟩ | ⟨rfl,h3,_,h5,h6,h7,h8⟩
    · simp only at h3 h4
      rw [ZV rfl,zt_,(Zfe h4 (by omega)).1 k (by omega)]
      simp [prn]
    · rw [ZF (show ¬(2:Int)=1 by omega),zf_,ZF (show ¬(2:Int)=3 by omega),zf_,ZV rfl,zt_]
      have h5:prn ⟨2,st,l,a,b⟩=(prnG l).flatten:=by simp [prn]
      rw [h5] at hlen ⊢
      have:=Znv (k:=k) (v:=⟨2,st,l,a,b⟩) hll (by show (prnG l).flatten.length≤_;omega) l [] 0 k rfl rfl (by omega) (Nat.zero_le _) rfl fun x hx=>by
        have h2:=ZaP hx
        have h3:=hsx x hx
        have:=Zo8 (ZbH.1 hl x hx) (by omega) (by omega)
        omega
      exact this
    · rw [ZF (show ¬(3:Int)=1 by omega),zf_,ZV rfl,zt_]
      have h5:prn ⟨3,st,l,a,b⟩=jn (prnL l):=by simp [prn]
      rw [h5] at hlen ⊢
      unfold F82
      rw [Zq9,if_pos ⟨by omega,by omega⟩,zb_]
    · simp only at h3 h5 h6 h7 h8
      obtain ⟨x,rfl⟩:=List.length_eq_one_iff.1 h3
      have hx:=hsx x List.mem_cons_self
      simp only [fsL] at hf
      have hpx:=Zo8 (ZbH.1 hl x List.mem_cons_self) (by omega) (by omega)
      have ht:=(Zii h5 h6 (b:=b) (by omega) h7).2
      have h9:prn ⟨4,st,[x],a,b⟩=prnH [x] ++ tmS a b:=by simp [prn]
      rw [ZF (show ¬(4:Int)=1 by omega),zf_,ZF (show ¬(4:Int)=3 by omega),zf_,ZF (show ¬(4:Int)=2 by omega),zf_,h9]
      have e0:idxL [x] 0=some x:=rfl
      have e1:idxL (prnL [x]) 0=some (prn x):=rfl
      have ej:∀t:List UInt8,t.length≤6000000→Zf6 k ⟨4,st,[x],a,b⟩ [t]=some (t ++ tmS a b):=fun t htl=>by
        unfold Zf6
        rw [if_pos ⟨by omega,by show (0:Int)<((1:Nat):Int);omega⟩]
        show (some t).bind _=_
        rw [zb_,Zp9 h5 h6 (by omega) h7,zb_,if_pos (by omega)]
      simp only [prnH]
      by_cases k1:x.f_Kind=1
      · rw [if_neg (show ¬(x.f_Kind≠1) from fun h=>h k1),←ej (prn x) (by omega)]
        rw [e0,zb_,show (x.f_Kind != 1)=false by simp [k1],zf_]
        rfl
      · rw [if_pos k1,←ej (40 :: (prn x ++ [41])) (by simp;omega)]
        rw [e0,zb_,show (x.f_Kind != 1)=true by simp [k1],zt_,if_pos ⟨by omega,by show (0:Int)<((1:Nat):Int);omega⟩,e1,zb_,if_pos (by simp;omega),if_pos (by simp;omega),if_pos ⟨by omega,by show (0:Int)<((1:Nat):Int);omega⟩]
        rfl
end Go.Proofs.YthilboheomikjaaGreatDoor
end
section
namespace Go.Proofs.YthilboheomikjaaGreatDoor
open Go.AL Go.Lib
set_option maxRecDepth 100000
mutual
def fl:Zd→Zd
  | ⟨k,st,l,a,b⟩=>if k=3 then ⟨3,[],flA l,0,0⟩ else ⟨k,st,flL l,a,b⟩
def flL:List Zd→List Zd
  | []=>[]
  | x :: l=>fl x :: flL l
def flA:List Zd→List Zd
  | []=>[]
  | x :: l=>(if x.f_Kind=3 then (fl x).f_L else [fl x]) ++ flA l
end
mutual
def al:Zd→List Zd
  | ⟨k,st,l,a,b⟩=>if k=3 then alL l else [⟨k,st,l,a,b⟩]
def alL:List Zd→List Zd
  | []=>[]
  | x :: l=>al x ++ alL l
end
theorem Zng (l:List Zd):flL l=l.map fl:=by induction l with
  | nil=>rfl
  | cons x l ih=>simp only [flL,List.map_cons,ih]
theorem ZrO {r:Zd} (h:r.f_Kind≠3):al r=[r]:=by
  obtain ⟨k,st,l,a,b⟩:=r
  simp only at h
  simp only [al,if_neg h]
mutual
theorem Zqi:∀r:Zd,(al r).map fl=if r.f_Kind=3 then (fl r).f_L else [fl r]
  | ⟨k,st,l,a,b⟩=>by
    by_cases h:k=3
    · subst h
      simp only [al,if_true,fl]
      exact ZoC l
    · simp only [al,if_neg h,List.map_cons,List.map_nil]
theorem ZoC:∀l:List Zd,(alL l).map fl=flA l
  | []=>rfl
  | x :: l=>by
    simp only [alL,List.map_append,flA,Zqi x,ZoC l]
end
theorem Zr1 (a b:List (List UInt8)):jt (a ++ b)=jt a ++ jt b:=by induction a with
  | nil=>rfl
  | cons t a ih=>simp only [List.cons_append,jt,ih,List.append_assoc]
theorem Zso {a:List (List UInt8)} (h:a≠[]):jt a=124 :: jn a:=by cases a with
  | nil=>exact absurd rfl h
  | cons t a=>rfl
mutual
theorem ZoD:∀r:Zd,OK r→sz r≤200→(al r≠[]∧jt ((al r).map prn)=124 :: prn r∧((al r).length:Int)≤sz r∧(r.f_Kind=3→2≤(al r).length)∧∀y∈al r,OK y∧y.f_Kind≠3∧dp y≤dp r∧sz y≤sz r∧fs y≤fs r)
  | ⟨k,st,l,a,b⟩,ho,hs=>by
    by_cases h:k=3
    · subst h
      simp only [OK] at ho
      obtain ⟨h0,hl⟩:=ho
      have h2:2≤l.length:=by
        rcases h0 with ⟨h,_⟩ | ⟨h,_⟩ | ⟨_,_,h,_⟩ | ⟨h,_⟩
        · simp only at h;omega
        · simp only at h;omega
        · exact h
        · simp only at h;omega
      have e:=Zbc (.inr rfl) hs
      rw [e] at hs ⊢
      obtain ⟨a1,a2,a3,a4⟩:=Zm6 l hl (by omega)
      have hne:alL l≠[]:=fun h=>by rw [h,List.length_nil] at a3;omega
      have hpe:prnL l≠[]:=by cases l with
        | nil=>simp at h2
        | cons x l=>simp [prnL]
      simp only [al,if_true,prn,if_neg (show ¬(3:Int)=1 by omega)]
      refine ⟨hne,by rw [a1,Zso hpe],by omega,fun _=>by omega,fun y hy=>?_⟩
      obtain ⟨b1,b2,b3,b4,b5⟩:=a4 y hy
      simp only [dp,fs]
      exact ⟨b1,b2,by omega,by omega,by omega⟩
    · have ea:al ⟨k,st,l,a,b⟩=[⟨k,st,l,a,b⟩]:=ZrO h
      rw [ea]
      refine ⟨by simp,by simp [jt],by have:=(Zar ⟨k,st,l,a,b⟩).1;simpa using this,fun hh=>absurd hh h,fun y hy=>?_⟩
      rw [List.mem_singleton] at hy
      subst hy
      exact ⟨ho,h,Nat.le_refl _,Int.le_refl _,Nat.le_refl _⟩
theorem Zm6:∀l:List Zd,OKL l→szL l≤199→(jt ((alL l).map prn)=jt (prnL l)∧((alL l).length:Int)≤szL l∧l.length≤(alL l).length∧∀y∈alL l,OK y∧y.f_Kind≠3∧dp y≤dpL l∧sz y≤szL l∧fs y≤fsL l)
  | [],_,_=>⟨rfl,by simp [alL,szL],by simp [alL],fun y hy=>by cases hy⟩
  | x :: l,ho,hs=>by
    simp only [OKL] at ho
    simp only [szL] at hs
    have h1:=Zar x
    have h2:=Zax l
    obtain ⟨a0,a1,a2,_,a3⟩:=ZoD x ho.1 (by omega)
    obtain ⟨b1,b2,b3,b4⟩:=Zm6 l ho.2 (by omega)
    have hl:1≤(al x).length:=by cases h:al x with
      | nil=>exact absurd h a0
      | cons _ _=>simp
    simp only [alL,List.map_append,prnL,Zr1,a1,b1,List.length_append,List.length_cons,szL,dpL,fsL,jt]
    refine ⟨by simp,by omega,by omega,fun y hy=>?_⟩
    rcases List.mem_append.1 hy with hy | hy
    · obtain ⟨c1,c2,c3,c4,c5⟩:=a3 y hy
      exact ⟨c1,c2,by omega,by omega,by omega⟩
    · obtain ⟨c1,c2,c3,c4,c5⟩:=b4 y hy
      exact ⟨c1,c2,by omega,by omega,by omega⟩
end
theorem Hd.app {t:List UInt8} (h:Hd t) (u:List UInt8):Hd (t ++ u):=by
  obtain ⟨x,v,e,h⟩:=h
  exact ⟨x,v ++ u,by rw [e];rfl,h⟩
theorem ZnW (t:List UInt8):Hd (40 :: t):=⟨40,t,rfl,by decide⟩
theorem Zmb {st:List Zb} {l:List Zd} {a b:Int} (ho:OK ⟨1,st,l,a,b⟩):l=[]∧a=0∧b=0∧Zaj st:=by
  simp only [OK] at ho
  rcases ho.1 with ⟨_,⟨h1,h2⟩,h3,h4⟩ | ⟨h,_⟩ | ⟨h,_⟩ | ⟨h,_⟩
  · exact ⟨h3,h1,h2,h4⟩
  all_goals simp only at h;omega
theorem Znp {r:Zd} (ho:OK r):r.f_Kind=1∨r.f_Kind=2∨r.f_Kind=3∨r.f_Kind=4:=by
  obtain ⟨k,st,l,a,b⟩:=r
  simp only [OK] at ho
  rcases ho.1 with ⟨h,_⟩ | ⟨h,_⟩ | ⟨h,_⟩ | ⟨h,_⟩ <;> simp only at h ⊢ <;> omega
theorem ZpB {k q:Nat} {s t u:List UInt8} {v:Zd} {R51:Zf→Option (Zd×Zf)} (hs:s.length≤1000000) (hd:s.drop q=40 :: (t ++ 41 :: u)) (hR:R51 (rx s (q+1) false false)=some (v,rx s (q+1+t.length) false false)) :
    F119 R51 k (rx s q false false)=some (v,rx s (q+(t.length+2)) false false):=by
  have hd1:=Zag (ZA hd).2.2
  unfold F119
  rw [Zav,zb_,show (46:Int)=((46:UInt8).toNat:Int) from rfl,Zac hd (by decide),zb_]
  simp only [zf_]
  rw [show (40:Int)=((40:UInt8).toNat:Int) from rfl,ZaB hs hd,zb_]
  simp only [zt_]
  rw [hR,zb_]
  simp only
  rw [show (41:Int)=((41:UInt8).toNat:Int) from rfl,ZaB hs hd1,zb_]
  unfold ZgR
  simp only [Bool.not_true,zf_]
  congr 3;omega
def Pc (R:Zf→Option (Zd×Zf)) (r:Zd):Prop:=∀(s u:List UInt8) (q:Nat),s.length≤1000000→s.drop q=prn r ++ u→(u=[]∨∃t,u=41 :: t)→R (rx s q false false)=some (fl r,rx s (q+(prn r).length) false false)
theorem ZhV {k q:Nat} {s u:List UInt8} {z:Zd} {R51:Zf→Option (Zd×Zf)} (hk:5000≤k) (hs:s.length≤1000000) (ho:OK z) (hf:fs z≤1600) (hP:z.f_Kind≠1→Pc R51 z) (hd:s.drop q=prnH [z] ++ u) :
    F119 R51 k (rx s q false false)=some (fl z,rx s (q+(prnH [z]).length) false false)∧Hd (prnH [z]):=by
  by_cases h1:z.f_Kind=1
  · have e:prnH [z]=prn z:=by simp only [prnH];rw [if_neg (fun h=>h h1)]
    rw [e] at hd ⊢
    obtain ⟨kd,st,l,a,b⟩:=z
    simp only at h1;subst h1
    obtain ⟨rfl,rfl,rfl,hc⟩:=Zmb ho
    simp only [fs,List.length_nil] at hf
    have e1:prn ⟨1,st,[],0,0⟩=setS st:=by simp [prn]
    have e2:fl ⟨1,st,[],0,0⟩=⟨1,st,[],0,0⟩:=by simp [fl,flL]
    rw [e1] at hd ⊢
    rw [e2]
    have ht:=(Zfe hc (by omega)).2
    exact ⟨ZpC hk hs hc (by omega) ht hd,(ZdR ht).2.1⟩
  · have e:prnH [z]=40 :: (prn z ++ [41]):=by simp only [prnH];rw [if_pos h1]
    rw [e] at hd ⊢
    have hd2:s.drop q=40 :: (prn z ++ 41 :: u):=by rw [hd];simp
    refine ⟨?_,ZnW _⟩
    rw [ZpB hs hd2 (hP h1 s (41 :: u) (q+1) hs (ZA hd2).2.2 (.inr ⟨u,rfl⟩))]
    simp
theorem ZjK {k:Nat} {R51:Zf→Option (Zd×Zf)} {r:Zf}:F101 R51 k r=(F119 R51 k r).bind (Zgz k):=rfl
theorem ZfG {k n q:Nat} {s u:List UInt8} {x:Zd} {R51:Zf→Option (Zd×Zf)} (hk:5000≤k) (hs:s.length≤1000000) (ho:OK x) (hf:fs x≤1600) (hz:sz x≤200)
    (hP:∀z,OK z→dp z<n→sz z≤200→fs z≤1600→Pc R51 z) (hn:dp x≤n) (hn2:x.f_Kind=2∨x.f_Kind=3→dp x<n) (hd:s.drop q=grp x (prn x) ++ u) (hu:Nx u) :
    F101 R51 k (rx s q false false)=some (fl x,rx s (q+(grp x (prn x)).length) false false)∧Hd (grp x (prn x)):=by
  have hkd:=Znp ho
  by_cases h23:x.f_Kind=3∨x.f_Kind=2
  · have e:grp x (prn x)=prnH [x]:=by unfold grp;rw [if_pos h23];simp only [prnH];rw [if_pos (by omega)]
    rw [e] at hd ⊢
    obtain ⟨h1,h2⟩:=ZhV hk hs ho hf (fun _=>hP x ho (hn2 (by omega)) hz hf) hd
    refine ⟨?_,h2⟩
    rw [ZjK,h1,zb_,Zjo (Zag hd) hu]
  · have e:grp x (prn x)=prn x:=by unfold grp;rw [if_neg h23]
    rw [e] at hd ⊢
    by_cases h1:x.f_Kind=1
    · have e2:prn x=prnH [x]:=by simp only [prnH];rw [if_neg (fun h=>h h1)]
      rw [e2] at hd ⊢
      obtain ⟨h1,h2⟩:=ZhV hk hs ho hf (fun h=>absurd h1 h) hd
      refine ⟨?_,h2⟩
      rw [ZjK,h1,zb_,Zjo (Zag hd) hu]
    · have h4:x.f_Kind=4:=by omega
      obtain ⟨kd,st,l,a,b⟩:=x
      simp only at h4;subst h4
      have ho':=ho
      simp only [OK] at ho
      rcases ho.1 with ⟨h,_⟩ | ⟨h,_⟩ | ⟨h,_⟩ | ⟨_,g1,g2,g3,g4,g5,g6⟩
      · simp only at h;omega
      · simp only at h;omega
      · simp only at h;omega
      simp only at g1 g2 g3 g4 g5 g6
      subst g2
      obtain ⟨z,rfl⟩:=List.length_eq_one_iff.1 g1
      have hz2:=ZjI hz
      simp only [fs,fsL] at hf
      simp only [dp,dpL] at hn
      have e2:prn ⟨4,[],[z],a,b⟩=prnH [z] ++ tmS a b:=by simp [prn]
      have e3:fl ⟨4,[],[z],a,b⟩=⟨4,[],[fl z],a,b⟩:=by simp [fl,flL]
      rw [e2,List.append_assoc] at hd
      rw [e2,e3]
      have hzo:OK z:=ho.2.1
      obtain ⟨h1,h2⟩:=ZhV hk hs hzo (by omega) (fun _=>hP z hzo (by omega) (by omega) (by omega)) hd
      refine ⟨?_,h2.app _⟩
      rw [ZjK,h1,zb_,Zob (by omega) hs g3 g4 g5 g6 (Zag hd)]
      simp only [List.length_append]
      congr 3;omega
def seqF (acc:List Zd):Zd:=if h:acc.length=1 then acc[0] else ⟨2,[],acc,0,0⟩
theorem Zrn {acc:List Zd} {r:Zf}:(cond ((acc.length:Int) == 1) (if (0:Int)≤0∧0<(acc.length:Int) then (idxL acc 0).bind fun y136=>(some (y136,r)) else none) ((some ((⟨2,([]:List Zb),acc,0,0⟩:Zd),r))))=some (seqF acc,r):=by
  unfold seqF
  by_cases h:acc.length=1
  · obtain ⟨x,rfl⟩:=List.length_eq_one_iff.1 h
    rfl
  · rw [ZF (by omega),zf_,dif_neg h]
def ZcN (u:List UInt8):Prop:=u=[]∨(∃t,u=41 :: t)∨∃t,u=124 :: t
theorem ZcN.nx {u:List UInt8} (h:ZcN u):Nx u:=fun x t e=>by
  rcases h with h | ⟨v,h⟩ | ⟨v,h⟩
  · rw [h] at e;cases e
  · rw [h] at e;cases e;decide
  · rw [h] at e;cases e;decide
theorem Hd.nx {t:List UInt8} (h:Hd t) (u:List UInt8):Nx (t ++ u):=fun x v e=>by
  obtain ⟨y,w,e2,h1,h2,h3,h4,h5,h6⟩:=h
  rw [e2] at e
  obtain ⟨rfl,_⟩:=List.cons.inj e
  exact ⟨h3,h4,h5,h6⟩
theorem Zif {k:Nat} {s u:List UInt8} {R51:Zf→Option (Zd×Zf)} (hs:s.length≤1000000) (hu:ZcN u):∀(L acc:List Zd) (q m:Nat),
    (∀x∈L,Hd (grp x (prn x))∧∀(q:Nat) (v:List UInt8),s.drop q=grp x (prn x) ++ v→Nx v→F101 R51 k (rx s q false false)=some (fl x,rx s (q+(grp x (prn x)).length) false false))→
    s.drop q=(prnG L).flatten ++ u→L.length<m→acc.length+L.length≤100000→
    ZcL R51 k m (rx s q false false) acc=some (seqF (acc ++ flL L),rx s (q+(prnG L).flatten.length) false false)
  | [],acc,q,m,hp,hd,hm,ha=>by
    obtain ⟨m,rfl⟩:∃q,m=q+1:=⟨m-1,by simp at hm;omega⟩
    simp only [prnG,List.flatten_nil,List.nil_append] at hd
    show ZeY _ _ _ _ _=_
    have fin:ZcK R51 k (ZcL R51 k m) (rx s q false false) acc false=some (seqF (acc ++ flL []),rx s (q+(prnG []).flatten.length) false false):=by
      unfold ZcK
      rw [zf_,Zrn]
      simp [flL,prnG]
    unfold ZeY
    show cond true _ _=_
    have hid:decide ((rx s q false false).f_I<((rx s q false false).f_S.length:Int))=decide (q<s.length):=decide_eq_decide.2 (by show (q:Int)<(s.length:Int)↔_;omega)
    rw [zt_,hid]
    rcases hu with rfl | ⟨t,rfl⟩ | ⟨t,rfl⟩
    · have:=ZP hd
      rw [df (by omega),zf_];exact fin
    · obtain ⟨h1,h2,_⟩:=ZA hd
      rw [dt h1,zt_,Zav,zb_,ZaQ h2,show (((41:UInt8).toNat:Int) != 124)=true from rfl,zt_,zb_,show (((41:UInt8).toNat:Int) != 41)=false from rfl]
      exact fin
    · obtain ⟨h1,h2,_⟩:=ZA hd
      rw [dt h1,zt_,Zav,zb_,ZaQ h2,show (((124:UInt8).toNat:Int) != 124)=false from rfl,zf_]
      exact fin
  | x :: L,acc,q,m,hp,hd,hm,ha=>by
    obtain ⟨m,rfl⟩:∃q,m=q+1:=⟨m-1,by simp at hm;omega⟩
    simp only [List.length_cons] at hm ha
    obtain ⟨hh,hr⟩:=hp x List.mem_cons_self
    simp only [prnG,List.flatten_cons,List.append_assoc] at hd
    have hnx:Nx ((prnG L).flatten ++ u):=by
      cases L with
      | nil=>exact hu.nx
      | cons y L=>
        simp only [prnG,List.flatten_cons,List.append_assoc]
        exact (hp y (List.mem_cons_of_mem _ List.mem_cons_self)).1.nx _
    have h1:=hr q _ hd hnx
    obtain ⟨z,w,e2,n1,n2,_⟩:=hh
    obtain ⟨g1,g2,_⟩:=ZA (show s.drop q=z :: (w ++ ((prnG L).flatten ++ u)) by rw [hd,e2];rfl)
    have ih:=Zif (k:=k) (R51:=R51) hs hu L (acc ++ [fl x]) (q+(grp x (prn x)).length) m (fun y hy=>hp y (List.mem_cons_of_mem _ hy)) (Zag hd) (by omega) (by simp;omega)
    show ZeY _ _ _ _ _=_
    unfold ZeY ZcK
    show cond true _ _=_
    have hid:decide ((rx s q false false).f_I<((rx s q false false).f_S.length:Int))=decide (q<s.length):=decide_eq_decide.2 (by show (q:Int)<(s.length:Int)↔_;omega)
    have b1:((z.toNat:Int) != 124)=true:=by have:=Zl6 n1;simpa using this
    have b2:((z.toNat:Int) != 41)=true:=by have:=Zl6 n2;simpa using this
    rw [zt_,hid,dt g1,zt_,Zav,zb_,ZaQ g2,b1,zt_,zb_,b2,zt_,h1,zb_,if_pos (by simp;omega)]
    simp only
    rw [ih]
    simp only [flL,prnG,List.flatten_cons,List.length_append,List.append_assoc,List.singleton_append]
    congr 3;omega
theorem ZpW {k n q:Nat} {s u:List UInt8} {y:Zd} {R51:Zf→Option (Zd×Zf)} (hk:5000≤k) (hs:s.length≤1000000) (ho:OK y) (h3:y.f_Kind≠3) (hf:fs y≤1600) (hz:sz y≤200) (hn:dp y≤n)
    (hP:∀z,OK z→dp z<n→sz z≤200→fs z≤1600→Pc R51 z) (hd:s.drop q=prn y ++ u) (hu:ZcN u) :
    F73 R51 k (rx s q false false)=some (fl y,rx s (q+(prn y).length) false false):=by
  by_cases h2:y.f_Kind=2
  · obtain ⟨kd,st,l,a,b⟩:=y
    simp only at h2;subst h2
    have ho':=ho
    simp only [OK] at ho
    rcases ho.1 with ⟨h,_⟩ | ⟨_,⟨g1,g2⟩,g3,g4⟩ | ⟨h,_⟩ | ⟨h,_⟩
    · simp only at h;omega
    · simp only at g1 g2 g3 g4
      subst g1;subst g2;subst g4
      have e1:prn ⟨2,[],l,0,0⟩=(prnG l).flatten:=by simp [prn]
      have e2:fl ⟨2,[],l,0,0⟩=⟨2,[],flL l,0,0⟩:=by simp [fl]
      have es:=Zbc (.inl rfl) hz
      simp only [fs] at hf
      simp only [dp] at hn
      rw [e1] at hd ⊢
      rw [e2]
      show ZcL R51 k k _ []=_
      rw [Zif hs hu l [] q k (fun x hx=>?_) hd (by omega) (by simp;omega),List.nil_append]
      · unfold seqF
        rw [dif_neg (by rw [Zng,List.length_map];exact g3)]
      · have f1:=Zbw.1 (Nat.le_refl (dpL l)) x hx
        have f2:=ZaP hx
        have mem:∀t:List Zd,x∈t→sz x≤szL t:=fun t=>by
          induction t with
          | nil=>intro h;cases h
          | cons y t ih=>
            intro h
            have hy:=Zar y
            have ht:=Zax t
            simp only [szL]
            rcases List.mem_cons.1 h with rfl | h
            · omega
            · have:=ih h;omega
        have f3:=mem l hx
        have hxo:=ZbH.1 ho.2 x hx
        have pr:=fun (q:Nat) (v:List UInt8) h1 h2=>ZfG (k:=k) (n:=n) (q:=q) (s:=s) (u:=v) (x:=x) (R51:=R51) hk hs hxo (by omega) (by omega) hP (by omega) (fun _=>by omega) h1 h2
        refine ⟨?_,fun q v h1 h2=>(pr q v h1 h2).1⟩
        have hkd:=Znp hxo
        unfold grp
        split
        · exact ZnW _
        · rename_i hng
          obtain ⟨kd,st,l',a',b'⟩:=x
          simp only at hkd hng
          rcases hkd with rfl | rfl | rfl | rfl
          · obtain ⟨rfl,rfl,rfl,hc⟩:=Zmb hxo
            simp only [fs] at f2
            have:prn ⟨1,st,[],0,0⟩=setS st:=by simp [prn]
            rw [this];exact (ZdR (Zfe hc (by omega)).2).2.1
          · omega
          · omega
          · have hxo':=hxo
            simp only [OK] at hxo
            rcases hxo.1 with ⟨h,_⟩ | ⟨h,_⟩ | ⟨h,_⟩ | ⟨_,p1,p2,p3,p4,p5,p6⟩
            · simp only at h;omega
            · simp only at h;omega
            · simp only at h;omega
            simp only at p1
            obtain ⟨z,rfl⟩:=List.length_eq_one_iff.1 p1
            have e:prn ⟨4,st,[z],a',b'⟩=prnH [z] ++ tmS a' b':=by simp [prn]
            rw [e]
            refine Hd.app ?_ _
            simp only [prnH]
            split
            · exact ZnW _
            · rename_i hz1
              obtain ⟨kz,sz',lz,az,bz⟩:=z
              have hk1:kz=1:=Decidable.byContradiction fun h=>hz1 h
              subst hk1
              obtain ⟨rfl,rfl,rfl,hc⟩:=Zmb hxo.2.1
              simp only [fs,fsL] at f2
              have:prn ⟨1,sz',[],0,0⟩=setS sz':=by simp [prn]
              rw [this];exact (ZdR (Zfe hc (by omega)).2).2.1
    · simp only at h;omega
    · simp only at h;omega
  · have e:grp y (prn y)=prn y:=by unfold grp;rw [if_neg (by omega)]
    have hd2:s.drop q=grp y (prn y) ++ u:=by rw [e];exact hd
    have pr:=ZfG (k:=k) (R51:=R51) hk hs ho hf hz hP hn (fun h=>by omega) hd2 hu.nx
    have hd3:s.drop q=(prnG [y]).flatten ++ u:=by rw [hd2];simp [prnG]
    show ZcL R51 k k _ []=_
    rw [Zif hs hu [y] [] q k (fun x hx=>?_) hd3 (by simp;omega) (by simp),List.nil_append]
    · have:(prnG [y]).flatten=prn y:=by simp [prnG,e]
      rw [this];rfl
    · rw [List.mem_singleton] at hx;subst hx
      exact ⟨pr.2,fun q v h1 h2=>(ZfG (k:=k) (R51:=R51) hk hs ho hf hz hP hn (fun h=>by omega) h1 h2).1⟩
def altF (acc:List Zd):Zd:=if h:acc.length=1 then acc[0] else ⟨3,[],acc,0,0⟩
theorem ZqX {acc:List Zd} {r:Zf}:(cond ((acc.length:Int) == 1) (if (0:Int)≤0∧0<(acc.length:Int) then (idxL acc 0).bind fun y122=>(some (y122,r)) else none) ((some ((⟨3,([]:List Zb),acc,0,0⟩:Zd),r))))=some (altF acc,r):=by
  unfold altF
  by_cases h:acc.length=1
  · obtain ⟨x,rfl⟩:=List.length_eq_one_iff.1 h
    rfl
  · rw [ZF (by omega),zf_,dif_neg h]
theorem ZlE {k:Nat} {s u:List UInt8} {R51:Zf→Option (Zd×Zf)} (hs:s.length≤1000000) (hu:u=[]∨∃t,u=41 :: t):∀(L acc:List Zd) (q m:Nat),
    (∀y∈L,∀(q:Nat) (v:List UInt8),s.drop q=prn y ++ v→ZcN v→F73 R51 k (rx s q false false)=some (fl y,rx s (q+(prn y).length) false false))→
    s.drop q=jt (L.map prn) ++ u→L.length<m→acc.length+L.length≤100000→
    Zf2 R51 k m (rx s q false false) acc=some (altF (acc ++ L.map fl),rx s (q+(jt (L.map prn)).length) false false)
  | [],acc,q,m,hp,hd,hm,ha=>by
    obtain ⟨m,rfl⟩:∃q,m=q+1:=⟨m-1,by simp at hm;omega⟩
    simp only [List.map_nil,jt,List.nil_append] at hd
    show ZeP _ _ _ _ _=_
    unfold ZeP
    rw [show (124:Int)=((124:UInt8).toNat:Int) from rfl,ZgF hd fun x t e=>(by
      rcases hu with h | ⟨v,h⟩
      · rw [h] at e;cases e
      · rw [h] at e;cases e;decide),zb_]
    simp only [zf_]
    rw [ZqX]
    simp [jt]
  | y :: L,acc,q,m,hp,hd,hm,ha=>by
    obtain ⟨m,rfl⟩:∃q,m=q+1:=⟨m-1,by simp at hm;omega⟩
    simp only [List.length_cons] at hm ha
    have hd0:s.drop q=124 :: (prn y ++ (jt (L.map prn) ++ u)):=by rw [hd];simp [jt]
    have hd1:=(ZA hd0).2.2
    have hend:ZcN (jt (L.map prn) ++ u):=by
      cases L with
      | nil=>
        rcases hu with h | ⟨v,h⟩
        · exact .inl (by simp [jt,h])
        · exact .inr (.inl ⟨v,by simp [jt,h]⟩)
      | cons z L=>exact .inr (.inr ⟨_,by simp only [List.map_cons,jt,List.cons_append];rfl⟩)
    have h1:=hp y List.mem_cons_self (q+1) _ hd1 hend
    have ih:=ZlE (k:=k) (R51:=R51) hs hu L (acc ++ [fl y]) (q+1+(prn y).length) m (fun z hz=>hp z (List.mem_cons_of_mem _ hz)) (Zag hd1) (by omega) (by simp;omega)
    show ZeP _ _ _ _ _=_
    unfold ZeP
    rw [show (124:Int)=((124:UInt8).toNat:Int) from rfl,ZaB hs hd0,zb_]
    simp only [zt_]
    rw [h1,zb_,if_pos (by simp;omega)]
    simp only
    rw [ih]
    simp only [List.map_cons,jt,List.length_cons,List.length_append,List.append_assoc,List.singleton_append]
    congr 3;omega
theorem Zmh:∀(n k:Nat) (r:Zd),5000+n≤k→OK r→dp r≤n→sz r≤200→fs r≤1600→Pc (F51 k) r
  | 0,k,r,hk,ho,hn,hz,hf=>by have:=Zi9 r;omega
  | n+1,k,r,hk,ho,hn,hz,hf=>by
    obtain ⟨k,rfl⟩:∃q,k=q+1:=⟨k-1,by omega⟩
    intro s u q hs hd hu
    have hP:∀z,OK z→dp z<n+1→sz z≤200→fs z≤1600→Pc (F51 k) z:=fun z h1 h2 h3 h4=>Zmh n k z (by omega) h1 (by omega) h3 h4
    obtain ⟨a0,a1,a2,a3,a4⟩:=ZoD r ho hz
    show Zk3 (F51 k) k _=_
    cases hal:al r with
    | nil=>exact absurd hal a0
    | cons y L=>
      rw [hal] at a1 a2 a3 a4
      have e1:prn r=prn y ++ jt (L.map prn):=by
        simp only [List.map_cons,jt] at a1
        exact (List.cons.inj a1).2.symm
      have hone:∀z∈y :: L,∀(q:Nat) (v:List UInt8),s.drop q=prn z ++ v→ZcN v→F73 (F51 k) k (rx s q false false)=some (fl z,rx s (q+(prn z).length) false false):=fun z hzm q v h1 h2=>by
        obtain ⟨c1,c2,c3,c4,c5⟩:=a4 z hzm
        exact ZpW (n:=n+1) (by omega) hs c1 c2 (by omega) (by omega) (by omega) hP h1 h2
      rw [e1,List.append_assoc] at hd
      have hend:ZcN (jt (L.map prn) ++ u):=by
        cases L with
        | nil=>
          rcases hu with h | ⟨v,h⟩
          · exact .inl (by simp [jt,h])
          · exact .inr (.inl ⟨v,by simp [jt,h]⟩)
        | cons z L=>exact .inr (.inr ⟨_,by simp only [List.map_cons,jt,List.cons_append];rfl⟩)
      unfold Zk3
      simp only [List.length_cons] at a2
      rw [hone y List.mem_cons_self q _ hd hend,zb_]
      simp only
      rw [ZlE hs hu L [fl y] (q+(prn y).length) k (fun z hz=>hone z (List.mem_cons_of_mem _ hz)) (Zag hd) (by omega) (by simp;omega),e1,List.length_append,←Nat.add_assoc]
      have hf2:=Zqi r
      rw [hal] at hf2
      have e2:[fl y] ++ L.map fl=(y :: L).map fl:=rfl
      rw [e2,hf2]
      by_cases h3:r.f_Kind=3
      · rw [if_pos h3] at hf2 ⊢
        have hlen:=a3 h3
        obtain ⟨kd,st,l,a,b⟩:=r
        simp only at h3;subst h3
        have e3:fl ⟨3,st,l,a,b⟩=⟨3,[],flA l,0,0⟩:=by simp [fl]
        rw [e3] at hf2 ⊢
        simp only at hf2 ⊢
        unfold altF
        rw [dif_neg (by rw [←hf2,List.length_map];omega)]
      · rw [if_neg h3]
        rfl
end Go.Proofs.YthilboheomikjaaGreatDoor
end
section
namespace Go.Proofs.YthilboheomikjaaGreatDoor
open Go.AL Go.Lib
set_option maxRecDepth 100000
theorem Zj7 (r:Zd):(fl r).f_Kind=r.f_Kind:=by
  obtain ⟨k,st,l,a,b⟩:=r
  by_cases h:k=3
  · subst h;simp [fl]
  · simp [fl,h]
theorem Zpx {a b:List Zd} {w:List Int}:LAlt (a ++ b) w↔LAlt a w∨LAlt b w:=by
  induction a with
  | nil=>simp [LAlt]
  | cons x a ih=>simp only [List.cons_append,LAlt,ih,or_assoc]
theorem ZhT {r:Zd} (h:r.f_Kind=3) (w:List Int):Lang r w↔LAlt r.f_L w:=by
  obtain ⟨k,st,l,a,b⟩:=r
  simp only at h;subst h
  simp [Lang]
mutual
theorem Zhp:∀(r:Zd) (w:List Int),Lang (fl r) w↔Lang r w
  | ⟨k,st,l,a,b⟩,w=>by
    by_cases h:k=3
    · subst h
      rw [ZhT (show (fl ⟨3,st,l,a,b⟩).f_Kind=3 by rw [Zj7]),ZhT (r:=⟨3,st,l,a,b⟩) rfl]
      have:(fl ⟨3,st,l,a,b⟩).f_L=flA l:=by simp [fl]
      rw [this]
      exact Zl1 l w
    · have e:fl ⟨k,st,l,a,b⟩=⟨k,st,flL l,a,b⟩:=by simp [fl,h]
      rw [e]
      have h1:=Zl2 l w
      have h2:LHd (flL l)=LHd l:=ZpO l
      simp only [Lang,h1,h2,h,false_and,false_or,or_false]
theorem Zl1:∀(l:List Zd) (w:List Int),LAlt (flA l) w↔LAlt l w
  | [],w=>Iff.rfl
  | x :: l,w=>by
    have h1:=Zhp x w
    simp only [flA,Zpx,Zl1 l w,LAlt]
    by_cases h:x.f_Kind=3
    · rw [if_pos h,←h1,ZhT (r:=fl x) (by rw [Zj7];exact h)]
    · rw [if_neg h]
      simp only [LAlt,or_false,h1]
theorem Zl2:∀(l:List Zd) (w:List Int),LSeq (flL l) w↔LSeq l w
  | [],w=>Iff.rfl
  | x :: l,w=>by
    simp only [flL,LSeq]
    refine exists_congr fun u=>exists_congr fun v=>and_congr_right fun _=>?_
    rw [Zhp x u,Zl2 l v]
theorem ZpO:∀(l:List Zd),LHd (flL l)=LHd l
  | []=>rfl
  | x :: l=>by
    funext w
    simp only [flL,LHd]
    exact propext (Zhp x w)
end
theorem ZqT {a b:List Zd}:OKL (a ++ b)↔OKL a∧OKL b:=by
  rw [ZbH,ZbH,ZbH]
  simp only [List.mem_append]
  exact ⟨fun h=>⟨fun x hx=>h x (.inl hx),fun x hx=>h x (.inr hx)⟩,fun h x hx=>hx.elim (h.1 x) (h.2 x)⟩
theorem Zrt (a b:List Zd):szL (a ++ b)=szL a+szL b:=by
  induction a with
  | nil=>simp [szL]
  | cons x a ih=>simp only [List.cons_append,szL,ih];omega
theorem Zq2 (a b:List Zd):dpL (a ++ b)=max (dpL a) (dpL b):=by
  induction a with
  | nil=>simp [dpL]
  | cons x a ih=>simp only [List.cons_append,dpL,ih];omega
theorem ZpL (a b:List Zd):fsL (a ++ b)=max (fsL a) (fsL b):=by
  induction a with
  | nil=>simp [fsL]
  | cons x a ih=>simp only [List.cons_append,fsL,ih];omega
def Zsf (x r:Zd):Prop:=OK x∧sz x≤sz r∧dp x≤dp r∧fs x≤fs r+200
mutual
theorem Zjd:∀r:Zd,OK r→sz r≤200→Zsf (fl r) r
  | ⟨k,st,l,a,b⟩,ho,hs=>by
    have ho':=ho
    simp only [OK] at ho
    obtain ⟨h0,hl⟩:=ho
    rcases h0 with ⟨h1,⟨h2,h3⟩,h4,h5⟩ | ⟨h1,⟨h2,h3⟩,h4,h5⟩ | ⟨h1,⟨h2,h3⟩,h4,h5⟩ | ⟨h1,h2,h3,h4,h5,h6,h7⟩
    · simp only at h1 h2 h3 h4 h5
      subst h1;subst h4
      have e:fl ⟨1,st,[],a,b⟩=⟨1,st,[],a,b⟩:=by simp [fl,flL]
      rw [e]
      exact ⟨ho',Int.le_refl _,Nat.le_refl _,by omega⟩
    · simp only at h1 h2 h3 h4 h5
      subst h1
      have e:fl ⟨2,st,l,a,b⟩=⟨2,st,flL l,a,b⟩:=by simp [fl]
      have es:=Zbc (.inl rfl) hs
      rw [es] at hs
      obtain ⟨g1,g2,g3,g4⟩:=ZoM l hl (by omega)
      have hlen:(flL l).length=l.length:=by rw [Zng,List.length_map]
      have hz:=Zax (flL l)
      rw [e]
      refine ⟨?_,?_,?_,?_⟩
      · simp only [OK]
        exact ⟨.inr (.inl ⟨rfl,⟨h2,h3⟩,by rw [hlen];exact h4,h5⟩),g1⟩
      · rw [es]
        have:sz ⟨2,st,flL l,a,b⟩=mn (szL (flL l)+1) 1000:=by simp [sz]
        rw [this,mn_l (by omega)];omega
      · simp only [dp];omega
      · simp only [fs,hlen];omega
    · simp only at h1 h2 h3 h4 h5
      subst h1
      have e:fl ⟨3,st,l,a,b⟩=⟨3,[],flA l,0,0⟩:=by simp [fl]
      have es:=Zbc (.inr rfl) hs
      rw [es] at hs
      obtain ⟨g1,g2,g3,g4,g5⟩:=ZoL l hl (by omega)
      have hz:=ZhA (flA l)
      have hz0:=Zax (flA l)
      rw [e]
      refine ⟨?_,?_,?_,?_⟩
      · simp only [OK]
        exact ⟨.inr (.inr (.inl ⟨rfl,⟨rfl,rfl⟩,by simp only;omega,rfl⟩)),g1⟩
      · rw [es]
        have:sz ⟨3,[],flA l,0,0⟩=mn (szL (flA l)+1) 1000:=by simp [sz]
        rw [this,mn_l (by omega)];omega
      · simp only [dp];omega
      · simp only [fs,List.length_nil];omega
    · simp only at h1 h2 h3 h4 h5 h6 h7
      subst h1;subst h3
      obtain ⟨x,rfl⟩:=List.length_eq_one_iff.1 h2
      have e:fl ⟨4,[],[x],a,b⟩=⟨4,[],[fl x],a,b⟩:=by simp [fl,flL]
      have es:=ZjI hs
      obtain ⟨g1,g2,g3,g4⟩:=Zjd x hl.1 (by omega)
      rw [e]
      refine ⟨?_,?_,?_,?_⟩
      · simp only [OK,OKL]
        exact ⟨.inr (.inr (.inr ⟨rfl,rfl,rfl,h4,h5,h6,h7⟩)),g1,trivial⟩
      · have e1:∀y:Zd,sz ⟨4,[],[y],a,b⟩=mn (sz y*mn (mx (if b<0 then w64 (a+1) else b) 1) 1000+1) 1000:=fun y=>by simp [sz,szH]
        rw [e1,e1]
        have hm:sz (fl x)*mn (mx (if b<0 then w64 (a+1) else b) 1) 1000≤sz x*mn (mx (if b<0 then w64 (a+1) else b) 1) 1000:=Int.mul_le_mul_of_nonneg_right g2 (by have:=(mnmx (if b<0 then w64 (a+1) else b)).1;omega)
        generalize sz (fl x)*mn (mx (if b<0 then w64 (a+1) else b) 1) 1000=p at hm ⊢
        generalize sz x*mn (mx (if b<0 then w64 (a+1) else b) 1) 1000=q at hm ⊢
        unfold mn;split <;> split <;> omega
      · simp only [dp,dpL];omega
      · simp only [fs,fsL,List.length_cons,List.length_nil];omega
theorem ZoM:∀l:List Zd,OKL l→szL l≤199→OKL (flL l)∧szL (flL l)≤szL l∧dpL (flL l)≤dpL l∧fsL (flL l)≤fsL l+200
  | [],_,_=>⟨trivial,by simp [flL,szL],by simp [flL,dpL],by simp [flL,fsL]⟩
  | x :: l,ho,hs=>by
    simp only [OKL] at ho
    simp only [szL] at hs
    have h1:=Zar x
    have h2:=Zax l
    obtain ⟨a1,a2,a3,a4⟩:=Zjd x ho.1 (by omega)
    obtain ⟨b1,b2,b3,b4⟩:=ZoM l ho.2 (by omega)
    simp only [flL,OKL,szL,dpL,fsL]
    exact ⟨⟨a1,b1⟩,by omega,by omega,by omega⟩
theorem ZoL:∀l:List Zd,OKL l→szL l≤199→OKL (flA l)∧szL (flA l)≤szL l∧dpL (flA l)≤dpL l∧fsL (flA l)≤fsL l+200∧l.length≤(flA l).length
  | [],_,_=>⟨trivial,by simp [flA,szL],by simp [flA,dpL],by simp [flA,fsL],by simp⟩
  | x :: l,ho,hs=>by
    simp only [OKL] at ho
    simp only [szL] at hs
    have h1:=Zar x
    have h2:=Zax l
    obtain ⟨a1,a2,a3,a4⟩:=Zjd x ho.1 (by omega)
    obtain ⟨b1,b2,b3,b4,b5⟩:=ZoL l ho.2 (by omega)
    simp only [flA,ZqT,Zrt,Zq2,ZpL,List.length_append,List.length_cons,szL,dpL,fsL]
    by_cases h:x.f_Kind=3
    · rw [if_pos h]
      have hk:=Zj7 x
      rw [h] at hk
      generalize fl x=y at *
      obtain ⟨k,st,m,a,b⟩:=y
      simp only at hk;subst hk
      have es:=Zbc (.inr rfl) (show sz ⟨3,st,m,a,b⟩≤200 by omega)
      simp only [OK] at a1
      have hm:1<m.length:=by
        rcases a1.1 with ⟨h,_⟩ | ⟨h,_⟩ | ⟨_,_,h,_⟩ | ⟨h,_⟩
        · simp only at h;omega
        · simp only at h;omega
        · exact h
        · simp only at h;omega
      simp only [dp,fs] at a3 a4
      exact ⟨⟨a1.2,b1⟩,by simp only;omega,by simp only;omega,by simp only;omega,by simp only;omega⟩
    · rw [if_neg h]
      simp only [OKL,szL,dpL,fsL,List.length_cons,List.length_nil]
      exact ⟨⟨⟨a1,trivial⟩,b1⟩,by omega,by omega,by omega,by omega⟩
end
theorem ZcB {a b:List UInt8} (h:validD a=true) (h2:validD b=true):validD (a ++ b)=true:=by rw [(Zby _ a b (Nat.le_refl _) h).1];exact h2
theorem ZdW {c:UInt8} {b:List UInt8} (h:c.toNat<128) (h2:validD b=true):validD (c :: b)=true:=
  ZcB (a:=[c]) (ZcV [c] fun x hx=>by rw [List.mem_singleton.1 hx];exact h).1 h2
mutual
theorem ZgA:∀r:Zd,OK r→fs r≤1600→validD (prn r)=true
  | ⟨k,st,l,a,b⟩,ho,hf=>by
    simp only [OK] at ho
    simp only [fs] at hf
    obtain ⟨h0,hl⟩:=ho
    rcases h0 with ⟨rfl,_,h3,h4⟩ | ⟨rfl,_,h3,_⟩ | ⟨rfl,_,h3,_⟩ | ⟨rfl,h3,_,h5,h6,h7,h8⟩
    · have hc:Zaj st:=h4
      simp only [prn,if_true]
      exact (ZdR (Zfe hc (by omega)).2).1
    · simp only [prn,if_neg (show ¬(2:Int)=1 by omega),if_neg (show ¬(2:Int)=3 by omega),if_true]
      exact (ZfH l hl (by omega)).2.2
    · simp only [prn,if_neg (show ¬(3:Int)=1 by omega),if_true]
      exact (ZfH l hl (by omega)).1
    · simp only at h3 h5 h6 h7 h8
      obtain ⟨x,rfl⟩:=List.length_eq_one_iff.1 h3
      have ht:=(Zii h5 h6 (b:=b) (by omega) h7).1
      simp only [fsL] at hf
      simp only [OKL] at hl
      have hx:=ZgA x hl.1 (by omega)
      simp only [prn,if_neg (show ¬(4:Int)=1 by omega),if_neg (show ¬(4:Int)=3 by omega),if_neg (show ¬(4:Int)=2 by omega),prnH]
      refine ZcB ?_ (ZcV _ ht).1
      split
      · exact ZdW (by decide) (ZcB hx (ZdW (by decide) rfl))
      · exact hx
theorem ZfH:∀l:List Zd,OKL l→fsL l≤1600→validD (jn (prnL l))=true∧validD (jt (prnL l))=true∧validD (prnG l).flatten=true
  | [],_,_=>⟨rfl,rfl,rfl⟩
  | x :: l,ho,hf=>by
    simp only [OKL] at ho
    simp only [fsL] at hf
    have a1:=ZgA x ho.1 (by omega)
    obtain ⟨b1,b2,b3⟩:=ZfH l ho.2 (by omega)
    have hg:validD (grp x (prn x))=true:=by
      unfold grp
      split
      · exact ZdW (by decide) (ZcB a1 (ZdW (by decide) rfl))
      · exact a1
    simp only [prnL,prnG,jn,jt,List.flatten_cons]
    exact ⟨ZcB a1 b2,ZdW (by decide) (ZcB a1 b2),ZcB hg b3⟩
end
theorem Zn1 {k:Nat} {r:Zd} (hk:40000≤k) (hk2:k≤1048576) (ho:OK r) (hd:dp r≤14) (hs:sz r≤200) (hf:fs r≤1600) (hl:(prn r).length≤400):F28 k (prn r)=some (fl r,0):=by
  obtain ⟨g1,g2,g3,g4⟩:=Zjd r ho hs
  have hr:=Zmh (dp r) k r (by omega) ho (Nat.le_refl _) hs hf (prn r) [] 0 (by omega) (by simp) (.inl rfl)
  rw [Nat.zero_add] at hr
  have e51:F51 k ⟨prn r,0,false,false⟩=F51 k (rx (prn r) 0 false false):=rfl
  obtain ⟨t,e4,ht⟩:=ZlL (c:=14) (by omega) k (fl r) 1 hk2 (by omega) (by omega)
  have e4':F42 k (fl r) 1=some t:=e4
  unfold F28 Zio ZfV
  rw [df (by omega),zf_,Zlc (by omega) (by omega) (by omega),zb_,ZgA r ho hf,Bool.not_true,zf_,e51,hr,zb_]
  simp only
  rw [show (rx (prn r) (prn r).length false false).f_Bad=false from rfl,zf_,
    show ((rx (prn r) (prn r).length false false).f_I != ((prn r).length:Int))=false by show (((prn r).length:Int) != (prn r).length)=false;simp,zf_,
    show (rx (prn r) (prn r).length false false).f_Long=false from rfl,zf_,Zid k (fl r) hk2 (by omega),zb_,df (by omega),zf_,e4',zb_,df (by omega),zf_]
end Go.Proofs.YthilboheomikjaaGreatDoor
end
section
namespace Go.Proofs.YthilboheomikjaaGreatDoor
open Go.AL
variable {μ:Int}
set_option maxRecDepth 100000
def F37 (k:Nat) (v0:Zd) (v1:List UInt8):Option Bool:=
  (F23 k v0 v1).bind fun a=>(some a)
theorem Zlk (k:Nat) (v0:Zd) (v1:List UInt8) (r:Bool) (c:F37 k v0 v1=some r):SM μ 37 [tv (Zc v0),one (.str v1)] [] (ob r) []:=by
 refine Zz [] Tryz.func37 rfl kr kr ?_
 show WA _ _ 8 _ _ _
 refine Ws [(0,.obj 102)] [(1,one (.str v1)),(2,pt 102)] [(102,bx (Zc v0))] ?_
 obtain ⟨a,b,c⟩:=Zh c
 refine Wos [(2,.callR [] (ob a))] [(4,ob a)] [] [SM μ 23 [tv (Zc v0),one (.str v1)] [] (ob a) [],([]:List Nat).Nodup] ⟨(Zim k _ _ _ b),nd,trivial⟩ ?_
 refine WA.ret ?_
 obtain rfl:=zj_ c
 exact Zo (ob a) [] kr kr kr kr nd rfl rfl
def ZfQ (a:Bool):Option Bool:=
  some a
def ZfR (a:Bool):Option Bool:=
  some a
def Zdx (a:Bool):Option Bool:=
  some a
def Zdw (k:Nat) (v0:Zd) (v1:List UInt8) (n:List UInt8) (c:Bool):Option Bool:=
  cond c ((F26 k).bind fun d=>(some d)) ((F36 k v0).bind fun a=>(F22 k v0).bind fun e=>(cond (!e) ((F26 k).bind fun f=>cond f (cond (a.2 == 1) ((ZfQ (a.1 == ([]:List UInt8)))) ((ZfQ false))) ((ZfQ false))) (((cond (a.2 != 0) ((F26 k).bind fun g=>cond g (cond (a.2 == 8) ((ZfR (a.1 == ([]:List UInt8)))) ((ZfR false))) ((ZfR false))) ((F28 k a.1).bind fun b=>((cond (b.2 == 8) ((some false)) ((F26 k).bind fun h=>cond h (cond (b.2 == 0) (cond (decide ((a.1.length:Int)≤400)) ((F37 k b.1 v1).bind fun i=>(F23 k v0 v1).bind fun j=>cond (i == j) ((F37 k b.1 n).bind fun l=>(F23 k v0 n).bind fun m=>(Zdx (l == m))) ((Zdx false))) ((Zdx false))) ((Zdx false))) ((Zdx false)))))))))))
def F14 (k:Nat) (v0:Zd) (v1:List UInt8) (a:List UInt8):Option Bool:=
  (F21 k v0).bind fun b=>cond (!b) ((Zdw k v0 v1 a true)) (cond (decide ((v1.length:Int) > 40)) ((Zdw k v0 v1 a true)) ((Zdw k v0 v1 a (decide ((a.length:Int) > 40)))))
theorem Zrx (k:Nat) (v0:Zd) (v1:List UInt8) (l:List UInt8) (r:Bool) (a:F14 k v0 v1 l=some r):SM μ 14 [tv (Zc v0),one (.str v1),one (.str l)] [] (ob r) []:=by
 refine Zz [] Tryz.func14 rfl kr kr ?_
 show WA _ _ 88 _ _ _
 refine Ws [(0,.obj 103)] [(1,one (.str v1)),(2,one (.str l)),(3,pt 103)] [(103,bx (Zc v0))] ?_
 refine WA.seq ?_
 refine WA.join (fun z=>∃(a7:Bool),J z [(1,one (.str v1)),(2,one (.str l)),(3,pt 103),(23,ob a7)] [(103,bx (Zc v0))]∧Zdw k v0 v1 l a7=some r) ?_ ?_
 {
 rintro z ⟨a7,y,a⟩
 refine Wj y ?_
 clear y
 refine WA.cond (b:=a7) rfl (fun a0=>?_) (fun a0=>?_)
 {
 have a:=Zk a a0
 obtain ⟨b1,b7,a⟩:=Zh a
 refine Wos [(0,.callR [] (ob b1))] [(6,ob b1)] [] [SM μ 26 [] [] (ob b1) [],([]:List Nat).Nodup] ⟨(Zbe k _ b7),nd,trivial⟩ ?_
 refine WA.ret ?_
 obtain rfl:=zj_ a
 exact Zo (ob b1) [] kr kr kr kr nd rfl rfl }
 {
 have a:=Zj a a0
 refine WA.skip ?_
 obtain ⟨c,b8,a⟩:=Zh a
 refine Wos [(1,.callR [] (.tup [(false,[.pv (.str c.1)]),(false,[.pv (.int .i64 c.2)])]))] [(1,one (.str v1)),(2,one (.str l)),(3,pt 103),(7,one (.str c.1)),(8,oi c.2)] [(103,bx (Zc v0))] [SM μ 36 [tv (Zc v0)] [] (.tup [(false,[.pv (.str c.1)]),(false,[.pv (.int .i64 c.2)])]) [],([]:List Nat).Nodup] ⟨(Zrz k _ _ b8),nd,trivial⟩ ?_
 refine WA.seq ?_
 obtain ⟨b2,b9,a⟩:=Zh a
 refine Wos [(1,.callR [] (ob b2))] [(1,one (.str v1)),(2,one (.str l)),(3,pt 103),(7,one (.str c.1)),(8,oi c.2),(32,ob (!b2))] [(103,bx (Zc v0))] [SM μ 22 [tv (Zc v0)] [] (ob b2) [],([]:List Nat).Nodup] ⟨(Zlb k _ _ b9),nd,trivial⟩ ?_
 refine WA.cond (b:=(!b2)) rfl (fun a1=>?_) (fun a1=>?_)
 {
 have a:=Zk a a1
 refine WA.join (fun z=>∃(a8:Bool),J z [(6,ob a8)] []∧ZfQ a8=some r) ?_ ?_
 {
 rintro z ⟨a8,y,a⟩
 refine Wj y ?_
 clear y
 refine WA.ret ?_
 obtain rfl:=zj_ a
 exact Zo (ob a8) [] kr kr kr kr nd rfl rfl }
 {
 obtain ⟨h,a5,a⟩:=Zh a
 rcases zo_ h with n | n
 {
 have a:=Zk a n
 rcases zo_ (c.2 == 1) with u | u
 {
 have a:=Zk a u
 refine Wo [(0,.callR [] (ob h)),(1,.bool true),(5,.bool true)] [(6,ob (c.1 == ([]:List UInt8)))] [] [SM μ 26 [] [] (ob h) [],([]:List Nat).Nodup,h=true,(c.2 == 1)=true] ⟨(Zbe k _ a5),nd,n,u,trivial⟩ ?_
 exact ⟨(c.1 == ([]:List UInt8)),jk,a⟩ }
 {
 have a:=Zj a u
 refine Wo [(0,.callR [] (ob h)),(1,.bool true),(5,.bool false)] [(6,ob false)] [] [SM μ 26 [] [] (ob h) [],([]:List Nat).Nodup,h=true,(c.2 == 1)=false] ⟨(Zbe k _ a5),nd,n,u,trivial⟩ ?_
 exact ⟨false,jk,a⟩ } }
 {
 have a:=Zj a n
 refine Wo [(0,.callR [] (ob h)),(1,.bool false)] [(6,ob false)] [] [SM μ 26 [] [] (ob h) [],([]:List Nat).Nodup,h=false] ⟨(Zbe k _ a5),nd,n,trivial⟩ ?_
 exact ⟨false,jk,a⟩ } } }
 {
 have a:=Zj a a1
 refine WA.skip ?_
 refine WA.seq ?_
 refine Ws [] [(1,one (.str v1)),(2,one (.str l)),(3,pt 103),(7,one (.str c.1)),(8,oi c.2),(43,ob (c.2 != 0))] [(103,bx (Zc v0))] ?_
 refine WA.cond (b:=(c.2 != 0)) rfl (fun a2=>?_) (fun a2=>?_)
 {
 have a:=Zk a a2
 refine WA.join (fun z=>∃(a9:Bool),J z [(6,ob a9)] []∧ZfR a9=some r) ?_ ?_
 {
 rintro z ⟨a9,y,a⟩
 refine Wj y ?_
 clear y
 refine WA.ret ?_
 obtain rfl:=zj_ a
 exact Zo (ob a9) [] kr kr kr kr nd rfl rfl }
 {
 obtain ⟨i,a6,a⟩:=Zh a
 rcases zo_ i with o | o
 {
 have a:=Zk a o
 rcases zo_ (c.2 == 8) with v | v
 {
 have a:=Zk a v
 refine Wo [(0,.callR [] (ob i)),(1,.bool true),(5,.bool true)] [(6,ob (c.1 == ([]:List UInt8)))] [] [SM μ 26 [] [] (ob i) [],([]:List Nat).Nodup,i=true,(c.2 == 8)=true] ⟨(Zbe k _ a6),nd,o,v,trivial⟩ ?_
 exact ⟨(c.1 == ([]:List UInt8)),jk,a⟩ }
 {
 have a:=Zj a v
 refine Wo [(0,.callR [] (ob i)),(1,.bool true),(5,.bool false)] [(6,ob false)] [] [SM μ 26 [] [] (ob i) [],([]:List Nat).Nodup,i=true,(c.2 == 8)=false] ⟨(Zbe k _ a6),nd,o,v,trivial⟩ ?_
 exact ⟨false,jk,a⟩ } }
 {
 have a:=Zj a o
 refine Wo [(0,.callR [] (ob i)),(1,.bool false)] [(6,ob false)] [] [SM μ 26 [] [] (ob i) [],([]:List Nat).Nodup,i=false] ⟨(Zbe k _ a6),nd,o,trivial⟩ ?_
 exact ⟨false,jk,a⟩ } } }
 {
 have a:=Zj a a2
 refine WA.skip ?_
 obtain ⟨d,c0,a⟩:=Zh a
 refine Wos [(1,.callR [] (.tup [(true,pvL (Zc d.1)),(false,[.pv (.int .i64 d.2)])])),(5,.obj 109)] [(1,one (.str v1)),(2,one (.str l)),(3,pt 103),(7,one (.str c.1)),(9,pt 109),(10,oi d.2)] [(103,bx (Zc v0)),(109,bx (Zc d.1))] [SM μ 28 [one (.str c.1)] [] (.tup [(true,pvL (Zc d.1)),(false,[.pv (.int .i64 d.2)])]) [],([]:List Nat).Nodup] ⟨(Zry k _ _ c0),nd,trivial⟩ ?_
 refine WA.seq ?_
 refine Ws [] [(1,one (.str v1)),(2,one (.str l)),(3,pt 103),(7,one (.str c.1)),(9,pt 109),(10,oi d.2),(59,ob (d.2 == 8))] [(103,bx (Zc v0)),(109,bx (Zc d.1))] ?_
 refine WA.cond (b:=(d.2 == 8)) rfl (fun a3=>?_) (fun a3=>?_)
 {
 have a:=Zk a a3
 refine Ws [] [(6,ob false)] [] ?_
 refine WA.ret ?_
 obtain rfl:=zj_ a
 exact Zo (ob false) [] kr kr kr kr nd rfl rfl }
 {
 have a:=Zj a a3
 refine WA.skip ?_
 refine WA.join (fun z=>∃(b0:Bool),J z [(6,ob b0)] []∧Zdx b0=some r) ?_ ?_
 {
 rintro z ⟨b0,y,a⟩
 refine Wj y ?_
 clear y
 refine WA.ret ?_
 obtain rfl:=zj_ a
 exact Zo (ob b0) [] kr kr kr kr nd rfl rfl }
 {
 obtain ⟨e,x,a⟩:=Zh a
 rcases zo_ e with f | f
 {
 have a:=Zk a f
 rcases zo_ (d.2 == 0) with j | j
 {
 have a:=Zk a j
 rcases zo_ (decide ((c.1.length:Int)≤400)) with p | p
 {
 have a:=Zk a p
 obtain ⟨q,b5,a⟩:=Zh a
 obtain ⟨s,b6,a⟩:=Zh a
 rcases zo_ (q == s) with w | w
 {
 have a:=Zk a w
 obtain ⟨b3,c1,a⟩:=Zh a
 obtain ⟨b4,c2,a⟩:=Zh a
 refine Wd [(0,.callR [] (ob e)),(1,.bool true),(5,.bool true),(10,.bool true),(13,.callR [] (ob q)),(16,.callR [] (ob s)),(19,.bool true),(22,.callR [] (ob b3)),(25,.callR [] (ob b4))] [(6,ob (b3 == b4))] [] [SM μ 26 [] [] (ob e) [],([]:List Nat).Nodup,e=true,(d.2 == 0)=true,(decide ((c.1.length:Int)≤400))=true,SM μ 37 [tv (Zc d.1),one (.str v1)] [] (ob q) [],([]:List Nat).Nodup,SM μ 23 [tv (Zc v0),one (.str v1)] [] (ob s) [],([]:List Nat).Nodup,(q == s)=true,SM μ 37 [tv (Zc d.1),one (.str l)] [] (ob b3) [],([]:List Nat).Nodup,SM μ 23 [tv (Zc v0),one (.str l)] [] (ob b4) [],([]:List Nat).Nodup] ⟨(Zbe k _ x),nd,f,j,p,(Zlk k _ _ _ b5),nd,(Zim k _ _ _ b6),nd,w,(Zlk k _ _ _ c1),nd,(Zim k _ _ _ c2),nd,trivial⟩ ?_
 exact ⟨(b3 == b4),jk,a⟩ }
 {
 have a:=Zj a w
 refine Wd [(0,.callR [] (ob e)),(1,.bool true),(5,.bool true),(10,.bool true),(13,.callR [] (ob q)),(16,.callR [] (ob s)),(19,.bool false),(22,.callR [] (.tup [])),(25,.callR [] (.tup []))] [(6,ob false)] [] [SM μ 26 [] [] (ob e) [],([]:List Nat).Nodup,e=true,(d.2 == 0)=true,(decide ((c.1.length:Int)≤400))=true,SM μ 37 [tv (Zc d.1),one (.str v1)] [] (ob q) [],([]:List Nat).Nodup,SM μ 23 [tv (Zc v0),one (.str v1)] [] (ob s) [],([]:List Nat).Nodup,(q == s)=false] ⟨(Zbe k _ x),nd,f,j,p,(Zlk k _ _ _ b5),nd,(Zim k _ _ _ b6),nd,w,trivial⟩ ?_
 exact ⟨false,jk,a⟩ } }
 {
 have a:=Zj a p
 refine Wd [(0,.callR [] (ob e)),(1,.bool true),(5,.bool true),(10,.bool false),(13,.callR [] (.tup [])),(16,.callR [] (.tup [])),(22,.callR [] (.tup [])),(25,.callR [] (.tup []))] [(6,ob false)] [] [SM μ 26 [] [] (ob e) [],([]:List Nat).Nodup,e=true,(d.2 == 0)=true,(decide ((c.1.length:Int)≤400))=false] ⟨(Zbe k _ x),nd,f,j,p,trivial⟩ ?_
 exact ⟨false,jk,a⟩ } }
 {
 have a:=Zj a j
 refine Wd [(0,.callR [] (ob e)),(1,.bool true),(5,.bool false),(13,.callR [] (.tup [])),(16,.callR [] (.tup [])),(22,.callR [] (.tup [])),(25,.callR [] (.tup []))] [(6,ob false)] [] [SM μ 26 [] [] (ob e) [],([]:List Nat).Nodup,e=true,(d.2 == 0)=false] ⟨(Zbe k _ x),nd,f,j,trivial⟩ ?_
 exact ⟨false,jk,a⟩ } }
 {
 have a:=Zj a f
 refine Wd [(0,.callR [] (ob e)),(1,.bool false),(13,.callR [] (.tup [])),(16,.callR [] (.tup [])),(22,.callR [] (.tup [])),(25,.callR [] (.tup []))] [(6,ob false)] [] [SM μ 26 [] [] (ob e) [],([]:List Nat).Nodup,e=false] ⟨(Zbe k _ x),nd,f,trivial⟩ ?_
 exact ⟨false,jk,a⟩ } } } } } } }
 {
 obtain ⟨g,a4,a⟩:=Zh a
 rcases zo_ (!g) with m | m
 {
 have a:=Zk a m
 refine Wo [(1,.callR [] (ob g)),(3,.bool true)] [(1,one (.str v1)),(2,one (.str l)),(3,pt 103),(23,ob true)] [(103,bx (Zc v0))] [SM μ 21 [tv (Zc v0)] [] (ob g) [],([]:List Nat).Nodup,(!g)=true] ⟨(Zla k _ _ a4),nd,m,trivial⟩ ?_
 exact ⟨true,jk,a⟩ }
 {
 have a:=Zj a m
 rcases zo_ (decide ((v1.length:Int) > 40)) with t | t
 {
 have a:=Zk a t
 refine Wo [(1,.callR [] (ob g)),(3,.bool false),(8,.bool true)] [(1,one (.str v1)),(2,one (.str l)),(3,pt 103),(23,ob true)] [(103,bx (Zc v0))] [SM μ 21 [tv (Zc v0)] [] (ob g) [],([]:List Nat).Nodup,(!g)=false,(decide ((v1.length:Int) > 40))=true] ⟨(Zla k _ _ a4),nd,m,t,trivial⟩ ?_
 exact ⟨true,jk,a⟩ }
 {
 have a:=Zj a t
 refine Wo [(1,.callR [] (ob g)),(3,.bool false),(8,.bool false)] [(1,one (.str v1)),(2,one (.str l)),(3,pt 103),(23,ob (decide ((l.length:Int) > 40)))] [(103,bx (Zc v0))] [SM μ 21 [tv (Zc v0)] [] (ob g) [],([]:List Nat).Nodup,(!g)=false,(decide ((v1.length:Int) > 40))=false] ⟨(Zla k _ _ a4),nd,m,t,trivial⟩ ?_
 exact ⟨(decide ((l.length:Int) > 40)),jk,a⟩ } } }
end Go.Proofs.YthilboheomikjaaGreatDoor
end
section
namespace Go.Proofs.YthilboheomikjaaGreatDoor.Pure
open Go.AL Go.Lib
set_option maxRecDepth 100000
theorem RexPrints (r:Zd) (s t:List UInt8) (_:s.length≤140737488351232) (_:t.length≤140737488351232):∃k,F14 k r s t=some true:=by
  have told:F26 40000=some true:=by kernel_rfl
  obtain ⟨k,hk⟩:∃k,k=40000:=⟨_,rfl⟩
  rw [←hk] at told
  refine ⟨k,?_⟩
  obtain ⟨fw,e1,p1⟩:=ZrM (k:=k) (by omega) r
  have short:Zdw k r s t true=some true:=by unfold Zdw;rw [zt_,told];rfl
  unfold F14
  rw [e1,zb_]
  cases fw
  · exact short
  · rw [Bool.not_true,zf_]
    have hf:=p1 rfl
    by_cases h1:(s.length:Int) > 40
    · rw [dt h1];exact short
    rw [df h1,zf_]
    by_cases h2:(t.length:Int) > 40
    · rw [dt h2];exact short
    rw [df h2]
    obtain ⟨m1,e2,p2⟩:=Znw (k:=k) (r:=r) (by omega) (by omega)
    obtain ⟨m2,e3,p3⟩:=ZrN (k:=k) (r:=r) (by omega) (by omega)
    have hm:m1=m2:=Bool.eq_iff_iff.2 (p2.trans p3.symm)
    subst hm
    unfold Zdw ZfQ ZfR Zdx F36 Zit F37
    rw [zf_,e3,zb_]
    cases m1
    · rw [Bool.not_false,zt_,zb_,e2,zb_,told]
      rfl
    · have hmay:=p2.1 rfl
      obtain ⟨⟨ho,hd⟩,hs⟩:=hmay
      have hdf:=Zqk r
      rw [Bool.not_true,zf_,Znu k r (by omega) ho hs (by omega),zb_,e2]
      have lim:∀x:Zd×Int,True:=fun _=>trivial
      by_cases h4:((prn r).length:Int) > 400
      · rw [dt h4,zt_,zt_,zb_,zb_,told]
        rfl
      · rw [df h4,zf_,ZlM k r (by omega) (by omega),zb_]
        by_cases h5:(dp r:Int) > 14
        · rw [dt h5,zt_,zb_,zb_,told]
          rfl
        · rw [df h5,zf_,zb_,zb_]
          simp only
          rw [Zn1 (by omega) (by omega) ho (by omega) hs (by omega) (by omega),told]
          obtain ⟨g1,g2,g3,g4⟩:=Zjd r ho hs
          have both:∀u:List UInt8,u.length≤40→∃b,F23 k (fl r) u=some b∧F23 k r u=some b:=fun u hu=>by
            obtain ⟨b1,f1,q1⟩:=Zjt (k:=k) (r:=fl r) (s:=u) (by omega) (by omega) (by omega) (by omega)
            obtain ⟨b2,f2,q2⟩:=Zjt (k:=k) (r:=r) (s:=u) (by omega) (by omega) (by omega) (by omega)
            have hb:b1=b2:=Bool.eq_iff_iff.2 (by
              rw [q1,q2,Zhp]
              exact ⟨fun h=>⟨⟨⟨ho,hd⟩,hs⟩,h.2⟩,fun h=>⟨⟨⟨g1,by omega⟩,by omega⟩,h.2⟩⟩)
            subst hb
            exact ⟨b1,f1,f2⟩
          obtain ⟨b1,f1,f2⟩:=both s (by omega)
          obtain ⟨b2,f3,f4⟩:=both t (by omega)
          have hle:decide (((prn r).length:Int)≤400)=true:=dt (by omega)
          simp only [zb_,f1,f2,f3,f4,hle]
          simp
end Go.Proofs.YthilboheomikjaaGreatDoor.Pure
end
