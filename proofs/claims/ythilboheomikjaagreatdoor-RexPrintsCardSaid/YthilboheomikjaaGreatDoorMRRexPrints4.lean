/- S3, S4, S5, S6, S7, S8, S9, S10, S11, P8, G10, G11, P9, Q4, Q5, Q6, G12, Q7, Q3, Q8, N1, N2, G2, N3, N4 -/
import Derived.Test.YthilboheomikjaaGreatDoorMRRexPrints3
set_option linter.unusedVariables false
set_option linter.unusedSimpArgs false
section
namespace Go.Proofs.YthilboheomikjaaGreatDoor
open Go.AL Go.Lib
set_option maxRecDepth 100000
theorem ZoS:∀(f x:Nat),x<2 ^ f→x≠0→x<2 ^ Lib.bitLenAux f x∧2 ^ Lib.bitLenAux f x≤2*x
  | 0,x,h,h0=>by simp at h;omega
  | f+1,x,h,h0=>by
    unfold Lib.bitLenAux
    rw [if_neg h0]
    by_cases h2:x / 2=0
    · have:x=1:=by omega
      subst this
      have:Lib.bitLenAux f (1 / 2)=0:=by cases f <;> simp [Lib.bitLenAux]
      rw [this];decide
    · have ih:=ZoS f (x / 2) (by rw [Nat.pow_succ] at h;omega) h2
      rw [show 1+Lib.bitLenAux f (x / 2)=Lib.bitLenAux f (x / 2)+1 by omega,Nat.pow_succ]
      omega
theorem Zp0 {k n:Nat} (h0:0<n) (hn:n≤1073741824):∃M:Nat,F160 k (n:Int)=some (M:Int)∧n<M∧M≤2*n:=by
  have hb:=ZoS 64 n (by omega) (by omega)
  have hw:IntKind.wrap .u64 (n:Int)=n:=by simp [IntKind.wrap,IntKind.bits,IntKind.signed];omega
  unfold F160 F112
  rw [hw,if_pos (by omega)]
  simp only [zb_,Int.toNat_natCast]
  rw [if_pos (by omega)]
  have hl:Lib.bitLen n≤64:=by
    have h2:Lib.bitLen n<32:=by
      apply Nat.lt_of_not_le
      intro h
      have:=Nat.pow_le_pow_right (n:=2) (by omega) h
      unfold Lib.bitLen at this
      omega
    omega
  refine ⟨2 ^ Lib.bitLen n,?_,hb.1,hb.2⟩
  rw [Nat.min_eq_left hl]
  congr 1
  have e:(1*2 ^ Lib.bitLen n:Int)=((2 ^ Lib.bitLen n:Nat):Int):=by simp
  rw [e]
  have:2 ^ Lib.bitLen n≤2*n:=hb.2
  generalize 2 ^ Lib.bitLen n=M at this
  simp [IntKind.wrap,IntKind.bits,IntKind.signed];omega
theorem ZrP (x:Int) {m:Nat} (hm:m≤4294967296):∃q:Nat,ZB .and .u64 x (m:Int)=(q:Int)∧q≤m:=by
  refine ⟨(BitVec.ofInt 64 x &&& BitVec.ofInt 64 (m:Int)).toNat,?_,?_⟩
  · unfold ZB
    have h:(BitVec.ofInt 64 x &&& BitVec.ofInt 64 (m:Int)).toNat<2 ^ 64:=BitVec.isLt _
    show IntKind.wrap .u64 (((BitVec.ofInt 64 x &&& BitVec.ofInt 64 (m:Int)).toNat:Nat):Int)=_
    generalize (BitVec.ofInt 64 x &&& BitVec.ofInt 64 (m:Int)).toNat=z at h
    simp [IntKind.wrap,IntKind.bits,IntKind.signed];omega
  · rw [BitVec.toNat_and]
    have:(BitVec.ofInt 64 (m:Int)).toNat=m:=by
      rw [BitVec.toNat_ofInt];omega
    rw [this]
    exact Nat.and_le_right
theorem Zpa (k:Nat) (x:Int):∃y z,F161 k x=some (y,z):=by
  unfold F161
  rw [if_pos (by decide),if_pos (by decide),if_pos (by decide)]
  exact ⟨_,_,rfl⟩
theorem Zi5 {k a b M:Nat} (h1:b-a<M) (h2:M≤2*(b-a)) (hab:a+12<b):∀(m i:Nat) (v:List Zb) (x:Int),b≤v.length→v.length≤1073741824→a≤i→i≤a+(b-a) / 4*2+2→a+(b-a) / 4*2+2-i<m→
    ∃v',ZbD k (a:Int) (b:Int) (M:Int) m v x (i:Int)=some v'∧Kept v v' a b
  | 0,i,v,x,_,_,_,_,hm=>by omega
  | m+1,i,v,x,hb,hv,ha,hi,hm=>by
    have e:ZbD k (a:Int) (b:Int) (M:Int) (m+1) v x (i:Int)=Zg6 k (ZbD k (a:Int) (b:Int) (M:Int) m) (a:Int) (b:Int) (M:Int) v x (i:Int):=rfl
    rw [e]
    unfold Zg6
    have e0:w64 ((b:Int)-(a:Int))=((b-a:Nat):Int):=by rw [Zv (by omega) (by omega)];omega
    have eq:w64 ((((b-a) / 4:Nat)):Int)=(((b-a) / 4:Nat):Int):=Zv (by omega) (by omega)
    have e2:w64 ((a:Int)+w64 ((((b-a) / 4:Nat):Int)*2))=((a+(b-a) / 4*2:Nat):Int):=by rw [Zv (x:=_*2) (by omega) (by omega),Zv (by omega) (by omega)];omega
    have e3:w64 (((a+(b-a) / 4*2:Nat):Int)+1)=((a+(b-a) / 4*2+1:Nat):Int):=by rw [Zv (by omega) (by omega)];omega
    rw [if_pos (by decide),e0,Zoa,eq,e2,e3]
    by_cases h:i≤a+(b-a) / 4*2+1
    · rw [dt (by omega)]
      simp only [cond]
      obtain ⟨y,z,er⟩:=Zpa k x
      rw [er]
      simp only [zb_]
      have eM:IntKind.wrap .u64 ((M:Int)-1)=((M-1:Nat):Int):=by simp [IntKind.wrap,IntKind.bits,IntKind.signed];omega
      obtain ⟨q,eq2,hq⟩:=ZrP y (m:=M-1) (by omega)
      rw [eM,eq2,Zv (x:=(q:Int)) (by omega) (by omega)]
      have step:∀o:Nat,o<b-a→∃v',Zes (ZbD k (a:Int) (b:Int) (M:Int) m) (a:Int) v (i:Int) (y,z) (o:Int)=some v'∧Kept v v' a b:=fun o ho=>by
        unfold Zes
        rw [Zv (x:=(a:Int)+(o:Int)) (by omega) (by omega),show (a:Int)+(o:Int)=((a+o:Nat):Int) by omega]
        obtain ⟨p,hp⟩:=ZU (v:=v) (i:=i) (by omega)
        obtain ⟨r,hr⟩:=ZU (v:=v) (i:=a+o) (by omega)
        have e4:=ZbJ hp hr (fun l=>ZbD k (a:Int) (b:Int) (M:Int) m l z (w64 ((i:Int)+1)))
        unfold sw at e4
        simp only
        rw [e4,Zv (by omega) (by omega)]
        obtain ⟨v',e5,k5⟩:=Zi5 h1 h2 hab m (i+1) (swp v i (a+o) p r) z (by rw [ZX];exact hb) (by rw [ZX];exact hv) (by omega) (by omega) (by omega)
        exact ⟨v',e5,(Kept.swp hp hr (by omega) (by omega) (by omega) (by omega)).trans k5⟩
      by_cases hqn:b-a≤q
      · rw [dt (by omega)]
        simp only
        rw [Zv (by omega) (by omega),show (q:Int)-((b-a:Nat):Int)=((q-(b-a):Nat):Int) by omega]
        exact step _ (by omega)
      · rw [df (by omega)]
        exact step q (by omega)
    · rw [df (by omega)]
      exact ⟨v,rfl,Kept.refl _ _ _⟩
theorem Zh3 {c:Nat} (h:1≤c) (h2:c≤4611686018427387904):w64 ((c:Int)-1)=((c-1:Nat):Int):=by rw [Zv (by omega) (by omega)];omega
theorem Zq6 {a n:Nat} (h:a≤1073741824) (hn:n≤1073741824):w64 ((a:Int)+w64 (w64 (Int.tdiv (n:Int) 4)*2))=((a+n / 4*2:Nat):Int):=by
  rw [Zoa,Zv (x:=((n / 4:Nat):Int)) (by omega) (by omega),Zv (x:=_*2) (by omega) (by omega),Zv (by omega) (by omega)];omega
theorem Zkk {a b:Nat} (h:a≤b) (hb:b≤1073741824):w64 ((b:Int)-(a:Int))=((b-a:Nat):Int):=by rw [Zv (by omega) (by omega)];omega
theorem ge8 {n:Nat} (h:8≤n):decide ((n:Int)≥8)=true:=dt (by omega)
theorem ZpF {k a b:Nat} {v:List Zb} (hk:5≤k) (hab:a+12<b) (hb:b≤v.length) (hv:v.length≤1073741824):∃v',F151 k v (a:Int) (b:Int)=some v'∧Kept v v' a b:=by
  obtain ⟨M,eM,h1,h2⟩:=Zp0 (k:=k) (n:=b-a) (by omega) (by omega)
  have hi:a≤a+(b-a) / 4*2-1:=by omega
  have hi2:a+(b-a) / 4*2-1≤a+(b-a) / 4*2+2:=by omega
  have hi3:a+(b-a) / 4*2+2-(a+(b-a) / 4*2-1)<k:=by omega
  obtain ⟨v',e,h⟩:=Zi5 h1 h2 hab k _ v (IntKind.wrap .u64 (((b-a:Nat)):Int)) hb hv hi hi2 hi3
  refine ⟨v',?_,h⟩
  rw [F151,Zkk (by omega) (by omega),ge8 (by omega),zt_,eM,zb_,if_pos (show (4:Int)≠0 by omega),Zq6 (by omega) (by omega),Zh3 (by omega) (by omega)]
  exact e
end Go.Proofs.YthilboheomikjaaGreatDoor
end
section
namespace Go.Proofs.YthilboheomikjaaGreatDoor
open Go.AL Go.Lib
set_option maxRecDepth 100000
def Le (x y:Zb):Prop:=w64 (x.f_Lo-y.f_Lo)<0
instance (x y:Zb):Decidable (Le x y):=by unfold Le;infer_instance
theorem Zqu {k:Nat} {self24:List Zb→Int→Int→Option (Int×Bool×List Zb)} {a j:Nat} {v:List Zb} {z:Zb} (ha:v[a]?=some z) (hj:j<v.length) (hv:v.length≤1073741824) :
    ∀(m i:Nat),i≤j+1→j+1-i<m→∃i',i≤i'∧i'≤j+1∧(∀p x,i≤p→p<i'→v[p]?=some x→Le x z)∧(i'≤j→∀x,v[i']?=some x→¬Le x z)∧
      Zbq k self24 (a:Int) v (j:Int) m (i:Int)=Zbr k self24 (a:Int) v (i':Int) k (j:Int)
  | 0,i,_,hm=>by omega
  | m+1,i,hi,hm=>by
    have e:Zbq k self24 (a:Int) v (j:Int) (m+1) (i:Int)=Zfp k self24 (Zbq k self24 (a:Int) v (j:Int) m) (a:Int) v (j:Int) (i:Int):=rfl
    rw [e]
    unfold Zfp
    have hal:=(List.getElem?_eq_some_iff.1 ha).1
    by_cases h:i≤j
    · obtain ⟨x,hx⟩:=ZU (v:=v) (i:=i) (by omega)
      rw [dt (by omega)]
      simp only [cond]
      rw [if_pos ⟨by omega,by omega⟩,Zx,hx]
      simp only [zb_]
      rw [if_pos ⟨by omega,by omega⟩,Zx,ha]
      simp only [zb_,F104]
      by_cases hl:Le x z
      · obtain ⟨i',h1,h2,h3,h4,h5⟩:=Zqu (k:=k) (self24:=self24) ha hj hv m (i+1) (by omega) (by omega)
        refine ⟨i',by omega,h2,fun p y hp hp2 hy=>?_,h4,?_⟩
        · by_cases e2:p=i
          · subst e2;rw [hx] at hy;obtain rfl:=zj_ hy;exact hl
          · exact h3 p y (by omega) hp2 hy
        · rw [dt (show w64 (x.f_Lo-z.f_Lo)<0 from hl)]
          unfold Zfr
          simp only [cond]
          rw [Zv (by omega) (by omega)]
          exact h5
      · refine ⟨i,Nat.le_refl _,hi,fun p y hp hp2 _=>by omega,fun _ y hy=>by rw [hx] at hy;obtain rfl:=zj_ hy;exact hl,?_⟩
        rw [df (show ¬w64 (x.f_Lo-z.f_Lo)<0 from hl)]
        rfl
    · refine ⟨i,Nat.le_refl _,hi,fun p y hp hp2 _=>by omega,fun h2=>absurd h2 h,?_⟩
      rw [df (by omega)]
      rfl
theorem Znc {k:Nat} {self24:List Zb→Int→Int→Option (Int×Bool×List Zb)} {a i:Nat} {v:List Zb} {z:Zb} (ha:v[a]?=some z) (hai:a<i) (hv:v.length≤1073741824) :
    ∀(m j:Nat),i≤j+1→j<v.length→j+1-i<m→∃j',i≤j'+1∧j'≤j∧(∀p x,j'<p→p≤j→v[p]?=some x→¬Le x z)∧(i≤j'→∀x,v[j']?=some x→Le x z)∧
      Zbr k self24 (a:Int) v (i:Int) m (j:Int)=ZbV self24 (fun _=>none) (a:Int) v (i:Int) (j':Int) false
  | 0,j,_,_,hm=>by omega
  | m+1,j,hi,hj,hm=>by
    have e:Zbr k self24 (a:Int) v (i:Int) (m+1) (j:Int)=Zfq k self24 (Zbr k self24 (a:Int) v (i:Int) m) (a:Int) v (i:Int) (j:Int):=rfl
    rw [e]
    unfold Zfq
    have hal:=(List.getElem?_eq_some_iff.1 ha).1
    by_cases h:i≤j
    · obtain ⟨x,hx⟩:=ZU (v:=v) (i:=j) (by omega)
      rw [dt (by omega)]
      simp only [cond]
      rw [if_pos ⟨by omega,by omega⟩,Zx,hx]
      simp only [zb_]
      rw [if_pos ⟨by omega,by omega⟩,Zx,ha]
      simp only [zb_,F104]
      by_cases hl:Le x z
      · refine ⟨j,by omega,Nat.le_refl _,fun p y hp hp2 _=>by omega,fun _ y hy=>by rw [hx] at hy;obtain rfl:=zj_ hy;exact hl,?_⟩
        rw [dt (show w64 (x.f_Lo-z.f_Lo)<0 from hl)]
        rfl
      · obtain ⟨j',h1,h2,h3,h4,h5⟩:=Znc (k:=k) (self24:=self24) ha hai hv m (j-1) (by omega) (by omega) (by omega)
        refine ⟨j',h1,by omega,fun p y hp hp2 hy=>?_,h4,?_⟩
        · by_cases e2:p=j
          · subst e2;rw [hx] at hy;obtain rfl:=zj_ hy;exact hl
          · exact h3 p y hp (by omega) hy
        · rw [df (show ¬w64 (x.f_Lo-z.f_Lo)<0 from hl)]
          unfold ZbV
          simp only [Bool.not_false,cond]
          rw [Zv (by omega) (by omega),show (j:Int)-1=((j-1:Nat):Int) by omega]
          rw [h5]
          unfold ZbV
          rfl
    · refine ⟨j,hi,Nat.le_refl _,fun p y hp hp2 _=>by omega,fun h2=>absurd h2 h,?_⟩
      rw [df (by omega)]
      rfl
structure Zgb (v:List Zb) (a b q:Nat) (z:Zb):Prop where
  here:v[q]?=some z
  lo:∀p x,a≤p→p<q→v[p]?=some x→Le x z
  hi:∀p x,q<p→p<b→v[p]?=some x→¬Le x z
theorem ZkH {k a b:Nat} {z:Zb} (hab:a<b) (hk:b-a<k):∀(m i j:Nat) (v:List Zb),a<i→i≤j+1→j<b→b≤v.length→v.length≤1073741824→j+1-i<m→v[a]?=some z→
    (∀p x,a<p→p<i→v[p]?=some x→Le x z)→(∀p x,j<p→p<b→v[p]?=some x→¬Le x z)→
    ∃(q:Nat) (v':List Zb),ZaI k (a:Int) m v (i:Int) (j:Int)=some ((q:Int),false,v')∧a≤q∧q<b∧Kept v v' a b∧Zgb v' a b q z
  | 0,i,j,v,_,_,_,_,_,hm,_,_,_=>by omega
  | m+1,i,j,v,hai,hij,hjb,hb,hv,hm,hz,hlo,hhi=>by
    have e:ZaI k (a:Int) (m+1) v (i:Int) (j:Int)=Zbq k (ZaI k (a:Int) m) (a:Int) v (j:Int) k (i:Int):=rfl
    rw [e]
    obtain ⟨i',g1,g2,g3,g4,e1⟩:=Zqu (k:=k) (self24:=ZaI k (a:Int) m) hz (j:=j) (by omega) hv k i hij (by omega)
    rw [e1]
    obtain ⟨j',d1,d2,d3,d4,e2⟩:=Znc (k:=k) (self24:=ZaI k (a:Int) m) hz (i:=i') (by omega) hv k j g2 (by omega) (by omega)
    rw [e2]
    have lo':∀p x,a<p→p<i'→v[p]?=some x→Le x z:=fun p x h1 h2 hx=>by
      by_cases h:p<i
      · exact hlo p x h1 h hx
      · exact g3 p x (by omega) h2 hx
    have hi':∀p x,j'<p→p<b→v[p]?=some x→¬Le x z:=fun p x h1 h2 hx=>by
      by_cases h:p≤j
      · exact d3 p x h1 h hx
      · exact hhi p x (by omega) h2 hx
    unfold ZbV
    simp only [cond]
    by_cases h:j'<i'
    · rw [dt (by omega)]
      simp only
      obtain ⟨y,hy⟩:=ZU (v:=v) (i:=j') (by omega)
      have e3:=ZbJ hy hz (fun l=>some ((j':Int),false,l))
      unfold sw at e3
      rw [e3]
      refine ⟨j',_,rfl,by omega,by omega,Kept.swp hy hz (by omega) (by omega) (by omega) (by omega),⟨?_,fun p x h1 h2 hx=>?_,fun p x h1 h2 hx=>?_⟩⟩
      · rw [Z5 hy hz]
        by_cases e4:j'=a
        · rw [if_pos e4];subst e4;rw [hy] at hz;exact hz ▸ rfl
        · rw [if_neg e4,if_pos rfl]
      · rw [Z5 hy hz] at hx
        by_cases e4:p=a
        · rw [if_pos e4] at hx
          obtain rfl:=zj_ hx
          exact lo' j' _ (by omega) (by omega) hy
        · rw [if_neg e4,if_neg (by omega)] at hx
          exact lo' p x (by omega) (by omega) hx
      · rw [Z5 hy hz,if_neg (by omega),if_neg (by omega)] at hx
        exact hi' p x h1 h2 hx
    · rw [df (by omega)]
      simp only
      obtain ⟨x,hx⟩:=ZU (v:=v) (i:=i') (by omega)
      obtain ⟨y,hy⟩:=ZU (v:=v) (i:=j') (by omega)
      have hne:i'≠j':=fun e4=>by
        subst e4
        exact g4 (by omega) x hx (d4 (by omega) x hx)
      have e3:=ZbJ hx hy (fun l=>ZaI k (a:Int) m l (w64 ((i':Int)+1)) (w64 ((j':Int)-1)))
      unfold sw at e3
      rw [e3,Zv (by omega) (by omega),Zv (by omega) (by omega),show (j':Int)-1=((j'-1:Nat):Int) by omega]
      obtain ⟨q,v',f1,f2,f3,f4,f5⟩:=ZkH (z:=z) hab hk m (i'+1) (j'-1) (swp v i' j' x y) (by omega) (by omega) (by omega) (by rw [ZX];exact hb) (by rw [ZX];exact hv) (by omega)
        (by rw [Z5 hx hy,if_neg (by omega),if_neg (by omega)];exact hz)
        (fun p w h1 h2 hw=>by
          rw [Z5 hx hy,if_neg (by omega)] at hw
          by_cases e4:p=i'
          · rw [if_pos e4] at hw;obtain rfl:=zj_ hw;exact d4 (by omega) _ hy
          · rw [if_neg e4] at hw;exact lo' p w h1 (by omega) hw)
        (fun p w h1 h2 hw=>by
          rw [Z5 hx hy] at hw
          by_cases e4:p=j'
          · rw [if_pos e4] at hw;obtain rfl:=zj_ hw;exact g4 (by omega) _ hx
          · rw [if_neg e4,if_neg (by omega)] at hw;exact hi' p w (by omega) h2 hw)
      exact ⟨q,v',f1,f2,f3,(Kept.swp hx hy (by omega) (by omega) (by omega) (by omega)).trans f4,f5⟩
end Go.Proofs.YthilboheomikjaaGreatDoor
end
section
namespace Go.Proofs.YthilboheomikjaaGreatDoor
open Go.AL Go.Lib
set_option maxRecDepth 100000
theorem Zpf {k a b pp:Nat} {v W:List Zb} {x0 y0 z:Zb} (hW:(v.set (Int.toNat (a:Int)) y0).set (Int.toNat (pp:Int)) x0=W) (ha:W[a]?=some z) (hab:a<b) (hb:b≤W.length) (hv:W.length≤1073741824) :
    ∀(m i:Nat),i≤b→b-i<m→∃i',i≤i'∧i'≤b∧(∀p x,i≤p→p<i'→W[p]?=some x→Le x z)∧(i'<b→∀x,W[i']?=some x→¬Le x z)∧
      Zb1 k v (a:Int) (b:Int) (pp:Int) y0 x0 m (i:Int)=Zbh k v (a:Int) (pp:Int) y0 x0 (i':Int) k ((b-1:Nat):Int)
  | 0,i,_,hm=>by omega
  | m+1,i,hi,hm=>by
    have e:Zb1 k v (a:Int) (b:Int) (pp:Int) y0 x0 (m+1) (i:Int)=Zg7 k (Zb1 k v (a:Int) (b:Int) (pp:Int) y0 x0 m) v (a:Int) (b:Int) (pp:Int) y0 x0 (i:Int):=rfl
    rw [e]
    unfold Zg7
    rw [hW]
    have eb:w64 ((b:Int)-1)=((b-1:Nat):Int):=by rw [Zv (by omega) (by omega)];omega
    rw [eb]
    by_cases h:i<b
    · obtain ⟨x,hx⟩:=ZU (v:=W) (i:=i) (by omega)
      rw [dt (by omega)]
      simp only [cond]
      rw [if_pos ⟨by omega,by omega⟩,Zx,hx]
      simp only [zb_]
      rw [if_pos ⟨by omega,by omega⟩,Zx,ha]
      simp only [zb_,F104]
      by_cases hl:Le x z
      · obtain ⟨i',h1,h2,h3,h4,h5⟩:=Zpf (k:=k) hW ha hab hb hv m (i+1) (by omega) (by omega)
        refine ⟨i',by omega,h2,fun p y hp hp2 hy=>?_,h4,?_⟩
        · by_cases e2:p=i
          · subst e2;rw [hx] at hy;obtain rfl:=zj_ hy;exact hl
          · exact h3 p y (by omega) hp2 hy
        · rw [dt (show w64 (x.f_Lo-z.f_Lo)<0 from hl)]
          unfold Zdg
          simp only [cond]
          rw [Zv (by omega) (by omega)]
          exact h5
      · refine ⟨i,Nat.le_refl _,hi,fun p y hp hp2 _=>by omega,fun _ y hy=>by rw [hx] at hy;obtain rfl:=zj_ hy;exact hl,?_⟩
        rw [df (show ¬w64 (x.f_Lo-z.f_Lo)<0 from hl)]
        unfold Zdg
        simp only [cond]
        rw [eb]
    · refine ⟨i,Nat.le_refl _,hi,fun p y hp hp2 _=>by omega,fun h2=>absurd h2 h,?_⟩
      rw [df (by omega)]
      unfold Zdg
      simp only [cond]
      rw [eb]
theorem ZlN {k a i pp:Nat} {v W:List Zb} {x0 y0 z:Zb} (hW:(v.set (Int.toNat (a:Int)) y0).set (Int.toNat (pp:Int)) x0=W) (ha:W[a]?=some z) (hai:a<i) (hv:W.length≤1073741824) :
    ∀(m j:Nat),i≤j+1→j<W.length→j+1-i<m→∃j',i≤j'+1∧j'≤j∧(∀p x,j'<p→p≤j→W[p]?=some x→¬Le x z)∧(i≤j'→∀x,W[j']?=some x→Le x z)∧
      Zbh k v (a:Int) (pp:Int) y0 x0 (i:Int) m (j:Int)=Zdh k (fun _=>none) v (a:Int) (pp:Int) y0 x0 (i:Int) (j':Int) false
  | 0,j,_,_,hm=>by omega
  | m+1,j,hi,hj,hm=>by
    have e:Zbh k v (a:Int) (pp:Int) y0 x0 (i:Int) (m+1) (j:Int)=Zg8 k (Zbh k v (a:Int) (pp:Int) y0 x0 (i:Int) m) v (a:Int) (pp:Int) y0 x0 (i:Int) (j:Int):=rfl
    rw [e]
    unfold Zg8
    rw [hW]
    have hal:=(List.getElem?_eq_some_iff.1 ha).1
    by_cases h:i≤j
    · obtain ⟨x,hx⟩:=ZU (v:=W) (i:=j) (by omega)
      rw [dt (by omega)]
      simp only [cond]
      rw [if_pos ⟨by omega,by omega⟩,Zx,hx]
      simp only [zb_]
      rw [if_pos ⟨by omega,by omega⟩,Zx,ha]
      simp only [zb_,F104]
      by_cases hl:Le x z
      · refine ⟨j,by omega,Nat.le_refl _,fun p y hp hp2 _=>by omega,fun _ y hy=>by rw [hx] at hy;obtain rfl:=zj_ hy;exact hl,?_⟩
        rw [dt (show w64 (x.f_Lo-z.f_Lo)<0 from hl)]
        rfl
      · obtain ⟨j',h1,h2,h3,h4,h5⟩:=ZlN (k:=k) hW ha hai hv m (j-1) (by omega) (by omega) (by omega)
        refine ⟨j',h1,by omega,fun p y hp hp2 hy=>?_,h4,?_⟩
        · by_cases e2:p=j
          · subst e2;rw [hx] at hy;obtain rfl:=zj_ hy;exact hl
          · exact h3 p y hp (by omega) hy
        · rw [df (show ¬w64 (x.f_Lo-z.f_Lo)<0 from hl)]
          have e3:Zdh k (Zbh k v (a:Int) (pp:Int) y0 x0 (i:Int) m) v (a:Int) (pp:Int) y0 x0 (i:Int) (j:Int) (!false)=Zbh k v (a:Int) (pp:Int) y0 x0 (i:Int) m (w64 ((j:Int)-1)):=rfl
          rw [e3,Zv (by omega) (by omega),show (j:Int)-1=((j-1:Nat):Int) by omega]
          exact h5
    · refine ⟨j,hi,Nat.le_refl _,fun p y hp hp2 _=>by omega,fun h2=>absurd h2 h,?_⟩
      rw [df (by omega)]
      rfl
theorem Zri {k a b pp:Nat} {v:List Zb} (hk:b-a+1<k) (hap:a≤pp) (hpb:pp<b) (hb:b≤v.length) (hv:v.length≤1073741824) :
    ∃(q:Nat) (fl:Bool) (v':List Zb) (z:Zb),F156 k v (a:Int) (b:Int) (pp:Int)=some ((q:Int),fl,v')∧a≤q∧q<b∧Kept v v' a b∧Zgb v' a b q z:=by
  obtain ⟨x,hx⟩:=ZU (v:=v) (i:=a) (by omega)
  obtain ⟨y,hy⟩:=ZU (v:=v) (i:=pp) (by omega)
  obtain ⟨W,hWd⟩:∃W,W=swp v a pp x y:=⟨_,rfl⟩
  have hW:(v.set (Int.toNat (a:Int)) y).set (Int.toNat (pp:Int)) x=W:=hWd.symm
  have hz:W[a]?=some y:=by
    rw [hWd,Z5 hx hy]
    by_cases e:a=pp
    · rw [if_pos e];subst e;rw [hx] at hy;exact hy
    · rw [if_neg e,if_pos rfl]
  have hlen:W.length=v.length:=by rw [hWd];exact ZX v a pp x y
  have k0:Kept v W a b:=by rw [hWd];exact Kept.swp hx hy (by omega) (by omega) hap hpb
  unfold F156
  rw [if_pos ⟨by omega,by omega⟩,Zx,hy]
  simp only [zb_]
  rw [if_pos ⟨by omega,by omega⟩,Zx,hx]
  simp only [zb_]
  rw [if_pos ⟨by omega,by omega⟩,if_pos ⟨by omega,by rw [List.length_set];omega⟩,Zx,Int.toNat_natCast]
  have h4:(v.set a y)[pp]?=some ((v.set a y)[pp]'(by rw [List.length_set];omega)):=List.getElem?_eq_getElem _
  rw [h4]
  simp only [zb_]
  rw [Zv (by omega) (by omega)]
  obtain ⟨i',g1,g2,g3,g4,e1⟩:=Zpf (k:=k) hW hz (b:=b) (by omega) (by omega) (by omega) k (a+1) (by omega) (by omega)
  have e1':Zb1 k v (a:Int) (b:Int) (pp:Int) y x k ((a:Int)+1)=_:=e1
  rw [e1']
  obtain ⟨j',d1,d2,d3,d4,e2⟩:=ZlN (k:=k) hW hz (i:=i') (by omega) (by omega) k (b-1) (by omega) (by omega) (by omega)
  rw [e2]
  unfold Zdh
  rw [hW]
  have lo':∀p w,a<p→p<i'→W[p]?=some w→Le w y:=fun p w h1 h2 hw=>g3 p w (by omega) h2 hw
  have hi':∀p w,j'<p→p<b→W[p]?=some w→¬Le w y:=fun p w h1 h2 hw=>d3 p w h1 (by omega) hw
  simp only [cond]
  by_cases h:j'<i'
  · rw [dt (by omega)]
    simp only
    obtain ⟨u,hu⟩:=ZU (v:=W) (i:=j') (by omega)
    have e3:=ZbJ hu hz (fun l=>some ((j':Int),true,l))
    unfold sw at e3
    rw [e3]
    refine ⟨j',true,_,y,rfl,by omega,by omega,k0.trans (Kept.swp hu hz (by omega) (by omega) (by omega) (by omega)),⟨?_,fun p w h1 h2 hw=>?_,fun p w h1 h2 hw=>?_⟩⟩
    · rw [Z5 hu hz]
      by_cases e4:j'=a
      · rw [if_pos e4];subst e4;rw [hu] at hz;exact hz
      · rw [if_neg e4,if_pos rfl]
    · rw [Z5 hu hz] at hw
      by_cases e4:p=a
      · rw [if_pos e4] at hw
        obtain rfl:=zj_ hw
        exact lo' j' _ (by omega) (by omega) hu
      · rw [if_neg e4,if_neg (by omega)] at hw
        exact lo' p w (by omega) (by omega) hw
    · rw [Z5 hu hz,if_neg (by omega),if_neg (by omega)] at hw
      exact hi' p w h1 h2 hw
  · rw [df (by omega)]
    simp only
    obtain ⟨u,hu⟩:=ZU (v:=W) (i:=i') (by omega)
    obtain ⟨w,hw⟩:=ZU (v:=W) (i:=j') (by omega)
    have hne:i'≠j':=fun e4=>by
      subst e4
      exact g4 (by omega) u hu (d4 (by omega) u hu)
    have e3:=ZbJ hu hw (fun l=>ZaI k (a:Int) k l (w64 ((i':Int)+1)) (w64 ((j':Int)-1)))
    unfold sw at e3
    rw [e3,Zv (by omega) (by omega),Zv (by omega) (by omega),show (j':Int)-1=((j'-1:Nat):Int) by omega]
    obtain ⟨q,v',f1,f2,f3,f4,f5⟩:=ZkH (k:=k) (z:=y) (a:=a) (b:=b) (by omega) (by omega) k (i'+1) (j'-1) (swp W i' j' u w) (by omega) (by omega) (by omega) (by rw [ZX];omega) (by rw [ZX];omega) (by omega)
      (by rw [Z5 hu hw,if_neg (by omega),if_neg (by omega)];exact hz)
      (fun p t h1 h2 ht=>by
        rw [Z5 hu hw,if_neg (by omega)] at ht
        by_cases e4:p=i'
        · rw [if_pos e4] at ht;obtain rfl:=zj_ ht;exact d4 (by omega) _ hw
        · rw [if_neg e4] at ht;exact lo' p t h1 (by omega) ht)
      (fun p t h1 h2 ht=>by
        rw [Z5 hu hw] at ht
        by_cases e4:p=j'
        · rw [if_pos e4] at ht;obtain rfl:=zj_ ht;exact g4 (by omega) _ hu
        · rw [if_neg e4,if_neg (by omega)] at ht;exact hi' p t (by omega) h2 ht)
    exact ⟨q,false,v',y,f1,f2,f3,(k0.trans (Kept.swp hu hw (by omega) (by omega) (by omega) (by omega))).trans f4,f5⟩
end Go.Proofs.YthilboheomikjaaGreatDoor
end
section
namespace Go.Proofs.YthilboheomikjaaGreatDoor
open Go.AL Go.Lib
set_option maxRecDepth 100000
theorem Zpg {k:Nat} {self16:List Zb→Int→Int→Option (Int×List Zb)} {a j:Nat} {v:List Zb} {z:Zb} (ha:v[a]?=some z) (hj:j<v.length) (hv:v.length≤1073741824) :
    ∀(m i:Nat),i≤j+1→j+1-i<m→∃i',i≤i'∧i'≤j+1∧(∀p x,i≤p→p<i'→v[p]?=some x→¬Le z x)∧(i'≤j→∀x,v[i']?=some x→Le z x)∧
      Zbp k self16 (a:Int) v (j:Int) m (i:Int)=ZaW k self16 (a:Int) v (i':Int) k (j:Int)
  | 0,i,_,hm=>by omega
  | m+1,i,hi,hm=>by
    have e:Zbp k self16 (a:Int) v (j:Int) (m+1) (i:Int)=Zfm k self16 (Zbp k self16 (a:Int) v (j:Int) m) (a:Int) v (j:Int) (i:Int):=rfl
    rw [e]
    unfold Zfm
    have hal:=(List.getElem?_eq_some_iff.1 ha).1
    by_cases h:i≤j
    · obtain ⟨x,hx⟩:=ZU (v:=v) (i:=i) (by omega)
      rw [dt (by omega)]
      simp only [cond]
      rw [if_pos ⟨by omega,by omega⟩,Zx,ha]
      simp only [zb_]
      rw [if_pos ⟨by omega,by omega⟩,Zx,hx]
      simp only [zb_,F104]
      by_cases hl:Le z x
      · refine ⟨i,Nat.le_refl _,hi,fun p y hp hp2 _=>by omega,fun _ y hy=>by rw [hx] at hy;obtain rfl:=zj_ hy;exact hl,?_⟩
        rw [dt (show w64 (z.f_Lo-x.f_Lo)<0 from hl)]
        rfl
      · obtain ⟨i',h1,h2,h3,h4,h5⟩:=Zpg (k:=k) (self16:=self16) ha hj hv m (i+1) (by omega) (by omega)
        refine ⟨i',by omega,h2,fun p y hp hp2 hy=>?_,h4,?_⟩
        · by_cases e2:p=i
          · subst e2;rw [hx] at hy;obtain rfl:=zj_ hy;exact hl
          · exact h3 p y (by omega) hp2 hy
        · rw [df (show ¬w64 (z.f_Lo-x.f_Lo)<0 from hl)]
          unfold Zfo
          simp only [Bool.not_false,cond]
          rw [Zv (by omega) (by omega)]
          exact h5
    · refine ⟨i,Nat.le_refl _,hi,fun p y hp hp2 _=>by omega,fun h2=>absurd h2 h,?_⟩
      rw [df (by omega)]
      rfl
theorem ZlO {k:Nat} {self16:List Zb→Int→Int→Option (Int×List Zb)} {a i:Nat} {v:List Zb} {z:Zb} (ha:v[a]?=some z) (hai:a<i) (hv:v.length≤1073741824) :
    ∀(m j:Nat),i≤j+1→j<v.length→j+1-i<m→∃j',i≤j'+1∧j'≤j∧(∀p x,j'<p→p≤j→v[p]?=some x→Le z x)∧(i≤j'→∀x,v[j']?=some x→¬Le z x)∧
      ZaW k self16 (a:Int) v (i:Int) m (j:Int)=Zcr self16 (fun _=>none) v (i:Int) (j':Int) false
  | 0,j,_,_,hm=>by omega
  | m+1,j,hi,hj,hm=>by
    have e:ZaW k self16 (a:Int) v (i:Int) (m+1) (j:Int)=Zfn k self16 (ZaW k self16 (a:Int) v (i:Int) m) (a:Int) v (i:Int) (j:Int):=rfl
    rw [e]
    unfold Zfn
    have hal:=(List.getElem?_eq_some_iff.1 ha).1
    by_cases h:i≤j
    · obtain ⟨x,hx⟩:=ZU (v:=v) (i:=j) (by omega)
      rw [dt (by omega)]
      simp only [cond]
      rw [if_pos ⟨by omega,by omega⟩,Zx,ha]
      simp only [zb_]
      rw [if_pos ⟨by omega,by omega⟩,Zx,hx]
      simp only [zb_,F104]
      by_cases hl:Le z x
      · obtain ⟨j',h1,h2,h3,h4,h5⟩:=ZlO (k:=k) (self16:=self16) ha hai hv m (j-1) (by omega) (by omega) (by omega)
        refine ⟨j',h1,by omega,fun p y hp hp2 hy=>?_,h4,?_⟩
        · by_cases e2:p=j
          · subst e2;rw [hx] at hy;obtain rfl:=zj_ hy;exact hl
          · exact h3 p y hp (by omega) hy
        · rw [dt (show w64 (z.f_Lo-x.f_Lo)<0 from hl)]
          have e3:Zcr self16 (ZaW k self16 (a:Int) v (i:Int) m) v (i:Int) (j:Int) true=ZaW k self16 (a:Int) v (i:Int) m (w64 ((j:Int)-1)):=rfl
          rw [e3,Zv (by omega) (by omega),show (j:Int)-1=((j-1:Nat):Int) by omega]
          exact h5
      · refine ⟨j,by omega,Nat.le_refl _,fun p y hp hp2 _=>by omega,fun _ y hy=>by rw [hx] at hy;obtain rfl:=zj_ hy;exact hl,?_⟩
        rw [df (show ¬w64 (z.f_Lo-x.f_Lo)<0 from hl)]
        rfl
    · refine ⟨j,hi,Nat.le_refl _,fun p y hp hp2 _=>by omega,fun h2=>absurd h2 h,?_⟩
      rw [df (by omega)]
      rfl
structure Zj2 (v:List Zb) (a b q:Nat) (z:Zb):Prop where
  lo:∀p x,a≤p→p<q→v[p]?=some x→¬Le z x
  hi:∀p x,q≤p→p<b→v[p]?=some x→Le z x
theorem Le.irr (z:Zb):¬Le z z:=by unfold Le;rw [Int.sub_self,Zv (by omega) (by omega)];omega
theorem Zjn {k a b:Nat} {z:Zb} (hab:a<b) (hk:b-a<k):∀(m i j:Nat) (v:List Zb),a<i→i≤j+1→j<b→b≤v.length→v.length≤1073741824→j+1-i<m→v[a]?=some z→
    (∀p x,a<p→p<i→v[p]?=some x→¬Le z x)→(∀p x,j<p→p<b→v[p]?=some x→Le z x)→
    ∃(q:Nat) (v':List Zb),ZaH k (a:Int) m v (i:Int) (j:Int)=some ((q:Int),v')∧a<q∧q≤b∧Kept v v' a b∧Zj2 v' a b q z
  | 0,i,j,v,_,_,_,_,_,hm,_,_,_=>by omega
  | m+1,i,j,v,hai,hij,hjb,hb,hv,hm,hz,hlo,hhi=>by
    have e:ZaH k (a:Int) (m+1) v (i:Int) (j:Int)=Zbp k (ZaH k (a:Int) m) (a:Int) v (j:Int) k (i:Int):=rfl
    rw [e]
    obtain ⟨i',g1,g2,g3,g4,e1⟩:=Zpg (k:=k) (self16:=ZaH k (a:Int) m) hz (j:=j) (by omega) hv k i hij (by omega)
    rw [e1]
    obtain ⟨j',d1,d2,d3,d4,e2⟩:=ZlO (k:=k) (self16:=ZaH k (a:Int) m) hz (i:=i') (by omega) hv k j g2 (by omega) (by omega)
    rw [e2]
    have lo':∀p x,a≤p→p<i'→v[p]?=some x→¬Le z x:=fun p x h1 h2 hx=>by
      by_cases e0:p=a
      · subst e0;rw [hz] at hx;obtain rfl:=zj_ hx;exact Le.irr _
      · by_cases h:p<i
        · exact hlo p x (by omega) h hx
        · exact g3 p x (by omega) h2 hx
    have hi':∀p x,j'<p→p<b→v[p]?=some x→Le z x:=fun p x h1 h2 hx=>by
      by_cases h:p≤j
      · exact d3 p x h1 h hx
      · exact hhi p x (by omega) h2 hx
    unfold Zcr
    simp only [cond]
    by_cases h:j'<i'
    · rw [dt (by omega)]
      exact ⟨i',v,rfl,by omega,by omega,Kept.refl _ _ _,⟨lo',fun p x h1 h2 hx=>hi' p x (by omega) h2 hx⟩⟩
    · rw [df (by omega)]
      simp only
      obtain ⟨x,hx⟩:=ZU (v:=v) (i:=i') (by omega)
      obtain ⟨y,hy⟩:=ZU (v:=v) (i:=j') (by omega)
      have hne:i'≠j':=fun e4=>by
        subst e4
        exact d4 (by omega) x hx (g4 (by omega) x hx)
      have e3:=ZbJ hx hy (fun l=>ZaH k (a:Int) m l (w64 ((i':Int)+1)) (w64 ((j':Int)-1)))
      unfold sw at e3
      rw [e3,Zv (by omega) (by omega),Zv (by omega) (by omega),show (j':Int)-1=((j'-1:Nat):Int) by omega]
      obtain ⟨q,v',f1,f2,f3,f4,f5⟩:=Zjn (z:=z) hab hk m (i'+1) (j'-1) (swp v i' j' x y) (by omega) (by omega) (by omega) (by rw [ZX];exact hb) (by rw [ZX];exact hv) (by omega)
        (by rw [Z5 hx hy,if_neg (by omega),if_neg (by omega)];exact hz)
        (fun p w h1 h2 hw=>by
          rw [Z5 hx hy,if_neg (by omega)] at hw
          by_cases e4:p=i'
          · rw [if_pos e4] at hw;obtain rfl:=zj_ hw;exact d4 (by omega) _ hy
          · rw [if_neg e4] at hw;exact lo' p w (by omega) (by omega) hw)
        (fun p w h1 h2 hw=>by
          rw [Z5 hx hy] at hw
          by_cases e4:p=j'
          · rw [if_pos e4] at hw;obtain rfl:=zj_ hw;exact g4 (by omega) _ hx
          · rw [if_neg e4,if_neg (by omega)] at hw;exact hi' p w (by omega) h2 hw)
      exact ⟨q,v',f1,f2,f3,(Kept.swp hx hy (by omega) (by omega) (by omega) (by omega)).trans f4,f5⟩
theorem ZpY {k a b pp:Nat} {v:List Zb} {z:Zb} (hk:b-a+1<k) (hap:a≤pp) (hpb:pp<b) (hb:b≤v.length) (hv:v.length≤1073741824) (hy:v[pp]?=some z) :
    ∃(q:Nat) (v':List Zb),F155 k v (a:Int) (b:Int) (pp:Int)=some ((q:Int),v')∧a<q∧q≤b∧Kept v v' a b∧Zj2 v' a b q z:=by
  obtain ⟨x,hx⟩:=ZU (v:=v) (i:=a) (by omega)
  have hz:(swp v a pp x z)[a]?=some z:=by
    rw [Z5 hx hy]
    by_cases e:a=pp
    · rw [if_pos e];subst e;rw [hx] at hy;exact hy
    · rw [if_neg e,if_pos rfl]
  have e3:=ZbJ hx hy (fun l=>ZaH k (a:Int) k l (w64 ((a:Int)+1)) (w64 ((b:Int)-1)))
  unfold sw at e3
  unfold F155
  rw [e3,Zv (by omega) (by omega),Zv (by omega) (by omega),show (b:Int)-1=((b-1:Nat):Int) by omega]
  obtain ⟨q,v',f1,f2,f3,f4,f5⟩:=Zjn (k:=k) (z:=z) (a:=a) (b:=b) (by omega) (by omega) k (a+1) (b-1) (swp v a pp x z) (by omega) (by omega) (by omega) (by rw [ZX];exact hb) (by rw [ZX];exact hv) (by omega) hz
    (fun p w h1 h2 _=>by omega) (fun p w h1 h2 _=>by omega)
  exact ⟨q,v',f1,f2,f3,(Kept.swp hx hy (by omega) (by omega) hap hpb).trans f4,f5⟩
end Go.Proofs.YthilboheomikjaaGreatDoor
end
section
namespace Go.Proofs.YthilboheomikjaaGreatDoor
open Go.AL Go.Lib
set_option maxRecDepth 100000
def Bnd (v:List Zb) (a b:Nat):Prop:=∀p x y,0<a→v[a-1]?=some x→a≤p→p<b→v[p]?=some y→x.f_Lo≤y.f_Lo
theorem ZcX {v:List Zb} {p q:Nat} {x y:Zb} (h:Small v) (hx:v[p]?=some x) (hy:v[q]?=some y):Le x y↔x.f_Lo<y.f_Lo:=by
  have:=Ze6 (h.at hx) (h.at hy)
  unfold Le;rw [this];omega
theorem Kept.mem {v v':List Zb} {a b:Nat} (h:Kept v v' a b) (hb:b≤v.length) {p:Nat} {y:Zb} (hp:a≤p) (hp2:p<b) (hy:v'[p]?=some y):∃q,a≤q∧q<b∧v[q]?=some y:=by
  by_cases hab:a≤b
  · have e1:v=v.take a ++ ((v.drop a).take (b-a) ++ v.drop b):=by
      have:v.drop b=(v.drop a).drop (b-a):=by rw [List.drop_drop];congr 1;omega
      rw [this,List.take_append_drop,List.take_append_drop]
    have e2:v'=v'.take a ++ ((v'.drop a).take (b-a) ++ v'.drop b):=by
      have:v'.drop b=(v'.drop a).drop (b-a):=by rw [List.drop_drop];congr 1;omega
      rw [this,List.take_append_drop,List.take_append_drop]
    have h1:v'.take a=v.take a:=by
      apply List.ext_getElem?;intro i
      rw [List.getElem?_take,List.getElem?_take]
      split
      · exact h.out i (by omega)
      · rfl
    have h2:v'.drop b=v.drop b:=by
      apply List.ext_getElem?;intro i
      rw [List.getElem?_drop,List.getElem?_drop]
      exact h.out (b+i) (by omega)
    have hp':=h.perm
    rw [e1,e2,h1,h2] at hp'
    have hp3:=(List.perm_append_right_iff _).1 ((List.perm_append_left_iff _).1 hp')
    have hy2:y∈(v'.drop a).take (b-a):=by
      apply List.mem_of_getElem? (i:=p-a)
      rw [List.getElem?_take,if_pos (by omega),List.getElem?_drop,show a+(p-a)=p by omega];exact hy
    obtain ⟨i,hi⟩:=List.getElem?_of_mem (hp3.mem_iff.1 hy2)
    rw [List.getElem?_take] at hi
    split at hi
    · rw [List.getElem?_drop] at hi
      exact ⟨a+i,by omega,by omega,hi⟩
    · cases hi
  · omega
theorem Bnd.kept {v v':List Zb} {a b c d:Nat} (h:Bnd v a b) (k:Kept v v' c d) (hc:a≤c) (hd:d≤b) (hb:b≤v.length):Bnd v' a b:=fun p x y h0 hx hp hp2 hy=>by
  rw [k.out (a-1) (by omega)] at hx
  obtain ⟨q,q1,q2,hq⟩:=(k.mono hc hd).mem hb hp hp2 hy
  exact h q x y h0 hx q1 q2 hq
theorem Zmw {k:Nat} {self16:List Zb→Int→Int→Option (Bool×List Zb)} {b n i:Nat}:∀(m j:Nat) (v:List Zb),i<j→j≤b→b≤v.length→v.length≤1073741824→b-j<m→
    ∃v',Za6 k self16 (b:Int) (n:Int) (i:Int) m v (j:Int)=ZbU self16 (n:Int) v' (i:Int)∧Kept v v' i b
  | 0,j,v,_,_,_,_,hm=>by omega
  | m+1,j,v,hi,hj,hb,hv,hm=>by
    have e:Za6 k self16 (b:Int) (n:Int) (i:Int) (m+1) v (j:Int)=Zfl k self16 (Za6 k self16 (b:Int) (n:Int) (i:Int) m) (b:Int) (n:Int) (i:Int) v (j:Int):=rfl
    rw [e]
    unfold Zfl
    by_cases h:j<b
    · obtain ⟨x,hx⟩:=ZU (v:=v) (i:=j) (by omega)
      obtain ⟨y,hy⟩:=ZU (v:=v) (i:=j-1) (by omega)
      have ew:w64 ((j:Int)-1)=((j-1:Nat):Int):=by rw [Zv (by omega) (by omega)];omega
      have e3:=ZbJ hx hy (fun l=>Za6 k self16 (b:Int) (n:Int) (i:Int) m l (w64 ((j:Int)+1)))
      unfold sw at e3
      rw [dt (by omega),ew]
      simp only [cond]
      rw [e3,if_pos ⟨by omega,by omega⟩,Zx,hx]
      simp only [zb_]
      rw [if_pos ⟨by omega,by omega⟩,Zx,hy]
      simp only [zb_,F104]
      by_cases hl:w64 (x.f_Lo-y.f_Lo)<0
      · rw [dt hl]
        simp only [Bool.not_true]
        rw [Zv (by omega) (by omega)]
        obtain ⟨v',e4,k4⟩:=Zmw (k:=k) (self16:=self16) (b:=b) (n:=n) (i:=i) m (j+1) (swp v j (j-1) x y) (by omega) (by omega) (by rw [ZX];exact hb) (by rw [ZX];exact hv) (by omega)
        exact ⟨v',e4,(Kept.swp hx hy (by omega) (by omega) (by omega) (by omega)).trans k4⟩
      · rw [df hl]
        exact ⟨v,rfl,Kept.refl _ _ _⟩
    · rw [df (by omega)]
      exact ⟨v,rfl,Kept.refl _ _ _⟩
theorem ZjB {k:Nat} {self16:List Zb→Int→Int→Option (Bool×List Zb)} {a b n i:Nat} (hai:a<i) (hib:i≤b):∀(m j:Nat) (v:List Zb),j<i→b≤v.length→v.length≤1073741824→j<m→
    ∃v',Za5 k self16 (b:Int) (n:Int) (i:Int) m v (j:Int)=Za3 k self16 (b:Int) (n:Int) (i:Int) v'∧List.Perm v' v∧
      (Small v→Bnd v a b→a≤j→(∀p q x y,a≤p→p<q→q<i→q≠j→v[p]?=some x→v[q]?=some y→x.f_Lo≤y.f_Lo)→ZaO v v' a i∧ZS v' a i)
  | 0,j,v,_,_,_,hm=>by omega
  | m+1,j,v,hj,hb,hv,hm=>by
    have e:Za5 k self16 (b:Int) (n:Int) (i:Int) (m+1) v (j:Int)=Zfk k self16 (Za5 k self16 (b:Int) (n:Int) (i:Int) m) (b:Int) (n:Int) (i:Int) v (j:Int):=rfl
    rw [e]
    unfold Zfk
    by_cases h:1≤j
    · obtain ⟨x,hx⟩:=ZU (v:=v) (i:=j) (by omega)
      obtain ⟨y,hy⟩:=ZU (v:=v) (i:=j-1) (by omega)
      have ew:w64 ((j:Int)-1)=((j-1:Nat):Int):=by rw [Zv (by omega) (by omega)];omega
      have e3:=ZbJ hx hy (fun l=>Za5 k self16 (b:Int) (n:Int) (i:Int) m l ((j-1:Nat):Int))
      unfold sw at e3
      rw [dt (by omega),ew]
      simp only [cond]
      rw [e3,if_pos ⟨by omega,by omega⟩,Zx,hx]
      simp only [zb_]
      rw [if_pos ⟨by omega,by omega⟩,Zx,hy]
      simp only [zb_,F104]
      by_cases hl:w64 (x.f_Lo-y.f_Lo)<0
      · rw [dt hl]
        simp only [Bool.not_true]
        obtain ⟨v',e4,p4,c4⟩:=ZjB (k:=k) (self16:=self16) (a:=a) (b:=b) (n:=n) hai hib m (j-1) (swp v j (j-1) x y) (by omega) (by rw [ZX];exact hb) (by rw [ZX];exact hv) (by omega)
        refine ⟨v',e4,p4.trans (ZdS hx hy),fun hs hbd haj hso=>?_⟩
        have hxy:=(ZcX hs hx hy).1 hl
        have hja:a<j:=by
          apply Nat.lt_of_not_le
          intro hle
          have:j=a:=by omega
          subst this
          have:=hbd j y x (by omega) hy (Nat.le_refl _) (by omega) hx
          omega
        have hget:=Z5 hx hy
        have kk:Kept v (swp v j (j-1) x y) a i:=Kept.swp hx hy (by omega) (by omega) (by omega) (by omega)
        obtain ⟨o4,s4⟩:=c4 (hs.perm (ZdS hx hy)) (hbd.kept kk (Nat.le_refl _) hib hb) (by omega) (fun p q x1 y1 hap hpq hqi hqj h1 h2=>by
          rw [hget] at h1 h2
          rw [if_neg hqj] at h2
          by_cases e5:p=j-1
          · rw [if_pos e5] at h1
            obtain rfl:=zj_ h1
            by_cases e6:q=j
            · rw [if_pos e6] at h2
              obtain rfl:=zj_ h2
              omega
            · rw [if_neg e6] at h2
              have:=hso (j-1) q y y1 (by omega) (by omega) hqi (by omega) hy h2
              omega
          · rw [if_neg e5] at h1
            by_cases e6:p=j
            · rw [if_pos e6] at h1
              obtain rfl:=zj_ h1
              rw [if_neg (by omega)] at h2
              exact hso (j-1) q _ _ (by omega) (by omega) hqi (by omega) hy h2
            · rw [if_neg e6] at h1
              by_cases e7:q=j
              · rw [if_pos e7] at h2
                obtain rfl:=zj_ h2
                exact hso p (j-1) _ _ hap (by omega) (by omega) (by omega) h1 hy
              · rw [if_neg e7] at h2
                exact hso p q _ _ hap hpq hqi e7 h1 h2)
        exact ⟨fun p hp=>(o4 p hp).trans (kk.out p hp),s4⟩
      · rw [df hl]
        refine ⟨v,rfl,List.Perm.refl _,fun hs hbd haj hso=>⟨fun _ _=>rfl,fun p q x1 y1 hap hpq hqi h1 h2=>?_⟩⟩
        have hyx:y.f_Lo≤x.f_Lo:=by
          have:=ZcX hs hx hy
          unfold Le at this
          omega
        by_cases e5:q=j
        · subst e5
          rw [hx] at h2
          obtain rfl:=zj_ h2
          by_cases e6:p=q-1
          · subst e6
            rw [hy] at h1
            obtain rfl:=zj_ h1
            exact hyx
          · have:=hso p (q-1) _ _ hap (by omega) (by omega) (by omega) h1 hy
            omega
        · exact hso p q _ _ hap hpq hqi e5 h1 h2
    · rw [df (by omega)]
      refine ⟨v,rfl,List.Perm.refl _,fun hs hbd haj hso=>⟨fun _ _=>rfl,fun p q x1 y1 hap hpq hqi h1 h2=>hso p q _ _ hap hpq hqi (by omega) h1 h2⟩⟩
end Go.Proofs.YthilboheomikjaaGreatDoor
end
section
namespace Go.Proofs.YthilboheomikjaaGreatDoor
open Go.AL Go.Lib
set_option maxRecDepth 100000
theorem ZV {a b:Int} (h:a=b):(a == b)=true:=by simpa using h
theorem ZF {a b:Int} (h:a≠b):(a == b)=false:=by simpa using h
theorem ZnC {k:Nat} {self16:List Zb→Int→Int→Option (Bool×List Zb)} {a b n:Nat} {v:List Zb} (hb:b≤v.length) (hv:v.length≤1073741824) :
    ∀(m i:Nat),a<i→i≤b→b-i<m→∃i',i≤i'∧i'≤b∧(Small v→ZS v a i→ZS v a i')∧
      Za4 k self16 (a:Int) (b:Int) v (n:Int) m (i:Int)=Zcq k self16 (fun _=>none) (a:Int) (b:Int) v (n:Int) (i':Int) false
  | 0,i,_,_,hm=>by omega
  | m+1,i,ha,hi,hm=>by
    have e:Za4 k self16 (a:Int) (b:Int) v (n:Int) (m+1) (i:Int)=Zfj k self16 (Za4 k self16 (a:Int) (b:Int) v (n:Int) m) (a:Int) (b:Int) v (n:Int) (i:Int):=rfl
    rw [e]
    unfold Zfj
    by_cases h:i<b
    · obtain ⟨x,hx⟩:=ZU (v:=v) (i:=i) (by omega)
      obtain ⟨y,hy⟩:=ZU (v:=v) (i:=i-1) (by omega)
      have ew:w64 ((i:Int)-1)=((i-1:Nat):Int):=by rw [Zv (by omega) (by omega)];omega
      rw [dt (by omega),ew]
      simp only [cond]
      rw [if_pos ⟨by omega,by omega⟩,Zx,hx]
      simp only [zb_]
      rw [if_pos ⟨by omega,by omega⟩,Zx,hy]
      simp only [zb_,F104]
      by_cases hl:w64 (x.f_Lo-y.f_Lo)<0
      · rw [dt hl]
        exact ⟨i,Nat.le_refl _,hi,fun _ h=>h,rfl⟩
      · rw [df hl]
        obtain ⟨i',h1,h2,h3,h4⟩:=ZnC (k:=k) (self16:=self16) (a:=a) (b:=b) (n:=n) hb hv m (i+1) (by omega) (by omega) (by omega)
        refine ⟨i',by omega,h2,fun hs hso=>h3 hs fun p q x1 y1 hap hpq hqi hp hq=>?_,?_⟩
        · have hyx:y.f_Lo≤x.f_Lo:=by
            have:=ZcX hs hx hy
            unfold Le at this
            omega
          by_cases e5:q=i
          · subst e5
            rw [hx] at hq
            obtain rfl:=zj_ hq
            by_cases e6:p=q-1
            · subst e6
              rw [hy] at hp
              obtain rfl:=zj_ hp
              exact hyx
            · have:=hso p (q-1) _ _ hap (by omega) (by omega) hp hy
              omega
          · exact hso p q _ _ hap hpq (by omega) hp hq
        · have e3:Zcq k self16 (Za4 k self16 (a:Int) (b:Int) v (n:Int) m) (a:Int) (b:Int) v (n:Int) (i:Int) (!false)=Za4 k self16 (a:Int) (b:Int) v (n:Int) m (w64 ((i:Int)+1)):=rfl
          rw [e3,Zv (by omega) (by omega)]
          exact h4
    · rw [df (by omega)]
      exact ⟨i,Nat.le_refl _,hi,fun _ h=>h,rfl⟩
theorem Zpy {k:Nat} {self16:List Zb→Int→Int→Option (Bool×List Zb)} {b n i:Nat} {v:List Zb} (hib:i<b) (hb:b≤v.length) (hv:v.length≤1073741824) (hk:v.length<k) (hn:n≤5) :
    ∃v',Za3 k self16 (b:Int) (n:Int) (i:Int) v=self16 v' (i:Int) ((n+1:Nat):Int)∧Kept v v' i b:=by
  unfold Za3
  have e0:w64 ((b:Int)-(i:Int))=((b-i:Nat):Int):=by rw [Zv (by omega) (by omega)];omega
  have en:∀l,ZbU self16 (n:Int) l (i:Int)=self16 l (i:Int) ((n+1:Nat):Int):=fun l=>by
    unfold ZbU
    rw [Zv (by omega) (by omega)];rfl
  rw [e0]
  by_cases h:2≤b-i
  · rw [dt (by omega)]
    simp only [cond]
    obtain ⟨v',e1,k1⟩:=Zmw (k:=k) (self16:=self16) (b:=b) (n:=n) (i:=i) k (i+1) v (by omega) (by omega) hb hv (by omega)
    rw [Zv (by omega) (by omega)]
    exact ⟨v',(show Za6 k self16 (b:Int) (n:Int) (i:Int) k v ((i:Int)+1)=_ from e1).trans (en v'),k1⟩
  · rw [df (by omega)]
    exact ⟨v,en v,Kept.refl _ _ _⟩
theorem ZkS {k a b:Nat} (hab:a<b):∀(m n i:Nat) (v:List Zb),n≤5→5-n<m→a<i→i≤b→b≤v.length→v.length≤1073741824→v.length<k→
    ∃fl v',Zam k (a:Int) (b:Int) m v (i:Int) (n:Int)=some (fl,v')∧List.Perm v' v∧(Small v→Bnd v a b→ZS v a i→ZaO v v' a b∧(fl=true→ZS v' a b))
  | 0,n,i,v,_,hm,_,_,_,_,_=>by omega
  | m+1,n,i,v,hn,hm,ha,hi,hb,hv,hk=>by
    have e:Zam k (a:Int) (b:Int) (m+1) v (i:Int) (n:Int)=Zfi k (Zam k (a:Int) (b:Int) m) (a:Int) (b:Int) v (i:Int) (n:Int):=rfl
    rw [e]
    unfold Zfi
    by_cases h5:n<5
    · rw [dt (by omega)]
      simp only [cond]
      obtain ⟨i',h1,h2,h3,h4⟩:=ZnC (k:=k) (self16:=Zam k (a:Int) (b:Int) m) (a:=a) (b:=b) (n:=n) hb hv k i ha hi (by omega)
      rw [h4]
      unfold Zcq
      simp only [cond]
      by_cases hib:i'=b
      · rw [ZV (show (i':Int)=(b:Int) by omega)]
        subst hib
        exact ⟨true,v,rfl,List.Perm.refl _,fun hs _ hso=>⟨fun _ _=>rfl,fun _=>h3 hs hso⟩⟩
      · rw [ZF (show ¬(i':Int)=(b:Int) by omega)]
        simp only
        have e0:w64 ((b:Int)-(a:Int))=((b-a:Nat):Int):=by rw [Zv (by omega) (by omega)];omega
        rw [e0]
        by_cases h50:b-a<50
        · rw [dt (by omega)]
          exact ⟨false,v,rfl,List.Perm.refl _,fun hs _ hso=>⟨fun _ _=>rfl,fun h=>by cases h⟩⟩
        · rw [df (by omega)]
          simp only
          obtain ⟨x,hx⟩:=ZU (v:=v) (i:=i') (by omega)
          obtain ⟨y,hy⟩:=ZU (v:=v) (i:=i'-1) (by omega)
          have ew:w64 ((i':Int)-1)=((i'-1:Nat):Int):=by rw [Zv (by omega) (by omega)];omega
          have ea:w64 ((i':Int)-(a:Int))=((i'-a:Nat):Int):=by rw [Zv (by omega) (by omega)];omega
          have e3:=ZbJ hx hy (fun l=>cond (decide ((w64 ((i':Int)-(a:Int)))≥2)) (Za5 k (Zam k (a:Int) (b:Int) m) (b:Int) (n:Int) (i':Int) k l (w64 ((i':Int)-1))) (Za3 k (Zam k (a:Int) (b:Int) m) (b:Int) (n:Int) (i':Int) l))
          unfold sw at e3
          rw [ew] at e3 ⊢
          simp only [cond] at e3
          rw [e3]
          have kk:Kept v (swp v i' (i'-1) x y) a b:=Kept.swp hx hy (by omega) (by omega) (by omega) (by omega)
          have fin:∀w:List Zb,List.Perm w v→(Small v→Bnd v a b→ZS v a i→ZaO v w a b∧ZS w a i')→
              ∃fl v',Za3 k (Zam k (a:Int) (b:Int) m) (b:Int) (n:Int) (i':Int) w=some (fl,v')∧List.Perm v' v∧(Small v→Bnd v a b→ZS v a i→ZaO v v' a b∧(fl=true→ZS v' a b)):=fun w pw hw=>by
            have hwl:=pw.length_eq
            obtain ⟨u,e5,k5⟩:=Zpy (k:=k) (self16:=Zam k (a:Int) (b:Int) m) (b:=b) (n:=n) (i:=i') (v:=w) (by omega) (by omega) (by omega) (by omega) (by omega)
            have hul:=k5.len
            obtain ⟨fl,v',e6,p6,c6⟩:=ZkS (k:=k) hab m (n+1) i' u (by omega) (by omega) (by omega) h2 (by omega) (by omega) (by omega)
            refine ⟨fl,v',e5.trans e6,p6.trans (k5.perm.trans pw),fun hs hbd hso=>?_⟩
            obtain ⟨o7,s7⟩:=hw hs hbd hso
            have k7:Kept v w a b:=⟨pw,o7⟩
            have k8:Kept v u a b:=k7.trans (k5.mono (by omega) (Nat.le_refl _))
            obtain ⟨o9,s9⟩:=c6 (hs.perm k8.perm) (hbd.kept k8 (Nat.le_refl _) (Nat.le_refl _) hb) (fun p q x1 y1 hap hpq hqi hp hq=>s7 p q x1 y1 hap hpq hqi (by rw [←k5.out p (by omega)];exact hp) (by rw [←k5.out q (by omega)];exact hq))
            exact ⟨fun p hp=>(o9 p hp).trans (k8.out p hp),s9⟩
          have srt:Small v→ZS v a i→∀p q x1 y1,a≤p→p<q→q<i'→q≠i'-1→(swp v i' (i'-1) x y)[p]?=some x1→(swp v i' (i'-1) x y)[q]?=some y1→x1.f_Lo≤y1.f_Lo:=fun hs hso p q x1 y1 hap hpq hqi hqj hp hq=>by
            rw [Z5 hx hy,if_neg (by omega),if_neg (by omega)] at hp hq
            exact h3 hs hso p q _ _ hap hpq hqi hp hq
          rw [ea]
          by_cases h2':2≤i'-a
          · rw [dt (by omega)]
            simp only
            obtain ⟨w,e5,p5,c5⟩:=ZjB (k:=k) (self16:=Zam k (a:Int) (b:Int) m) (a:=a) (b:=b) (n:=n) (i:=i') (by omega) h2 k (i'-1) (swp v i' (i'-1) x y) (by omega) (by rw [ZX];exact hb) (by rw [ZX];exact hv) (by omega)
            rw [e5]
            refine fin w (p5.trans kk.perm) fun hs hbd hso=>?_
            obtain ⟨o6,s6⟩:=c5 (hs.perm kk.perm) (hbd.kept kk (Nat.le_refl _) (Nat.le_refl _) hb) (by omega) (srt hs hso)
            exact ⟨fun p hp=>(o6 p (by omega)).trans (kk.out p hp),s6⟩
          · rw [df (by omega)]
            refine fin _ kk.perm fun hs hbd hso=>⟨kk.out,fun p q x1 y1 hap hpq hqi hp hq=>by omega⟩
    · rw [df (by omega)]
      exact ⟨false,v,rfl,List.Perm.refl _,fun hs _ hso=>⟨fun _ _=>rfl,fun h=>by cases h⟩⟩
end Go.Proofs.YthilboheomikjaaGreatDoor
end
section
namespace Go.Proofs.YthilboheomikjaaGreatDoor
open Go.AL Go.Lib
set_option maxRecDepth 100000
def Heap (v:List Zb) (f n lo r:Nat):Prop:=∀i c x y,lo≤i→i≠r→(c=2*i+1∨c=2*i+2)→c<n→v[f+i]?=some x→v[f+c]?=some y→y.f_Lo≤x.f_Lo
def Over (v:List Zb) (f n lo r:Nat):Prop:=∀i c x y,lo≤i→(r=2*i+1∨r=2*i+2)→(c=2*r+1∨c=2*r+2)→c<n→v[f+i]?=some x→v[f+c]?=some y→y.f_Lo≤x.f_Lo
theorem Zki {k f n lo:Nat}:∀(m r:Nat) (v:List Zb),lo≤r→r≤n→n-r<m→f+n≤v.length→v.length≤1073741824→
    ∃v',ZbF k (n:Int) (f:Int) m v (r:Int)=some v'∧Kept v v' f (f+n)∧(Small v→Heap v f n lo r→Over v f n lo r→Heap v' f n lo n)
  | 0,r,v,_,_,hm,_,_=>by omega
  | m+1,r,v,hlo,hrn,hm,hl,hv=>by
    have e:ZbF k (n:Int) (f:Int) (m+1) v (r:Int)=Zhf k (ZbF k (n:Int) (f:Int) m) (n:Int) (f:Int) v (r:Int):=rfl
    rw [e]
    unfold Zhf
    have e1:w64 (w64 (2*(r:Int))+1)=((2*r+1:Nat):Int):=by rw [Zv (x:=2*(r:Int)) (by omega) (by omega),Zv (by omega) (by omega)];omega
    have e2:w64 (((2*r+1:Nat):Int)+1)=((2*r+2:Nat):Int):=by rw [Zv (by omega) (by omega)];omega
    rw [e1,e2]
    by_cases hc:n≤2*r+1
    · rw [dt (by omega)]
      refine ⟨v,rfl,Kept.refl _ _ _,fun _ hh _ i c x y h1 h2 h3 h4 hx hy=>?_⟩
      by_cases hir:i=r
      · omega
      · exact hh i c x y h1 hir h3 h4 hx hy
    · rw [df (by omega)]
      simp only [cond]
      obtain ⟨x,hx⟩:=ZU (v:=v) (i:=f+r) (by omega)
      have go:∀c:Nat,(c=2*r+1∨c=2*r+2)→c<n→(Small v→∀d y z,(d=2*r+1∨d=2*r+2)→d<n→v[f+d]?=some y→v[f+c]?=some z→y.f_Lo≤z.f_Lo)→
          ∃v',Zex k (ZbF k (n:Int) (f:Int) m) (f:Int) v (r:Int) (c:Int)=some v'∧Kept v v' f (f+n)∧(Small v→Heap v f n lo r→Over v f n lo r→Heap v' f n lo n):=fun c hcr hcn hmax=>by
        obtain ⟨y,hy⟩:=ZU (v:=v) (i:=f+c) (by omega)
        unfold Zex
        have f1:w64 ((f:Int)+(r:Int))=((f+r:Nat):Int):=by rw [Zv (by omega) (by omega)];omega
        have f2:w64 ((f:Int)+(c:Int))=((f+c:Nat):Int):=by rw [Zv (by omega) (by omega)];omega
        have e3:=ZbJ hx hy (fun l=>ZbF k (n:Int) (f:Int) m l (c:Int))
        unfold sw at e3
        rw [f1,f2,e3,if_pos ⟨by omega,by omega⟩,Zx,hx]
        simp only [zb_]
        rw [if_pos ⟨by omega,by omega⟩,Zx,hy]
        simp only [zb_,F104]
        by_cases hl2:w64 (x.f_Lo-y.f_Lo)<0
        · rw [dt hl2]
          simp only [Bool.not_true]
          have hget:=Z5 hx hy
          have kk:Kept v (swp v (f+r) (f+c) x y) f (f+n):=Kept.swp hx hy (by omega) (by omega) (by omega) (by omega)
          obtain ⟨v',e4,k4,c4⟩:=Zki (k:=k) (f:=f) (n:=n) (lo:=lo) m c (swp v (f+r) (f+c) x y) (by omega) (by omega) (by omega) (by rw [ZX];exact hl) (by rw [ZX];exact hv)
          refine ⟨v',e4,kk.trans k4,fun hs hh ho=>c4 (hs.perm kk.perm) ?_ ?_⟩
          · have hxy:=(ZcX hs hx hy).1 hl2
            intro i d x1 y1 h1 h2 h3 h4 hp hq
            rw [hget] at hp hq
            rw [if_neg (by omega)] at hp
            by_cases ir:i=r
            · subst ir
              rw [if_pos rfl] at hp
              obtain rfl:=zj_ hp
              by_cases dc:d=c
              · subst dc
                rw [if_pos rfl] at hq
                obtain rfl:=zj_ hq
                omega
              · rw [if_neg (by omega),if_neg (by omega)] at hq
                exact hmax hs d _ _ h3 h4 hq hy
            · rw [if_neg (by omega)] at hp
              by_cases dr:d=r
              · subst dr
                rw [if_neg (by omega),if_pos rfl] at hq
                obtain rfl:=zj_ hq
                exact ho i c _ _ h1 h3 hcr hcn hp hy
              · by_cases dc:d=c
                · omega
                · rw [if_neg (by omega),if_neg (by omega)] at hq
                  exact hh i d _ _ h1 ir h3 h4 hp hq
          · intro i d x1 y1 h1 h2 h3 h4 hp hq
            have ir:i=r:=by omega
            subst ir
            rw [hget] at hp hq
            rw [if_neg (by omega),if_pos rfl] at hp
            obtain rfl:=zj_ hp
            rw [if_neg (by omega),if_neg (by omega)] at hq
            exact hh c d _ _ (by omega) (by omega) h3 h4 hy hq
        · rw [df hl2]
          refine ⟨v,rfl,Kept.refl _ _ _,fun hs hh _ i d x1 y1 h1 h2 h3 h4 hp hq=>?_⟩
          by_cases ir:i=r
          · subst ir
            rw [hx] at hp
            obtain rfl:=zj_ hp
            have h5:=hmax hs d y1 y h3 h4 hq hy
            have h6:=ZcX hs hx hy
            unfold Le at h6
            omega
          · exact hh i d _ _ h1 ir h3 h4 hp hq
      by_cases hc2:2*r+2<n
      · rw [dt (by omega)]
        simp only
        obtain ⟨y,hy⟩:=ZU (v:=v) (i:=f+(2*r+1)) (by omega)
        obtain ⟨z,hz⟩:=ZU (v:=v) (i:=f+(2*r+2)) (by omega)
        have g1:w64 ((f:Int)+((2*r+1:Nat):Int))=((f+(2*r+1):Nat):Int):=by rw [Zv (by omega) (by omega)];omega
        have g2:w64 (((f+(2*r+1):Nat):Int)+1)=((f+(2*r+2):Nat):Int):=by rw [Zv (by omega) (by omega)];omega
        rw [g1,g2,if_pos ⟨by omega,by omega⟩,Zx,hy]
        simp only [zb_]
        rw [if_pos ⟨by omega,by omega⟩,Zx,hz]
        simp only [zb_,F104]
        unfold Zew
        rw [e1,e2]
        by_cases hl2:w64 (y.f_Lo-z.f_Lo)<0
        · rw [dt hl2]
          refine go (2*r+2) (.inr rfl) hc2 fun hs d y1 z1 hd hdn h1 h2=>?_
          have h6:=(ZcX hs hy hz).1 hl2
          rw [hz] at h2
          obtain rfl:=zj_ h2
          rcases hd with rfl | rfl
          · rw [hy] at h1;obtain rfl:=zj_ h1;omega
          · rw [hz] at h1;obtain rfl:=zj_ h1;omega
        · rw [df hl2]
          refine go (2*r+1) (.inl rfl) (by omega) fun hs d y1 z1 hd hdn h1 h2=>?_
          have h6:=ZcX hs hy hz
          unfold Le at h6
          rw [hy] at h2
          obtain rfl:=zj_ h2
          rcases hd with rfl | rfl
          · rw [hy] at h1;obtain rfl:=zj_ h1;omega
          · rw [hz] at h1;obtain rfl:=zj_ h1;omega
      · rw [df (by omega)]
        unfold Zew
        simp only [cond]
        rw [e1]
        refine go (2*r+1) (.inl rfl) (by omega) fun hs d y1 z1 hd hdn h1 h2=>?_
        rcases hd with rfl | rfl
        · rw [h1] at h2;obtain rfl:=zj_ h2;omega
        · omega
end Go.Proofs.YthilboheomikjaaGreatDoor
end
section
namespace Go.Proofs.YthilboheomikjaaGreatDoor
open Go.AL Go.Lib
set_option maxRecDepth 100000
theorem Heap.top {v:List Zb} {f n r:Nat} (h:Heap v f n 0 r) (hr:n≤r) (hl:f+n≤v.length):∀(i:Nat) (x y:Zb),i<n→v[f]?=some x→v[f+i]?=some y→y.f_Lo≤x.f_Lo:=by
  intro i
  induction i using Nat.strongRecOn with
  | ind i ih=>
    intro x y hi hx hy
    by_cases h0:i=0
    · subst h0;rw [Nat.add_zero] at hy;rw [hx] at hy;obtain rfl:=zj_ hy;omega
    · obtain ⟨z,hz⟩:=ZU (v:=v) (i:=f+(i-1) / 2) (by omega)
      have h1:=ih ((i-1) / 2) (by omega) x z (by omega) hx hz
      have h2:=h ((i-1) / 2) i z y (by omega) (by omega) (by omega) hi hz hy
      omega
theorem ZlG {k a b:Nat} (hab:a<b) (hk:b-a+2<k) {R:List Zb→Prop} {F:List Zb→Option (List Zb)}:∀(i m:Nat) (v:List Zb),i≤b-a→i<m→b≤v.length→v.length≤1073741824→
    (∀l,F l=ZaN k (a:Int) k l (((b-a:Nat):Int)-1))→
    ∃v',ZbC k (a:Int) (b:Int) m v ((i:Int)-1)=F v'∧Kept v v' a b∧(Small v→Heap v a (b-a) i (b-a)→Heap v' a (b-a) 0 (b-a))
  | 0,0,v,_,hm,_,_,_=>by omega
  | 0,m+1,v,hi,hm,hb,hv,hF=>by
    have e:ZbC k (a:Int) (b:Int) (m+1) v (((0:Nat):Int)-1)=Zdd k (ZbC k (a:Int) (b:Int) m) (a:Int) (b:Int) v (((0:Nat):Int)-1):=rfl
    rw [e]
    unfold Zdd
    have e0:w64 ((b:Int)-(a:Int))=((b-a:Nat):Int):=by rw [Zv (by omega) (by omega)];omega
    rw [df (by omega),zf_,e0,Zv (x:=((b-a:Nat):Int)-1) (by omega) (by omega)]
    exact ⟨v,(hF v).symm,Kept.refl _ _ _,fun _ h=>h⟩
  | i+1,0,v,_,hm,_,_,_=>by omega
  | i+1,m+1,v,hi,hm,hb,hv,hF=>by
    have ei:(((i+1:Nat):Int)-1)=(i:Int):=by omega
    rw [ei]
    have e:ZbC k (a:Int) (b:Int) (m+1) v (i:Int)=Zdd k (ZbC k (a:Int) (b:Int) m) (a:Int) (b:Int) v (i:Int):=rfl
    rw [e]
    unfold Zdd
    have e0:w64 ((b:Int)-(a:Int))=((b-a:Nat):Int):=by rw [Zv (by omega) (by omega)];omega
    rw [dt (by omega),e0]
    simp only [cond]
    obtain ⟨w,e1,k1,c1⟩:=Zki (k:=k) (f:=a) (n:=b-a) (lo:=i) k i v (Nat.le_refl _) (by omega) (by omega) (by omega) hv
    have e1':F176 k v (i:Int) ((b-a:Nat):Int) (a:Int)=some w:=e1
    rw [e1']
    simp only [zb_]
    have hwl:=k1.len
    rw [if_pos hwl,Zv (by omega) (by omega)]
    rw [show a+(b-a)=b by omega] at k1
    obtain ⟨v',e2,k2,c2⟩:=ZlG hab hk (R:=R) (F:=F) i m w (by omega) (by omega) (by omega) (by omega) hF
    refine ⟨v',e2,k1.trans k2,fun hs hh=>c2 (hs.perm k1.perm) (c1 hs (fun j c x y h1 h2 h3 h4 hx hy=>hh j c x y (by omega) (by omega) h3 h4 hx hy) (fun j c x y h1 h2 h3 h4 hx hy=>by omega))⟩
theorem Zo6 {k a b:Nat} (hab:a<b) (hk:b-a+2<k):∀(i m:Nat) (v:List Zb),i≤b-a→i<m→b≤v.length→v.length≤1073741824→
    ∃v',ZaN k (a:Int) m v ((i:Int)-1)=some v'∧Kept v v' a b∧(Small v→Heap v a i 0 i→(∀p q x y,p<i→i≤q→q<b-a→v[a+p]?=some x→v[a+q]?=some y→x.f_Lo≤y.f_Lo)→ZS v (a+i) b→ZS v' a b)
  | 0,0,v,_,hm,_,_=>by omega
  | 0,m+1,v,hi,hm,hb,hv=>by
    have e:ZaN k (a:Int) (m+1) v (((0:Nat):Int)-1)=Zde k (ZaN k (a:Int) m) (a:Int) v (((0:Nat):Int)-1):=rfl
    rw [e]
    unfold Zde
    rw [df (by omega)]
    exact ⟨v,rfl,Kept.refl _ _ _,fun _ _ _ h=>h⟩
  | i+1,0,v,_,hm,_,_=>by omega
  | i+1,m+1,v,hi,hm,hb,hv=>by
    have ei:(((i+1:Nat):Int)-1)=(i:Int):=by omega
    rw [ei]
    have e:ZaN k (a:Int) (m+1) v (i:Int)=Zde k (ZaN k (a:Int) m) (a:Int) v (i:Int):=rfl
    rw [e]
    unfold Zde
    obtain ⟨x,hx⟩:=ZU (v:=v) (i:=a) (by omega)
    obtain ⟨y,hy⟩:=ZU (v:=v) (i:=a+i) (by omega)
    have f1:w64 ((a:Int)+(i:Int))=((a+i:Nat):Int):=by rw [Zv (by omega) (by omega)];omega
    have e3:=ZbJ hx hy (fun l=>(F176 k l 0 (i:Int) (a:Int)).bind fun y154=>if y154.length=l.length then (ZaN k (a:Int) m y154 (w64 ((i:Int)-1))) else none)
    unfold sw at e3
    rw [dt (by omega),f1]
    simp only [cond]
    rw [e3]
    have kk:Kept v (swp v a (a+i) x y) a b:=Kept.swp hx hy (by omega) (by omega) (by omega) (by omega)
    obtain ⟨w,e1,k1,c1⟩:=Zki (k:=k) (f:=a) (n:=i) (lo:=0) k 0 (swp v a (a+i) x y) (Nat.le_refl _) (by omega) (by omega) (by rw [ZX];omega) (by rw [ZX];exact hv)
    have e1':F176 k (swp v a (a+i) x y) 0 (i:Int) (a:Int)=some w:=e1
    rw [e1']
    simp only [zb_]
    have hwl:=k1.len
    rw [if_pos hwl,Zv (by omega) (by omega)]
    rw [ZX] at hwl
    obtain ⟨v',e2,k2,c2⟩:=Zo6 hab hk i m w (by omega) (by omega) (by omega) (by omega)
    refine ⟨v',e2,(kk.trans (k1.mono (Nat.le_refl _) (by omega))).trans k2,fun hs hh hle hso=>?_⟩
    have hget:=Z5 hx hy
    have top:∀p z,p≤i→v[a+p]?=some z→z.f_Lo≤x.f_Lo:=fun p z hp hz=>hh.top (Nat.le_refl _) (by omega) p x z (by omega) hx hz
    have wend:w[a+i]?=some x:=by
      rw [k1.out (a+i) (by omega),hget,if_pos rfl]
    have wout:∀q,i<q→w[a+q]?=v[a+q]?:=fun q hq=>by
      rw [k1.out (a+q) (by omega),hget,if_neg (by omega),if_neg (by omega)]
    have win:∀p z,p<i→w[a+p]?=some z→∃q,q≤i∧v[a+q]?=some z:=fun p z hp hz=>by
      obtain ⟨q,q1,q2,hq⟩:=k1.mem (by rw [ZX];omega) (p:=a+p) (by omega) (by omega) hz
      rw [hget,if_neg (by omega)] at hq
      by_cases e5:q=a
      · rw [if_pos e5] at hq;obtain rfl:=zj_ hq;exact ⟨i,Nat.le_refl _,hy⟩
      · rw [if_neg e5] at hq;exact ⟨q-a,by omega,by rw [show a+(q-a)=q by omega];exact hq⟩
    refine c2 (hs.perm (k1.perm.trans kk.perm)) (c1 (hs.perm kk.perm) (fun j c x1 y1 h1 h2 h3 h4 hp hq=>?_) (fun j c x1 y1 h1 h2 h3 h4 hp hq=>by omega)) (fun p q x1 y1 hp hq hqb h1 h2=>?_) (fun p q x1 y1 hap hpq hqb h1 h2=>?_)
    · rw [hget,if_neg (by omega),if_neg (by omega)] at hp hq
      exact hh j c x1 y1 h1 (by omega) h3 (by omega) hp hq
    · obtain ⟨p',hp',hz⟩:=win p x1 hp h1
      by_cases e5:q=i
      · subst e5
        rw [wend] at h2
        obtain rfl:=zj_ h2
        exact top p' x1 hp' hz
      · rw [wout q (by omega)] at h2
        exact hle p' q x1 y1 (by omega) (by omega) hqb hz h2
    · by_cases e5:p=a+i
      · subst e5
        rw [wend] at h1
        obtain rfl:=zj_ h1
        have h2':v[a+(q-a)]?=some y1:=by rw [←wout (q-a) (by omega),show a+(q-a)=q by omega];exact h2
        exact hle 0 (q-a) x y1 (by omega) (by omega) (by omega) (by rw [Nat.add_zero];exact hx) h2'
      · have h1':v[p]?=some x1:=by have:=wout (p-a) (by omega);rw [show a+(p-a)=p by omega] at this;rw [←this];exact h1
        have h2':v[q]?=some y1:=by have:=wout (q-a) (by omega);rw [show a+(q-a)=q by omega] at this;rw [←this];exact h2
        exact hso p q x1 y1 (by omega) hpq hqb h1' h2'
theorem Zq7 {k a b:Nat} {v:List Zb} (hab:a<b) (hk:b-a+2<k) (hb:b≤v.length) (hv:v.length≤1073741824) :
    ∃v',F150 k v (a:Int) (b:Int)=some v'∧Kept v v' a b∧(Small v→ZS v' a b):=by
  unfold F150
  rw [if_pos (by decide)]
  have e0:w64 ((b:Int)-(a:Int))=((b-a:Nat):Int):=by rw [Zv (by omega) (by omega)];omega
  have e1:w64 (Int.tdiv (w64 (((b-a:Nat):Int)-1)) 2)=(((b-a-1) / 2+1:Nat):Int)-1:=by
    rw [Zv (x:=_-1) (by omega) (by omega),show ((b-a:Nat):Int)-1=((b-a-1:Nat):Int) by omega,Int.tdiv_eq_ediv_of_nonneg (by omega),Zv (by omega) (by omega)]
    omega
  rw [e0,e1]
  obtain ⟨w,e2,k2,c2⟩:=ZlG hab hk (R:=fun _=>True) (F:=fun l=>ZaN k (a:Int) k l (((b-a:Nat):Int)-1)) ((b-a-1) / 2+1) k v (by omega) (by omega) hb hv (fun _=>rfl)
  rw [e2]
  have hwl:=k2.len
  obtain ⟨v',e3,k3,c3⟩:=Zo6 hab hk (b-a) k w (Nat.le_refl _) (by omega) (by omega) (by omega)
  refine ⟨v',e3,k2.trans k3,fun hs=>c3 (hs.perm k2.perm) (c2 hs fun i c x y h1 h2 h3 h4 hx hy=>by omega) (fun p q x y h1 h2 h3=>by omega) (fun p q x y h1 h2 h3=>by omega)⟩
end Go.Proofs.YthilboheomikjaaGreatDoor
end
section
namespace Go.Proofs.YthilboheomikjaaGreatDoor
open Go.AL Go.Lib
set_option maxRecDepth 100000
theorem Zp3 {k a b:Nat} {v:List Zb} (hab:a<b) (hb:b≤v.length) (hv:v.length≤1073741824) (hk:v.length<k) (hk2:5<k) :
    ∃fl v',F154 k v (a:Int) (b:Int)=some (fl,v')∧List.Perm v' v∧(Small v→Bnd v a b→ZaO v v' a b∧(fl=true→ZS v' a b)):=by
  unfold F154
  rw [Zv (by omega) (by omega),show (a:Int)+1=((a+1:Nat):Int) by omega]
  obtain ⟨fl,v',e,p,c⟩:=ZkS (k:=k) hab k 0 (a+1) v (by omega) (by omega) (by omega) (by omega) hb hv hk
  exact ⟨fl,v',e,p,fun hs hbd=>c hs hbd fun p q x y h1 h2 h3=>by omega⟩
def Srt (v v':List Zb) (a b:Nat):Prop:=List.Perm v' v∧(Small v→Bnd v a b→ZaO v v' a b∧ZS v' a b)
def Pre (v v':List Zb) (a b:Nat):Prop:=List.Perm v' v∧(Small v→Bnd v a b→ZaO v v' a b)
theorem Kept.pre {v w:List Zb} {a b:Nat} (h:Kept v w a b):Pre v w a b:=⟨h.perm,fun _ _=>h.out⟩
theorem Pre.trans {u v w:List Zb} {a b:Nat} (hb:b≤u.length) (h:Pre u v a b) (g:Pre v w a b):Pre u w a b:=⟨g.1.trans h.1,fun hs hbd=>by
  have k:Kept u v a b:=⟨h.1,h.2 hs hbd⟩
  have o:=g.2 (hs.perm h.1) (hbd.kept k (Nat.le_refl _) (Nat.le_refl _) hb)
  exact fun p hp=>(o p hp).trans (k.out p hp)⟩
theorem Pre.srt {u v w:List Zb} {a b:Nat} (hb:b≤u.length) (h:Pre u v a b) (g:Srt v w a b):Srt u w a b:=⟨g.1.trans h.1,fun hs hbd=>by
  have k:Kept u v a b:=⟨h.1,h.2 hs hbd⟩
  obtain ⟨o,s⟩:=g.2 (hs.perm h.1) (hbd.kept k (Nat.le_refl _) (Nat.le_refl _) hb)
  exact ⟨fun p hp=>(o p hp).trans (k.out p hp),s⟩⟩
theorem ZgK {t:List Zb} {a b q:Nat} {z:Zb} (hz:t[q]?=some z) (hq:q<b) (h1:∀p x,a≤p→p<q→t[p]?=some x→x.f_Lo≤z.f_Lo) (h2:∀p x,q<p→p<b→t[p]?=some x→z.f_Lo≤x.f_Lo)
    (s1:ZS t a q) (s2:ZS t (q+1) b):ZS t a b:=fun i j x y ha hij hj hx hy=>by
  by_cases jq:j<q
  · exact s1 i j x y ha hij jq hx hy
  · by_cases iq:q<i
    · exact s2 i j x y iq hij hj hx hy
    · have hxz:x.f_Lo≤z.f_Lo:=by
        by_cases e:i=q
        · subst e;rw [hz] at hx;obtain rfl:=zj_ hx;omega
        · exact h1 i x ha (by omega) hx
      have hzy:z.f_Lo≤y.f_Lo:=by
        by_cases e:j=q
        · subst e;rw [hz] at hy;obtain rfl:=zj_ hy;omega
        · exact h2 j y (by omega) hj hy
      omega
theorem Bnd.less {v:List Zb} {a b c:Nat} (h:Bnd v a b) (hc:c≤b):Bnd v a c:=fun p x y h0 hx hp hp2 hy=>h p x y h0 hx hp (by omega) hy
theorem ZkI {w:List Zb} {a b q:Nat} {z:Zb} (hs:Small w) (h:Zgb w a b q z):(∀p x,a≤p→p<q→w[p]?=some x→x.f_Lo≤z.f_Lo)∧(∀p x,q<p→p<b→w[p]?=some x→z.f_Lo≤x.f_Lo):=
  ⟨fun p x h1 h2 hx=>by have:=(ZcX hs hx h.here).1 (h.lo p x h1 h2 hx);omega,fun p x h1 h2 hx=>by
    have:=h.hi p x h1 h2 hx
    rw [ZcX hs hx h.here] at this
    omega⟩
theorem Zp8 {w u t:List Zb} {a b q:Nat} {z:Zb} (haq:a≤q) (hq:q<b) (hb:b≤w.length) (hp:Zgb w a b q z) (h1:Srt w u a q) (h2:Srt u t (q+1) b):Srt w t a b:=by
  refine ⟨h2.1.trans h1.1,fun hs hbd=>?_⟩
  obtain ⟨o1,s1⟩:=h1.2 hs (hbd.less (by omega))
  have k1:Kept w u a q:=⟨h1.1,o1⟩
  obtain ⟨lo,hi⟩:=ZkI hs hp
  have hus:=hs.perm k1.perm
  have bu:Bnd u (q+1) b:=fun p x y _ hx hp2 hp3 hy=>by
    rw [Nat.add_sub_cancel,k1.out q (by omega),hp.here] at hx
    obtain rfl:=zj_ hx
    rw [k1.out p (by omega)] at hy
    exact hi p y (by omega) hp3 hy
  obtain ⟨o2,s2⟩:=h2.2 hus bu
  have k2:Kept u t (q+1) b:=⟨h2.1,o2⟩
  refine ⟨fun p hp=>(o2 p (by omega)).trans (o1 p (by omega)),ZgK (z:=z) (q:=q) ?_ hq ?_ ?_ ?_ s2⟩
  · rw [o2 q (by omega),o1 q (by omega)];exact hp.here
  · intro p x hap hpq hx
    rw [o2 p (by omega)] at hx
    obtain ⟨r,r1,r2,hr⟩:=k1.mem (by omega) hap hpq hx
    exact lo r x r1 r2 hr
  · intro p x hqp hpb hx
    obtain ⟨r,r1,r2,hr⟩:=k2.mem (by rw [k1.len];exact hb) hqp hpb hx
    rw [o1 r (by omega)] at hr
    exact hi r x r1 r2 hr
  · intro i j x y ha hij hj hx hy
    rw [o2 i (by omega)] at hx
    rw [o2 j (by omega)] at hy
    exact s1 i j x y ha hij hj hx hy
theorem Zpd {w u t:List Zb} {a b q:Nat} {z:Zb} (haq:a≤q) (hq:q<b) (hb:b≤w.length) (hp:Zgb w a b q z) (h1:Srt w u (q+1) b) (h2:Srt u t a q):Srt w t a b:=by
  refine ⟨h2.1.trans h1.1,fun hs hbd=>?_⟩
  obtain ⟨lo,hi⟩:=ZkI hs hp
  have bw:Bnd w (q+1) b:=fun p x y _ hx hp2 hp3 hy=>by
    rw [Nat.add_sub_cancel,hp.here] at hx
    obtain rfl:=zj_ hx
    exact hi p y (by omega) hp3 hy
  obtain ⟨o1,s1⟩:=h1.2 hs bw
  have k1:Kept w u (q+1) b:=⟨h1.1,o1⟩
  have hus:=hs.perm k1.perm
  have bu:Bnd u a q:=fun p x y h0 hx hp2 hp3 hy=>by
    rw [o1 (a-1) (by omega)] at hx
    rw [o1 p (by omega)] at hy
    exact hbd p x y h0 hx hp2 (by omega) hy
  obtain ⟨o2,s2⟩:=h2.2 hus bu
  have k2:Kept u t a q:=⟨h2.1,o2⟩
  refine ⟨fun p hp=>(o2 p (by omega)).trans (o1 p (by omega)),ZgK (z:=z) (q:=q) ?_ hq ?_ ?_ s2 ?_⟩
  · rw [o2 q (by omega),o1 q (by omega)];exact hp.here
  · intro p x hap hpq hx
    obtain ⟨r,r1,r2,hr⟩:=k2.mem (by rw [k1.len];omega) hap hpq hx
    rw [o1 r (by omega)] at hr
    exact lo r x r1 r2 hr
  · intro p x hqp hpb hx
    rw [o2 p (by omega)] at hx
    obtain ⟨r,r1,r2,hr⟩:=k1.mem hb hqp hpb hx
    exact hi r x r1 r2 hr
  · intro i j x y ha hij hj hx hy
    rw [o2 i (by omega)] at hx
    rw [o2 j (by omega)] at hy
    exact s1 i j x y ha hij hj hx hy
theorem Zpc {v w t:List Zb} {a b q:Nat} {z:Zb} (haq:a<q) (hqb:q≤b) (hb:b≤v.length) (h0:0<a) (hz:∀x,v[a-1]?=some x→Small v→z.f_Lo≤x.f_Lo) (hzv:z∈v) (hk:Kept v w a b) (hp:Zj2 w a b q z) (h:Srt w t q b):Srt v t a b:=by
  refine ⟨h.1.trans hk.perm,fun hs hbd=>?_⟩
  have hws:=hs.perm hk.perm
  have hzs:-4611686018427387904≤z.f_Lo∧z.f_Lo≤4611686018427387903:=hs z hzv
  have lo:∀p x,a≤p→p<q→w[p]?=some x→x.f_Lo≤z.f_Lo:=fun p x h1 h2 hx=>by
    have:=hp.lo p x h1 h2 hx
    unfold Le at this
    rw [Ze6 hzs (hws.at hx)] at this
    omega
  have hi:∀p x,q≤p→p<b→w[p]?=some x→z.f_Lo<x.f_Lo:=fun p x h1 h2 hx=>by
    have:=hp.hi p x h1 h2 hx
    unfold Le at this
    rw [Ze6 hzs (hws.at hx)] at this
    omega
  have bw:=hbd.kept hk (Nat.le_refl _) (Nat.le_refl _) hb
  obtain ⟨y0,hy0⟩:=ZU (v:=v) (i:=a-1) (by omega)
  have hwl:=hk.len
  have all:∀p x,a≤p→p<b→w[p]?=some x→z.f_Lo≤x.f_Lo:=fun p x h1 h2 hx=>by
    have h3:=bw p y0 x h0 (by rw [hk.out (a-1) (by omega)];exact hy0) h1 h2 hx
    have h4:=hz y0 hy0 hs
    omega
  have bq:Bnd w q b:=fun p x y _ hx hp2 hp3 hy=>by
    have h1:=lo (q-1) x (by omega) (by omega) hx
    have h2:=hi p y hp2 hp3 hy
    omega
  obtain ⟨o,s⟩:=h.2 hws bq
  have kt:Kept w t q b:=⟨h.1,o⟩
  refine ⟨fun p hp=>(o p (by omega)).trans (hk.out p hp),fun i j x y ha hij hj hx hy=>?_⟩
  by_cases iq:q≤i
  · exact s i j x y iq hij hj hx hy
  · rw [o i (by omega)] at hx
    have h1:=lo i x ha (by omega) hx
    by_cases jq:q≤j
    · obtain ⟨r,r1,r2,hr⟩:=kt.mem (by omega) jq hj hy
      have:=hi r y r1 r2 hr
      omega
    · rw [o j (by omega)] at hy
      have:=all j y (by omega) hj hy
      omega
def Zqh (R:List Zb→Int→Int→Int→Option (List Zb)) (k:Nat):Prop:=∀(v:List Zb) (a b:Nat) (l:Int),a≤b→b≤v.length→v.length≤1073741824→v.length+(b-a)+8≤k→∃v',R v (a:Int) (b:Int) l=some v'∧Srt v v' a b
theorem ZfF {R:List Zb→Int→Int→Int→Option (List Zb)} {k:Nat} (hR:Zqh R k):∀(m:Nat) (v:List Zb) (a b:Nat) (lim:Int) (wb wp:Bool),a≤b→b≤v.length→v.length≤1073741824→v.length+(b-a)+7≤k→b-a<m→
    ∃v',Zal R k m v (a:Int) (b:Int) lim wb wp=some v'∧Srt v v' a b
  | 0,v,a,b,lim,wb,wp,_,_,_,_,hm=>by omega
  | m+1,v,a,b,lim,wb,wp,hab,hb,hv,hk,hm=>by
    have e:Zal R k (m+1) v (a:Int) (b:Int) lim wb wp=Zfg R k (Zal R k m) v (a:Int) (b:Int) lim wb wp:=rfl
    rw [e]
    unfold Zfg
    rw [Zkk hab (by omega)]
    by_cases h12:b-a≤12
    · rw [dt (by omega)]
      obtain ⟨v',e1,p1,o1,s1⟩:=ZrZ (k:=k) (a:=a) (b:=b) (v:=v) (by omega) hab hb hv
      rw [zt_,e1,zb_,if_pos p1.length_eq]
      exact ⟨v',rfl,p1,fun hs _=>⟨o1,s1 hs⟩⟩
    rw [df (by omega),zf_]
    by_cases hl:lim=0
    · rw [ZV hl,zt_]
      obtain ⟨v',e1,k1,s1⟩:=Zq7 (k:=k) (a:=a) (b:=b) (v:=v) (by omega) (by omega) hb hv
      rw [e1,zb_,if_pos k1.len]
      exact ⟨v',rfl,k1.perm,fun hs _=>⟨k1.out,s1 hs⟩⟩
    rw [ZF hl,zf_]
    have h17:∀(w:List Zb) (pv:Nat) (l2:Int),Pre v w a b→a≤pv→pv<b→∃v',Zdv R k (Zal R k m) (a:Int) (b:Int) wb wp l2 (pv:Int) w=some v'∧Srt v v' a b:=fun w pv l2 pw ha hpb=>by
      have hwl:=pw.1.length_eq
      obtain ⟨z,hz⟩:=ZU (v:=w) (i:=pv) (by omega)
      have h18f:∃v',Zcm R k (Zal R k m) (a:Int) (b:Int) wb wp l2 (pv:Int) w false=some v'∧Srt v v' a b:=by
        unfold Zcm
        obtain ⟨q,fl,u,z2,e1,q1,q2,k1,par⟩:=Zri (k:=k) (a:=a) (b:=b) (pp:=pv) (v:=w) (by omega) ha hpb (by omega) (by omega)
        have hul:=k1.len
        rw [zf_,e1,zb_,if_pos hul,if_pos (by decide)]
        have ew:w64 ((q:Int)+1)=((q+1:Nat):Int):=by rw [Zv (by omega) (by omega)];omega
        simp only
        rw [ew]
        have pu:Pre v u a b:=pw.trans hb k1.pre
        cases decide (w64 ((q:Int)-(a:Int))<w64 ((b:Int)-(q:Int)))
        · obtain ⟨t,e2,t2⟩:=hR u (q+1) b l2 (by omega) (by omega) (by omega) (by omega)
          have htl:=t2.1.length_eq
          rw [zf_,e2,zb_,if_pos htl]
          obtain ⟨v',e3,t3⟩:=ZfF hR m t a q l2 _ fl q1 (by omega) (by omega) (by omega) (by omega)
          exact ⟨v',e3,pu.srt hb (Zpd q1 q2 (by omega) par t2 t3)⟩
        · obtain ⟨t,e2,t2⟩:=hR u a q l2 (by omega) (by omega) (by omega) (by omega)
          have htl:=t2.1.length_eq
          rw [zt_,e2,zb_,if_pos htl]
          obtain ⟨v',e3,t3⟩:=ZfF hR m t (q+1) b l2 _ fl (by omega) (by omega) (by omega) (by omega) (by omega)
          exact ⟨v',e3,pu.srt hb (Zp8 q1 q2 (by omega) par t2 t3)⟩
      unfold Zdv
      by_cases h0:0<a
      · rw [dt (by omega),zt_]
        obtain ⟨x,hx⟩:=ZU (v:=w) (i:=a-1) (by omega)
        rw [Zh3 (by omega) (by omega),if_pos ⟨by omega,by omega⟩,Zx,hx,zb_,if_pos ⟨by omega,by omega⟩,Zx,hz,zb_]
        simp only [F104,zb_]
        by_cases hc:w64 (x.f_Lo-z.f_Lo)<0
        · rw [dt hc];exact h18f
        · rw [df hc]
          unfold Zcm
          obtain ⟨q,u,e1,q1,q2,k1,par⟩:=ZpY (k:=k) (a:=a) (b:=b) (pp:=pv) (v:=w) (by omega) ha hpb (by omega) (by omega) hz
          have hul:=k1.len
          rw [Bool.not_false,zt_,e1,zb_,if_pos hul]
          obtain ⟨v',e3,t3⟩:=ZfF hR m u q b l2 wb wp (by omega) (by omega) (by omega) (by omega) (by omega)
          refine ⟨v',e3,pw.srt hb (Zpc q1 q2 (by omega) h0 (fun y hy hs=>?_) (List.mem_of_getElem? hz) k1 par t3)⟩
          rw [hx] at hy
          obtain rfl:=zj_ hy
          rw [Ze6 (hs.at hx) (hs.at hz)] at hc
          omega
      · rw [df (by omega)];exact h18f
    have h15:∀(w:List Zb) (pv:Nat) (l2 h:Int),Pre v w a b→a≤pv→pv<b→∃v',Zdu R k (Zal R k m) (a:Int) (b:Int) wb wp l2 w (pv:Int) h=some v'∧Srt v v' a b:=fun w pv l2 h pw ha hpb=>by
      have hwl:=pw.1.length_eq
      have h16:∀c:Bool,∃v',Zcl R k (Zal R k m) (a:Int) (b:Int) wb wp l2 w (pv:Int) c=some v'∧Srt v v' a b:=fun c=>by
        unfold Zcl
        cases c
        · exact h17 w pv l2 pw ha hpb
        · obtain ⟨fl,u,e1,p1,c1⟩:=Zp3 (k:=k) (a:=a) (b:=b) (v:=w) (by omega) (by omega) (by omega) (by omega) (by omega)
          have hul:=p1.length_eq
          rw [zt_,e1,zb_,if_pos hul]
          cases fl
          · exact h17 u pv l2 (pw.trans hb ⟨p1,fun hs hbd=>(c1 hs hbd).1⟩) ha hpb
          · exact ⟨u,rfl,pw.srt hb ⟨p1,fun hs hbd=>⟨(c1 hs hbd).1,(c1 hs hbd).2 rfl⟩⟩⟩
      unfold Zdu
      cases wb
      · rw [zf_];exact h16 _
      · cases wp
        · rw [zt_,zf_];exact h16 _
        · rw [zt_,zt_];exact h16 _
    have h14:∀(w:List Zb) (l2:Int),Pre v w a b→∃v',Zdt R k (Zal R k m) (a:Int) (b:Int) wb wp w l2=some v'∧Srt v v' a b:=fun w l2 pw=>by
      have hwl:=pw.1.length_eq
      unfold Zdt
      obtain ⟨p,h,e1,p1,p2⟩:=ZpZ (k:=k) (a:=a) (b:=b) (v:=w) (by omega) (by omega) (by omega)
      rw [e1,zb_,if_pos rfl]
      simp only
      cases h == 2
      · exact h15 w p l2 h pw p1 p2
      · obtain ⟨u,e2,k2⟩:=Zsc (k:=k) (a:=a) (b:=b) (v:=w) (by omega) (by omega) (by omega) (by omega)
        rw [zt_,e2,zb_,if_pos k2.len,Zh3 (by omega) (by omega),Zkk p1 (by omega),show w64 (((b-1:Nat):Int)-((p-a:Nat):Int))=((b-1-(p-a):Nat):Int) by rw [Zv (by omega) (by omega)];omega]
        exact h15 u (b-1-(p-a)) l2 1 (pw.trans hb k2.pre) (by omega) (by omega)
    cases wb
    · obtain ⟨u,e1,k1⟩:=ZpF (k:=k) (a:=a) (b:=b) (v:=v) (by omega) (by omega) hb hv
      rw [Bool.not_false,zt_,e1,zb_,if_pos k1.len]
      exact h14 u _ k1.pre
    · exact h14 v lim ⟨List.Perm.refl _,fun _ _ _ _=>rfl⟩
theorem Zo5:∀k:Nat,Zqh (F121 k) k
  | 0=>fun v a b l _ _ _ hk=>by omega
  | k+1=>fun v a b l hab hb hv hk=>by
    show ∃v',Zal (F121 k) k k v (a:Int) (b:Int) l true true=some v'∧Srt v v' a b
    exact ZfF (Zo5 k) k v a b l true true hab hb hv (by omega) (by omega)
theorem Zrp {k:Nat} {v:List Zb} (hv:v.length≤1073741824) (hk:2*v.length+8≤k):∃v',F103 k v=some v'∧List.Perm v' v∧(Small v→ZS v' 0 v'.length):=by
  unfold F103
  obtain ⟨y,hy⟩:∃y,F112 k (IntKind.wrap .u64 (v.length:Int))=some y:=by
    have hw:IntKind.wrap .u64 (v.length:Int)=v.length:=by simp [IntKind.wrap,IntKind.bits,IntKind.signed];omega
    unfold F112
    rw [hw,if_pos (by omega)]
    exact ⟨_,rfl⟩
  obtain ⟨v',e,p,c⟩:=Zo5 k v 0 v.length y (by omega) (by omega) hv (by omega)
  have e':F121 k v 0 (v.length:Int) y=some v':=e
  rw [hy,zb_,e',zb_,if_pos p.length_eq]
  exact ⟨v',rfl,p,fun hs=>by rw [p.length_eq];exact (c hs fun p x y h0=>by omega).2⟩
end Go.Proofs.YthilboheomikjaaGreatDoor
end
section
namespace Go.Proofs.YthilboheomikjaaGreatDoor
open Go.AL
structure Zy where
  f_set:List Zb
  f_some:Bool
  f_next:List Int
  f_x:Bool
def ZL (x:Zy):List PV:=[.sl (x.f_set.map Za),.bool x.f_some,.sl (x.f_next.map (eInt .i64))]
def Zq (x:Zy):List PV:=[.sl (x.f_set.map Za),.bool x.f_some,cond x.f_x (.slc (x.f_next.map (eInt .i64))) (.sl (x.f_next.map (eInt .i64)))]
theorem ZkX (l:List Zy):∀es,es∈l.map Zq→es.length=3:=fun es h=>by obtain ⟨y,_,rfl⟩:=List.mem_map.1 h;rfl
structure Zt where
  f_nodes:List Zy
  f_first:Int
def Zu (x:Zt):List PV:=[.sl (x.f_nodes.map ZL),.int .i64 x.f_first]
end Go.Proofs.YthilboheomikjaaGreatDoor
end
section
namespace Go.Proofs.YthilboheomikjaaGreatDoor
open Go.AL
variable {μ:Int}
set_option maxRecDepth 100000
def F105 (k:Nat) (v0:Zt) (v1:Zy):Option (Int×Zt):=
  (if v0.f_nodes.length+([v1]:List Zy).length≤1073741824 then ((some ((w64 (((v0.f_nodes ++ ([v1]:List Zy)).length:Int)-1)),({ v0 with f_nodes:=(v0.f_nodes ++ ([v1]:List Zy)) }:Zt)))) else none)
theorem ZgM (k:Nat) (v0:Zt) (v1:Zy) (r:Int×Zt) (c:F105 k v0 v1=some r):SM μ 105 [pt 0,tv (Zq v1)] [.box [.arr 1 v0.f_nodes.length,.pv (.int .i64 v0.f_first)],.arr 3 (v0.f_nodes.map Zq)] (oi r.1) [.box [.arr 1 r.2.f_nodes.length,.pv (.int .i64 r.2.f_first)],.arr 3 (r.2.f_nodes.map Zq)]:=by
 refine Zz [0,1] Tryz.func105 rfl kr kr ?_
 show WA _ _ 21 _ _ _
 refine Ws [(0,.obj 103)] [(0,pt 0),(3,pt 103)] [(0,.box [.arr 1 v0.f_nodes.length,.pv (.int .i64 v0.f_first)]),(1,.arr 3 (v0.f_nodes.map Zq)),(103,bx (Zq v1))] ?_
 refine WA.seq ?_
 obtain ⟨a,c⟩:=Zn c
 refine Wdm (((v0.f_nodes.length+1),((v0.f_nodes.map Zq) ++ (([v1]:List Zy).map Zq))):Nat×(List (List PV))) ((v0.f_nodes ++ ([v1]:List Zy)).length,((v0.f_nodes ++ ([v1]:List Zy)).map Zq)) (fun b=>([(0,pt 0)],[(0,.box [.arr 1 b.1,.pv (.int .i64 v0.f_first)]),(1,.arr 3 b.2)],[v0.f_nodes.length=(v0.f_nodes.map Zq).length,(v0.f_nodes.map Zq).length+(([v1]:List Zy).map Zq).length≤1073741824,∀es,es∈(([v1]:List Zy).map Zq)→es.length=3])) (ZJ (by first | (simp only [zl,Zi];done) | (simp only [zl,Zi];omega) | omega) (by first | (simp only [zr,Zd8,Zm];done) | (simp only [zq,ZbA];done) | (simp only [zq,ZbA,Zq,cond];done))) [] ⟨zt,(by first | exact a | (simp only [List.length_map,Zi];exact a)),(ZkX ([v1]:List Zy)),trivial⟩ ?_
 refine WA.seq ?_
 refine Wm ((((v0.f_nodes ++ ([v1]:List Zy)).length):Nat):Int) ((v0.f_nodes ++ ([v1]:List Zy)).length:Int) (fun b=>([(4,oi (w64 (b-1)))],[(0,.box [.arr 1 ((v0.f_nodes ++ ([v1]:List Zy)).length),.pv (.int .i64 v0.f_first)]),(1,.arr 3 ((v0.f_nodes ++ ([v1]:List Zy)).map Zq))],[])) ((by first | (simp only [zl,Zi];done) | (simp only [zl,Zi];omega) | omega)) [] trivial ?_
 refine WA.ret ?_
 obtain rfl:=zj_ c
 exact Zo (oi (w64 (((v0.f_nodes ++ ([v1]:List Zy)).length:Int)-1))) [.box [.arr 1 ((v0.f_nodes ++ ([v1]:List Zy)).length),.pv (.int .i64 v0.f_first)],.arr 3 ((v0.f_nodes ++ ([v1]:List Zy)).map Zq)] kr kr kr kr nd rfl rfl
def Zor (R78:Zt→Zd→Int→Option (Int×Zt)) (e:Zt→Int→Int→Option (Int×Zt)) (v1:Zd) (b:Zt) (c:Int) (a:Int):Option (Int×Zt):=
  (cond (decide (a≥0)) ((idxL v1.f_L a).bind fun f=>(R78 b f c).bind fun d=>(e d.2 d.1 (w64 (a-1)))) (((some (c,b)))))
def ZiQ (R78:Zt→Zd→Int→Option (Int×Zt)) (v1:Zd):Nat→Zt→Int→Int→Option (Int×Zt)
  | 0,_,_,_=>none
  | d+1,a,b,c=>Zor R78 (ZiQ R78 v1 d) v1 a b c
def Zos (R78:Zt→Zd→Int→Option (Int×Zt)) (k:Nat) (f:Zt→(List Int)→Int→Option (Int×Zt)) (v1:Zd) (h:Int) (d:Zt) (a:List Int) (b:Int):Option (Int×Zt):=
  (cond (decide (b<(v1.f_L.length:Int))) ((idxL v1.f_L b).bind fun g=>(R78 d g h).bind fun c=>if a.length+([c.1]:List Int).length≤1073741824 then (f c.2 (a ++ ([c.1]:List Int)) (w64 (b+1))) else none) ((F105 k d (⟨([]:List Zb),false,a,false⟩:Zy)).bind fun e=>(some (e.1,e.2))))
def ZiR (R78:Zt→Zd→Int→Option (Int×Zt)) (k:Nat) (v1:Zd) (d:Int):Nat→Zt→(List Int)→Int→Option (Int×Zt)
  | 0,_,_,_=>none
  | e+1,a,b,c=>Zos R78 k (ZiR R78 k v1 d e) v1 d a b c
def Zou (R78:Zt→Zd→Int→Option (Int×Zt)) (e:Zt→Int→Int→Option (Int×Zt)) (v1:Zd) (a:Zt) (b:Int) (c:Int):Option (Int×Zt):=
  (cond (decide (c<v1.f_Min)) ((idxL v1.f_L 0).bind fun f=>(R78 a f b).bind fun d=>(e d.2 d.1 (w64 (c+1)))) (((some (b,a)))))
def ZiT (R78:Zt→Zd→Int→Option (Int×Zt)) (v1:Zd):Nat→Zt→Int→Int→Option (Int×Zt)
  | 0,_,_,_=>none
  | d+1,a,b,c=>Zou R78 (ZiT R78 v1 d) v1 a b c
def Zlx (R78:Zt→Zd→Int→Option (Int×Zt)) (k:Nat) (v1:Zd) (a:Zt) (b:Int):Option (Int×Zt):=
  (ZiT R78 v1 k a b 0)
def Zot (R78:Zt→Zd→Int→Option (Int×Zt)) (k:Nat) (f:Zt→Int→Int→Option (Int×Zt)) (v1:Zd) (h:Int) (a:Zt) (b:Int) (c:Int):Option (Int×Zt):=
  (cond (decide (c<(w64 (v1.f_Max-v1.f_Min)))) ((idxL v1.f_L 0).bind fun g=>(R78 a g b).bind fun d=>(F105 k d.2 (⟨([]:List Zb),false,([h,d.1]:List Int),false⟩:Zy)).bind fun e=>(f e.2 e.1 (w64 (c+1)))) ((Zlx R78 k v1 a b)))
def ZiS (R78:Zt→Zd→Int→Option (Int×Zt)) (k:Nat) (v1:Zd) (d:Int):Nat→Zt→Int→Int→Option (Int×Zt)
  | 0,_,_,_=>none
  | e+1,a,b,c=>Zot R78 k (ZiS R78 k v1 d e) v1 d a b c
def Zqe (R78:Zt→Zd→Int→Option (Int×Zt)) (k:Nat) (v0:Zt) (v1:Zd) (d:Int):Option (Int×Zt):=
  (((cond (v1.f_Kind == 1) ((F105 k v0 (⟨v1.f_Set,true,([d]:List Int),false⟩:Zy)).bind fun e=>(some (e.1,e.2))) ((cond (v1.f_Kind == 2) ((ZiQ R78 v1 k v0 d (w64 ((v1.f_L.length:Int)-1)))) ((cond (v1.f_Kind == 3) (((ZiR R78 k v1 d k v0 ([]:List Int) 0))) (((cond (decide (v1.f_Max<0)) ((F105 k v0 (⟨([]:List Zb),false,([d]:List Int),true⟩:Zy)).bind fun a=>(idxL v1.f_L 0).bind fun f=>(R78 a.2 f a.1).bind fun b=>(if (0:Int)≤a.1∧a.1<(b.2.f_nodes.length:Int) then (idxL b.2.f_nodes a.1).bind fun c=>if c.f_x=true then if c.f_next.length+([b.1]:List Int).length≤1073741824 then if (0:Int)≤a.1∧a.1<(b.2.f_nodes.length:Int) then (idxL b.2.f_nodes a.1).bind fun g=>((Zlx R78 k v1 ({ b.2 with f_nodes:=(b.2.f_nodes.set (Int.toNat a.1) ({ g with f_next:=(c.f_next ++ ([b.1]:List Int)),f_x:=false }:Zy)) }:Zt) a.1)) else none else none else none else none)) (((ZiS R78 k v1 d k v0 d 0)))))))))))))
theorem Zpv (R78:Zt→Zd→Int→Option (Int×Zt)) (IH78:∀(v0:Zt) (v1:Zd) (h:Int) (r:Int×Zt),R78 v0 v1 h=some r→SM μ 78 [pt 0,tv (Zc v1),oi h] [.box [.arr 1 v0.f_nodes.length,.pv (.int .i64 v0.f_first)],.arr 3 (v0.f_nodes.map Zq)] (oi r.1) [.box [.arr 1 r.2.f_nodes.length,.pv (.int .i64 r.2.f_first)],.arr 3 (r.2.f_nodes.map Zq)]) (k:Nat) (v0:Zt) (v1:Zd) (h:Int) (r:Int×Zt) (a:Zqe R78 k v0 v1 h=some r):SM μ 78 [pt 0,tv (Zc v1),oi h] [.box [.arr 1 v0.f_nodes.length,.pv (.int .i64 v0.f_first)],.arr 3 (v0.f_nodes.map Zq)] (oi r.1) [.box [.arr 1 r.2.f_nodes.length,.pv (.int .i64 r.2.f_first)],.arr 3 (r.2.f_nodes.map Zq)]:=by
 refine Zz [0,1] Tryz.func78 rfl kr kr ?_
 show WA _ _ 133 _ _ _
 refine Ws [(0,.obj 104)] [(0,pt 0),(2,oi h),(4,pt 104)] [(0,.box [.arr 1 v0.f_nodes.length,.pv (.int .i64 v0.f_first)]),(1,.arr 3 (v0.f_nodes.map Zq)),(104,bx (Zc v1))] ?_
 refine WA.seq ?_
 refine Ws [] [(0,pt 0),(2,oi h),(4,pt 104),(15,oi v1.f_Kind)] [(0,.box [.arr 1 v0.f_nodes.length,.pv (.int .i64 v0.f_first)]),(1,.arr 3 (v0.f_nodes.map Zq)),(104,bx (Zc v1))] ?_
 refine WA.block ?_
 refine Ws [] [(0,pt 0),(2,oi h),(4,pt 104),(15,oi v1.f_Kind),(16,ob (v1.f_Kind == 1))] [(0,.box [.arr 1 v0.f_nodes.length,.pv (.int .i64 v0.f_first)]),(1,.arr 3 (v0.f_nodes.map Zq)),(104,bx (Zc v1))] ?_
 refine WA.cond (b:=(v1.f_Kind == 1)) rfl (fun b1=>?_) (fun b1=>?_)
 {
 have a:=Zk a b1
 obtain ⟨t,d4,a⟩:=Zh a
 refine Wos [(6,.call [0,1] (oi t.1) [.box [.arr 1 t.2.f_nodes.length,.pv (.int .i64 t.2.f_first)],.arr 3 (t.2.f_nodes.map Zq)] [])] [(6,oi t.1)] [(0,.box [.arr 1 t.2.f_nodes.length,.pv (.int .i64 t.2.f_first)]),(1,.arr 3 (t.2.f_nodes.map Zq))] [SM μ 105 [pt 0,tv (Zq (⟨v1.f_Set,true,([h]:List Int),false⟩:Zy))] [.box [.arr 1 v0.f_nodes.length,.pv (.int .i64 v0.f_first)],.arr 3 (v0.f_nodes.map Zq)] (oi t.1) [.box [.arr 1 t.2.f_nodes.length,.pv (.int .i64 t.2.f_first)],.arr 3 (t.2.f_nodes.map Zq)],([0,1]:List Nat).Nodup] ⟨(ZgM k _ _ _ d4),nd,trivial⟩ ?_
 refine WA.ret ?_
 obtain rfl:=zj_ a
 exact Zo (oi t.1) [.box [.arr 1 t.2.f_nodes.length,.pv (.int .i64 t.2.f_first)],.arr 3 (t.2.f_nodes.map Zq)] kr kr kr kr nd rfl rfl }
 {
 have a:=Zj a b1
 refine Ws [] [(0,pt 0),(2,oi h),(4,pt 104),(15,oi v1.f_Kind),(25,ob (v1.f_Kind == 2))] [(0,.box [.arr 1 v0.f_nodes.length,.pv (.int .i64 v0.f_first)]),(1,.arr 3 (v0.f_nodes.map Zq)),(104,bx (Zc v1))] ?_
 refine WA.cond (b:=(v1.f_Kind == 2)) rfl (fun b2=>?_) (fun b2=>?_)
 {
 have a:=Zk a b2
 refine WA.seq ?_
 refine WA.seq ?_
 refine Wm ((Zm v1.f_L).length:Int) (v1.f_L.length:Int) (fun m_=>([(0,pt 0),(2,oi h),(4,pt 104),(7,oi (w64 (m_-1)))],[(0,.box [.arr 1 v0.f_nodes.length,.pv (.int .i64 v0.f_first)]),(1,.arr 3 (v0.f_nodes.map Zq)),(104,bx (Zc v1))],[])) ((by first | (simp only [zl,Zi];done) | (simp only [zl,Zi];omega) | omega)) [] trivial ?_
 refine WA.block ?_
 refine WA.loop (fun m s_=>∃(i:Zt) (a5:Int) (z:Int),J s_ [(0,pt 0),(2,oi a5),(4,pt 104),(7,oi z)] [(0,.box [.arr 1 i.f_nodes.length,.pv (.int .i64 i.f_first)]),(1,.arr 3 (i.f_nodes.map Zq)),(104,bx (Zc v1))]∧ZiQ R78 v1 m i a5 z=some r) k ⟨v0,h,(w64 ((v1.f_L.length:Int)-1)),jk,a⟩ ?_
 clear a
 rintro m0 s_ ⟨i,a5,z,he,a⟩
 refine Wj he ?_
 clear he
 cases m0 with
 | zero=>cases a
 | succ m0=>
  obtain ⟨f0,c0⟩:∃g,g=ZiQ R78 v1 m0:=⟨_,rfl⟩
  have a:Zor R78 f0 v1 i a5 z=some r:=by first | (rw [c0];exact a) | exact a
  refine WA.seq ?_
  refine Ws [] [(0,pt 0),(2,oi a5),(4,pt 104),(7,oi z),(32,ob (decide (z≥0)))] [(0,.box [.arr 1 i.f_nodes.length,.pv (.int .i64 i.f_first)]),(1,.arr 3 (i.f_nodes.map Zq)),(104,bx (Zc v1))] ?_
  refine WA.cond (b:=(decide (z≥0))) rfl (fun b3=>?_) (fun b3=>?_)
  {
 have a:=Zk a b3
 refine WA.skip ?_
 refine WA.seq ?_
 refine WA.block ?_
 obtain ⟨c5,d5,a⟩:=Zh a
 obtain ⟨l,d6,a⟩:=Zh a
 refine Wo [(4,.cells (Zc c5)),(7,.call [0,1] (oi l.1) [.box [.arr 1 l.2.f_nodes.length,.pv (.int .i64 l.2.f_first)],.arr 3 (l.2.f_nodes.map Zq)] [])] [(0,pt 0),(2,oi l.1),(4,pt 104),(7,oi z)] [(0,.box [.arr 1 l.2.f_nodes.length,.pv (.int .i64 l.2.f_first)]),(1,.arr 3 (l.2.f_nodes.map Zq)),(104,bx (Zc v1))] [idxL (Zm v1.f_L) z=some (Zc c5),SM μ 78 [pt 0,tv (Zc c5),oi a5] [.box [.arr 1 i.f_nodes.length,.pv (.int .i64 i.f_first)],.arr 3 (i.f_nodes.map Zq)] (oi l.1) [.box [.arr 1 l.2.f_nodes.length,.pv (.int .i64 l.2.f_first)],.arr 3 (l.2.f_nodes.map Zq)],([0,1]:List Nat).Nodup] ⟨(ZO d5),(IH78 _ _ _ _ d6),nd,trivial⟩ ?_
 refine Wr [] [(0,pt 0),(2,oi l.1),(4,pt 104),(7,oi (w64 (z-1)))] [(0,.box [.arr 1 l.2.f_nodes.length,.pv (.int .i64 l.2.f_first)]),(1,.arr 3 (l.2.f_nodes.map Zq)),(104,bx (Zc v1))] ?_
 exact ⟨m0,zl_ _,l.2,l.1,(w64 (z-1)),jk,by rw [c0] at a;exact a⟩ }
  {
 have a:=Zj a b3
 refine WA.exit ?_
 refine Ws [] [(6,oi a5)] [(0,.box [.arr 1 i.f_nodes.length,.pv (.int .i64 i.f_first)]),(1,.arr 3 (i.f_nodes.map Zq))] ?_
 refine WA.ret ?_
 obtain rfl:=zj_ a
 exact Zo (oi a5) [.box [.arr 1 i.f_nodes.length,.pv (.int .i64 i.f_first)],.arr 3 (i.f_nodes.map Zq)] kr kr kr kr nd rfl rfl } }
 {
 have a:=Zj a b2
 refine Ws [] [(0,pt 0),(2,oi h),(4,pt 104),(44,ob (v1.f_Kind == 3))] [(0,.box [.arr 1 v0.f_nodes.length,.pv (.int .i64 v0.f_first)]),(1,.arr 3 (v0.f_nodes.map Zq)),(104,bx (Zc v1))] ?_
 refine WA.cond (b:=(v1.f_Kind == 3)) rfl (fun b4=>?_) (fun b4=>?_)
 {
 have a:=Zk a b4
 refine Ws [(0,.obj 108)] [(0,pt 0),(2,oi h),(4,pt 104),(8,ar 108 0)] [(0,.box [.arr 1 v0.f_nodes.length,.pv (.int .i64 v0.f_first)]),(1,.arr 3 (v0.f_nodes.map Zq)),(104,bx (Zc v1)),(108,.arr 1 (([]:List Int).map (eInt .i64)))] ?_
 refine WA.seq ?_
 refine WA.seq ?_
 refine Wm ((Zm v1.f_L).length:Int) (v1.f_L.length:Int) (fun m_=>([(0,pt 0),(2,oi h),(8,ar 108 0),(47,one (.sl (Zm v1.f_L))),(48,oi m_),(49,oi 0)],[(0,.box [.arr 1 v0.f_nodes.length,.pv (.int .i64 v0.f_first)]),(1,.arr 3 (v0.f_nodes.map Zq)),(108,.arr 1 (([]:List Int).map (eInt .i64)))],[])) ((by first | (simp only [zl,Zi];done) | (simp only [zl,Zi];omega) | omega)) [] trivial ?_
 refine WA.block ?_
 refine WA.loop (fun m s_=>∃(e:Zt) (q:List Int) (a0:Nat) (x:Int),J s_ [(0,pt 0),(2,oi h),(8,ar 108 a0),(47,one (.sl (Zm v1.f_L))),(48,oi (v1.f_L.length:Int)),(49,oi x)] [(0,.box [.arr 1 e.f_nodes.length,.pv (.int .i64 e.f_first)]),(1,.arr 3 (e.f_nodes.map Zq)),(108,.arr 1 (q.map (eInt .i64)))]∧a0=(q:List _).length∧ZiR R78 k v1 h m e q x=some r) k ⟨v0,([]:List Int),0,0,jk,zt,a⟩ ?_
 clear a
 rintro m1 s_ ⟨e,q,a0,x,he,f4,a⟩
 refine Wj he ?_
 clear he
 cases m1 with
 | zero=>cases a
 | succ m1=>
  obtain ⟨f1,c1⟩:∃g,g=ZiR R78 k v1 h m1:=⟨_,rfl⟩
  have a:Zos R78 k f1 v1 h e q x=some r:=by first | (rw [c1];exact a) | exact a
  refine Ws [] [(0,pt 0),(2,oi h),(8,ar 108 a0),(47,one (.sl (Zm v1.f_L))),(48,oi (v1.f_L.length:Int)),(49,oi x),(50,ob (decide (x<(v1.f_L.length:Int))))] [(0,.box [.arr 1 e.f_nodes.length,.pv (.int .i64 e.f_first)]),(1,.arr 3 (e.f_nodes.map Zq)),(108,.arr 1 (q.map (eInt .i64)))] ?_
  refine WA.seq ?_
  refine WA.cond (b:=(decide (x<(v1.f_L.length:Int)))) rfl (fun b5=>?_) (fun b5=>?_)
  {
 have a:=Zk a b5
 refine WA.skip ?_
 refine WA.seq ?_
 refine WA.block ?_
 obtain ⟨b9,d7,a⟩:=Zh a
 refine Wos [(0,.cells (Zc b9)),(2,.obj 110)] [(0,pt 0),(2,oi h),(8,ar 108 a0),(10,pt 110),(47,one (.sl (Zm v1.f_L))),(48,oi (v1.f_L.length:Int)),(49,oi x)] [(0,.box [.arr 1 e.f_nodes.length,.pv (.int .i64 e.f_first)]),(1,.arr 3 (e.f_nodes.map Zq)),(108,.arr 1 (q.map (eInt .i64))),(110,bx (Zc b9))] [idxL (Zm v1.f_L) x=some (Zc b9)] ⟨(ZO d7),trivial⟩ ?_
 obtain ⟨f,d8,a⟩:=Zh a
 obtain ⟨c9,a⟩:=Zn a
 refine Wm (((q.map (eInt .i64)) ++ (([f.1]:List Int).map (eInt .i64))):(List (List PV))) ((q ++ ([f.1]:List Int)).map (eInt .i64)) (fun m_=>([(0,pt 0),(2,oi h),(8,ar 108 (a0+1)),(47,one (.sl (Zm v1.f_L))),(48,oi (v1.f_L.length:Int)),(49,oi x)],[(0,.box [.arr 1 f.2.f_nodes.length,.pv (.int .i64 f.2.f_first)]),(1,.arr 3 (f.2.f_nodes.map Zq)),(108,.arr 1 m_)],[SM μ 78 [pt 0,tv (Zc b9),oi h] [.box [.arr 1 e.f_nodes.length,.pv (.int .i64 e.f_first)],.arr 3 (e.f_nodes.map Zq)] (oi f.1) [.box [.arr 1 f.2.f_nodes.length,.pv (.int .i64 f.2.f_first)],.arr 3 (f.2.f_nodes.map Zq)],([0,1]:List Nat).Nodup,a0=(q.map (eInt .i64)).length,(q.map (eInt .i64)).length+(([f.1]:List Int).map (eInt .i64)).length≤1073741824,∀es,es∈(([f.1]:List Int).map (eInt .i64))→es.length=1])) ((by first | (simp only [zr,Zd8,Zm];done) | (simp only [zq,ZbA];done) | (simp only [zq,ZbA,Zq,cond];done))) [(4,.call [0,1] (oi f.1) [.box [.arr 1 f.2.f_nodes.length,.pv (.int .i64 f.2.f_first)],.arr 3 (f.2.f_nodes.map Zq)] [])] ⟨(IH78 _ _ _ _ d8),nd,zt,(by first | exact c9 | (simp only [List.length_map,Zi];exact c9)),(Zb2 _ _ _ (fun _=>rfl)),trivial⟩ ?_
 refine Wr [] [(0,pt 0),(2,oi h),(8,ar 108 (a0+1)),(47,one (.sl (Zm v1.f_L))),(48,oi (v1.f_L.length:Int)),(49,oi (w64 (x+1)))] [(0,.box [.arr 1 f.2.f_nodes.length,.pv (.int .i64 f.2.f_first)]),(1,.arr 3 (f.2.f_nodes.map Zq)),(108,.arr 1 ((q ++ ([f.1]:List Int)).map (eInt .i64)))] ?_
 exact ⟨m1,zl_ _,f.2,(q ++ ([f.1]:List Int)),(a0+1),(w64 (x+1)),jk,zt,by rw [c1] at a;exact a⟩ }
  {
 have a:=Zj a b5
 refine WA.exit ?_
 refine WA.seq ?_
 refine WA.freeze 108 8 (s:=1) (n:=a0) (els:=(q.map (eInt .i64))) rfl rfl zt ?_
 refine Wk [(0,pt 0),(8,one (.sl (q.map (eInt .i64))))] [(0,.box [.arr 1 e.f_nodes.length,.pv (.int .i64 e.f_first)]),(1,.arr 3 (e.f_nodes.map Zq))] ?_
 obtain ⟨u,d9,a⟩:=Zh a
 refine Wo [(3,.call [0,1] (oi u.1) [.box [.arr 1 u.2.f_nodes.length,.pv (.int .i64 u.2.f_first)],.arr 3 (u.2.f_nodes.map Zq)] [])] [(6,oi u.1)] [(0,.box [.arr 1 u.2.f_nodes.length,.pv (.int .i64 u.2.f_first)]),(1,.arr 3 (u.2.f_nodes.map Zq))] [SM μ 105 [pt 0,tv (Zq (⟨([]:List Zb),false,q,false⟩:Zy))] [.box [.arr 1 e.f_nodes.length,.pv (.int .i64 e.f_first)],.arr 3 (e.f_nodes.map Zq)] (oi u.1) [.box [.arr 1 u.2.f_nodes.length,.pv (.int .i64 u.2.f_first)],.arr 3 (u.2.f_nodes.map Zq)],([0,1]:List Nat).Nodup] ⟨(ZgM k _ _ _ d9),nd,trivial⟩ ?_
 refine WA.ret ?_
 obtain rfl:=zj_ a
 exact Zo (oi u.1) [.box [.arr 1 u.2.f_nodes.length,.pv (.int .i64 u.2.f_first)],.arr 3 (u.2.f_nodes.map Zq)] kr kr kr kr nd rfl rfl } }
 {
 have a:=Zj a b4
 refine WA.skip ?_
 refine WA.join (fun s_=>∃(a3:Zt) (b0:Int),J s_ [(0,pt 0),(2,oi b0),(4,pt 104)] [(0,.box [.arr 1 a3.f_nodes.length,.pv (.int .i64 a3.f_first)]),(1,.arr 3 (a3.f_nodes.map Zq)),(104,bx (Zc v1))]∧Zlx R78 k v1 a3 b0=some r) ?_ ?_
 {
 rintro s_ ⟨a3,b0,he,a⟩
 refine Wj he ?_
 clear he
 refine WA.seq ?_
 refine Ws [] [(0,pt 0),(2,oi b0),(4,pt 104),(121,oi v1.f_Min),(122,oi 0)] [(0,.box [.arr 1 a3.f_nodes.length,.pv (.int .i64 a3.f_first)]),(1,.arr 3 (a3.f_nodes.map Zq)),(104,bx (Zc v1))] ?_
 refine WA.block ?_
 refine WA.loop (fun m s_=>∃(j:Zt) (a6:Int) (a2:Int),J s_ [(0,pt 0),(2,oi a6),(4,pt 104),(121,oi v1.f_Min),(122,oi a2)] [(0,.box [.arr 1 j.f_nodes.length,.pv (.int .i64 j.f_first)]),(1,.arr 3 (j.f_nodes.map Zq)),(104,bx (Zc v1))]∧ZiT R78 v1 m j a6 a2=some r) k ⟨a3,b0,0,jk,a⟩ ?_
 clear a
 rintro m4 s_ ⟨j,a6,a2,he,a⟩
 refine Wj he ?_
 clear he
 cases m4 with
 | zero=>cases a
 | succ m4=>
  obtain ⟨f3,c3⟩:∃g,g=ZiT R78 v1 m4:=⟨_,rfl⟩
  have a:Zou R78 f3 v1 j a6 a2=some r:=by first | (rw [c3];exact a) | exact a
  refine Ws [] [(0,pt 0),(2,oi a6),(4,pt 104),(121,oi v1.f_Min),(122,oi a2),(123,ob (decide (a2<v1.f_Min)))] [(0,.box [.arr 1 j.f_nodes.length,.pv (.int .i64 j.f_first)]),(1,.arr 3 (j.f_nodes.map Zq)),(104,bx (Zc v1))] ?_
  refine WA.seq ?_
  refine WA.cond (b:=(decide (a2<v1.f_Min))) rfl (fun b8=>?_) (fun b8=>?_)
  {
 have a:=Zk a b8
 refine WA.skip ?_
 refine WA.seq ?_
 refine WA.block ?_
 obtain ⟨c8,e8,a⟩:=Zh a
 obtain ⟨p,e9,a⟩:=Zh a
 refine Wo [(3,.cells (Zc c8)),(6,.call [0,1] (oi p.1) [.box [.arr 1 p.2.f_nodes.length,.pv (.int .i64 p.2.f_first)],.arr 3 (p.2.f_nodes.map Zq)] [])] [(0,pt 0),(2,oi p.1),(4,pt 104),(121,oi v1.f_Min),(122,oi a2)] [(0,.box [.arr 1 p.2.f_nodes.length,.pv (.int .i64 p.2.f_first)]),(1,.arr 3 (p.2.f_nodes.map Zq)),(104,bx (Zc v1))] [idxL (Zm v1.f_L) 0=some (Zc c8),SM μ 78 [pt 0,tv (Zc c8),oi a6] [.box [.arr 1 j.f_nodes.length,.pv (.int .i64 j.f_first)],.arr 3 (j.f_nodes.map Zq)] (oi p.1) [.box [.arr 1 p.2.f_nodes.length,.pv (.int .i64 p.2.f_first)],.arr 3 (p.2.f_nodes.map Zq)],([0,1]:List Nat).Nodup] ⟨(ZO e8),(IH78 _ _ _ _ e9),nd,trivial⟩ ?_
 refine Wr [] [(0,pt 0),(2,oi p.1),(4,pt 104),(121,oi v1.f_Min),(122,oi (w64 (a2+1)))] [(0,.box [.arr 1 p.2.f_nodes.length,.pv (.int .i64 p.2.f_first)]),(1,.arr 3 (p.2.f_nodes.map Zq)),(104,bx (Zc v1))] ?_
 exact ⟨m4,zl_ _,p.2,p.1,(w64 (a2+1)),jk,by rw [c3] at a;exact a⟩ }
  {
 have a:=Zj a b8
 refine WA.exit ?_
 refine Ws [] [(6,oi a6)] [(0,.box [.arr 1 j.f_nodes.length,.pv (.int .i64 j.f_first)]),(1,.arr 3 (j.f_nodes.map Zq))] ?_
 refine WA.ret ?_
 obtain rfl:=zj_ a
 exact Zo (oi a6) [.box [.arr 1 j.f_nodes.length,.pv (.int .i64 j.f_first)],.arr 3 (j.f_nodes.map Zq)] kr kr kr kr nd rfl rfl } }
 {
 refine Ws [] [(0,pt 0),(2,oi h),(4,pt 104),(67,ob (decide (v1.f_Max<0)))] [(0,.box [.arr 1 v0.f_nodes.length,.pv (.int .i64 v0.f_first)]),(1,.arr 3 (v0.f_nodes.map Zq)),(104,bx (Zc v1))] ?_
 refine WA.cond (b:=(decide (v1.f_Max<0))) rfl (fun b6=>?_) (fun b6=>?_)
 {
 have a:=Zk a b6
 obtain ⟨d,e0,a⟩:=Zh a
 refine Wos [(2,.num 0),(4,.call [0,1] (oi d.1) [.box [.arr 1 d.2.f_nodes.length,.pv (.int .i64 d.2.f_first)],.arr 3 (d.2.f_nodes.map Zq)] [])] [(0,pt 0),(4,pt 104),(11,oi d.1)] [(0,.box [.arr 1 d.2.f_nodes.length,.pv (.int .i64 d.2.f_first)]),(1,.arr 3 (d.2.f_nodes.map Zq)),(104,bx (Zc v1))] [SM μ 105 [pt 0,tv (Zq (⟨([]:List Zb),false,([h]:List Int),true⟩:Zy))] [.box [.arr 1 v0.f_nodes.length,.pv (.int .i64 v0.f_first)],.arr 3 (v0.f_nodes.map Zq)] (oi d.1) [.box [.arr 1 d.2.f_nodes.length,.pv (.int .i64 d.2.f_first)],.arr 3 (d.2.f_nodes.map Zq)],([0,1]:List Nat).Nodup] ⟨(ZgM k _ _ _ e0),nd,trivial⟩ ?_
 obtain ⟨c6,e1,a⟩:=Zh a
 obtain ⟨c,e2,a⟩:=Zh a
 refine Wos [(3,.cells (Zc c6)),(6,.call [0,1] (oi c.1) [.box [.arr 1 c.2.f_nodes.length,.pv (.int .i64 c.2.f_first)],.arr 3 (c.2.f_nodes.map Zq)] [])] [(0,pt 0),(4,pt 104),(11,oi d.1),(12,oi c.1)] [(0,.box [.arr 1 c.2.f_nodes.length,.pv (.int .i64 c.2.f_first)]),(1,.arr 3 (c.2.f_nodes.map Zq)),(104,bx (Zc v1))] [idxL (Zm v1.f_L) 0=some (Zc c6),SM μ 78 [pt 0,tv (Zc c6),oi d.1] [.box [.arr 1 d.2.f_nodes.length,.pv (.int .i64 d.2.f_first)],.arr 3 (d.2.f_nodes.map Zq)] (oi c.1) [.box [.arr 1 c.2.f_nodes.length,.pv (.int .i64 c.2.f_first)],.arr 3 (c.2.f_nodes.map Zq)],([0,1]:List Nat).Nodup] ⟨(ZO e1),(IH78 _ _ _ _ e2),nd,trivial⟩ ?_
 refine WA.seq ?_
 obtain ⟨d0,a⟩:=Zn a
 obtain ⟨v,e3,a⟩:=Zh a
 obtain ⟨d3,a⟩:=Zn a
 obtain ⟨d1,a⟩:=Zn a
 obtain ⟨d2,a⟩:=Zn a
 obtain ⟨a4,e4,a⟩:=Zh a
 have z0:d.1<((c.2.f_nodes.length:Nat):Int):=(by have h_:=d0.2;(try simp only [zl,Zi] at h_ ⊢);omega)
 refine Wdm ((c.2.f_nodes.length,((c.2.f_nodes.map Zq).set (Int.toNat d.1) [.sl (a4.f_set.map Za),.bool a4.f_some,.sl ((v.f_next.map (eInt .i64)) ++ (([c.1]:List Int).map (eInt .i64)))])):Nat×(List (List PV))) ((c.2.f_nodes.set (Int.toNat d.1) ({ a4 with f_next:=(v.f_next ++ ([c.1]:List Int)),f_x:=false }:Zy)).length,((c.2.f_nodes.set (Int.toNat d.1) ({ a4 with f_next:=(v.f_next ++ ([c.1]:List Int)),f_x:=false }:Zy)).map Zq)) (fun m_=>([(0,pt 0),(4,pt 104),(11,oi d.1)],[(0,.box [.arr 1 m_.1,.pv (.int .i64 c.2.f_first)]),(1,.arr 3 m_.2),(104,bx (Zc v1))],[c.2.f_nodes.length=(c.2.f_nodes.map Zq).length,(0:Int)≤d.1,d.1<((c.2.f_nodes.length:Nat):Int),c.2.f_nodes.length=(c.2.f_nodes.map Zq).length,0<c.2.f_nodes.length,c.2.f_nodes.length=(c.2.f_nodes.map Zq).length,(c.2.f_nodes.map Zq)[Int.toNat d.1]?=some [.sl (v.f_set.map Za),.bool v.f_some,.slc (v.f_next.map (eInt .i64))],(v.f_next.map (eInt .i64)).length+(([c.1]:List Int).map (eInt .i64)).length≤1073741824,∀es,es∈(v.f_next.map (eInt .i64))→es.length=1,∀es,es∈(([c.1]:List Int).map (eInt .i64))→es.length=1,c.2.f_nodes.length=(c.2.f_nodes.map Zq).length,(0:Int)≤d.1,d.1<((c.2.f_nodes.length:Nat):Int),c.2.f_nodes.length=(c.2.f_nodes.map Zq).length,0<c.2.f_nodes.length,c.2.f_nodes.length=(c.2.f_nodes.map Zq).length,(c.2.f_nodes.map Zq)[Int.toNat d.1]?=some (Zq a4)])) (ZJ (by first | (simp only [zl,Zi];done) | (simp only [zl,Zi];omega) | omega) (by first | (simp only [zr,Zd8,Zm];done) | (simp only [zq,ZbA];done) | (simp only [zq,ZbA,Zq,cond];done))) [(12,.cells [.sl (v.f_set.map Za),.bool v.f_some,.slc (v.f_next.map (eInt .i64))]),(18,.cells (Zq a4))] ⟨zt,d0.1,z0,zt,(by omega),zt,(by have h_:=Zr (Zs Zq e3);simp only [Zq,d3,cond] at h_;exact h_),(by first | exact d1 | (simp only [List.length_map,Zi];exact d1)),(Zb2 _ _ _ (fun _=>rfl)),(Zb2 _ _ _ (fun _=>rfl)),zt,d2.1,z0,zt,(by omega),zt,(Zr (Zs _ e4)),trivial⟩ ?_
 refine Wr [] [(0,pt 0),(2,oi d.1),(4,pt 104)] [(0,.box [.arr 1 ((c.2.f_nodes.set (Int.toNat d.1) ({ a4 with f_next:=(v.f_next ++ ([c.1]:List Int)),f_x:=false }:Zy)).length),.pv (.int .i64 c.2.f_first)]),(1,.arr 3 ((c.2.f_nodes.set (Int.toNat d.1) ({ a4 with f_next:=(v.f_next ++ ([c.1]:List Int)),f_x:=false }:Zy)).map Zq)),(104,bx (Zc v1))] ?_
 exact ⟨({ c.2 with f_nodes:=(c.2.f_nodes.set (Int.toNat d.1) ({ a4 with f_next:=(v.f_next ++ ([c.1]:List Int)),f_x:=false }:Zy)) }:Zt),d.1,jk,a⟩ }
 {
 have a:=Zj a b6
 refine Ws [] [(0,pt 0),(2,oi h),(4,pt 104),(13,oi h)] [(0,.box [.arr 1 v0.f_nodes.length,.pv (.int .i64 v0.f_first)]),(1,.arr 3 (v0.f_nodes.map Zq)),(104,bx (Zc v1))] ?_
 refine Ws [] [(0,pt 0),(2,oi h),(4,pt 104),(13,oi h),(104,oi (w64 (v1.f_Max-v1.f_Min))),(105,oi 0)] [(0,.box [.arr 1 v0.f_nodes.length,.pv (.int .i64 v0.f_first)]),(1,.arr 3 (v0.f_nodes.map Zq)),(104,bx (Zc v1))] ?_
 refine WA.block ?_
 refine WA.loop (fun m s_=>∃(w:Zt) (a7:Int) (a1:Int),J s_ [(0,pt 0),(2,oi a7),(4,pt 104),(13,oi h),(104,oi (w64 (v1.f_Max-v1.f_Min))),(105,oi a1)] [(0,.box [.arr 1 w.f_nodes.length,.pv (.int .i64 w.f_first)]),(1,.arr 3 (w.f_nodes.map Zq)),(104,bx (Zc v1))]∧ZiS R78 k v1 h m w a7 a1=some r) k ⟨v0,h,0,jk,a⟩ ?_
 clear a
 rintro m2 s_ ⟨w,a7,a1,he,a⟩
 refine Wj he ?_
 clear he
 cases m2 with
 | zero=>cases a
 | succ m2=>
  obtain ⟨f2,c2⟩:∃g,g=ZiS R78 k v1 h m2:=⟨_,rfl⟩
  have a:Zot R78 k f2 v1 h w a7 a1=some r:=by first | (rw [c2];exact a) | exact a
  refine Ws [] [(0,pt 0),(2,oi a7),(4,pt 104),(13,oi h),(104,oi (w64 (v1.f_Max-v1.f_Min))),(105,oi a1),(106,ob (decide (a1<(w64 (v1.f_Max-v1.f_Min)))))] [(0,.box [.arr 1 w.f_nodes.length,.pv (.int .i64 w.f_first)]),(1,.arr 3 (w.f_nodes.map Zq)),(104,bx (Zc v1))] ?_
  refine WA.seq ?_
  refine WA.cond (b:=(decide (a1<(w64 (v1.f_Max-v1.f_Min))))) rfl (fun b7=>?_) (fun b7=>?_)
  {
 have a:=Zk a b7
 refine WA.skip ?_
 refine WA.seq ?_
 refine WA.block ?_
 obtain ⟨c7,e5,a⟩:=Zh a
 obtain ⟨y,e6,a⟩:=Zh a
 obtain ⟨o,e7,a⟩:=Zh a
 refine Wo [(5,.cells (Zc c7)),(8,.call [0,1] (oi y.1) [.box [.arr 1 y.2.f_nodes.length,.pv (.int .i64 y.2.f_first)],.arr 3 (y.2.f_nodes.map Zq)] []),(11,.call [0,1] (oi o.1) [.box [.arr 1 o.2.f_nodes.length,.pv (.int .i64 o.2.f_first)],.arr 3 (o.2.f_nodes.map Zq)] [])] [(0,pt 0),(2,oi o.1),(4,pt 104),(13,oi h),(104,oi (w64 (v1.f_Max-v1.f_Min))),(105,oi a1)] [(0,.box [.arr 1 o.2.f_nodes.length,.pv (.int .i64 o.2.f_first)]),(1,.arr 3 (o.2.f_nodes.map Zq)),(104,bx (Zc v1))] [idxL (Zm v1.f_L) 0=some (Zc c7),SM μ 78 [pt 0,tv (Zc c7),oi a7] [.box [.arr 1 w.f_nodes.length,.pv (.int .i64 w.f_first)],.arr 3 (w.f_nodes.map Zq)] (oi y.1) [.box [.arr 1 y.2.f_nodes.length,.pv (.int .i64 y.2.f_first)],.arr 3 (y.2.f_nodes.map Zq)],([0,1]:List Nat).Nodup,SM μ 105 [pt 0,tv (Zq (⟨([]:List Zb),false,([h,y.1]:List Int),false⟩:Zy))] [.box [.arr 1 y.2.f_nodes.length,.pv (.int .i64 y.2.f_first)],.arr 3 (y.2.f_nodes.map Zq)] (oi o.1) [.box [.arr 1 o.2.f_nodes.length,.pv (.int .i64 o.2.f_first)],.arr 3 (o.2.f_nodes.map Zq)],([0,1]:List Nat).Nodup] ⟨(ZO e5),(IH78 _ _ _ _ e6),nd,(ZgM k _ _ _ e7),nd,trivial⟩ ?_
 refine Wr [] [(0,pt 0),(2,oi o.1),(4,pt 104),(13,oi h),(104,oi (w64 (v1.f_Max-v1.f_Min))),(105,oi (w64 (a1+1)))] [(0,.box [.arr 1 o.2.f_nodes.length,.pv (.int .i64 o.2.f_first)]),(1,.arr 3 (o.2.f_nodes.map Zq)),(104,bx (Zc v1))] ?_
 exact ⟨m2,zl_ _,o.2,o.1,(w64 (a1+1)),jk,by rw [c2] at a;exact a⟩ }
  {
 have a:=Zj a b7
 refine WA.exit ?_
 exact ⟨w,a7,jk,a⟩ } } } } } }
def F78:Nat→Zt→Zd→Int→Option (Int×Zt)
  | 0,_,_,_=>none
  | k+1,v0,v1,a=>Zqe (F78 k) k v0 v1 a
theorem Zov:∀(k:Nat),∀(v0:Zt) (v1:Zd) (a:Int) (r:Int×Zt),F78 k v0 v1 a=some r→SM μ 78 [pt 0,tv (Zc v1),oi a] [.box [.arr 1 v0.f_nodes.length,.pv (.int .i64 v0.f_first)],.arr 3 (v0.f_nodes.map Zq)] (oi r.1) [.box [.arr 1 r.2.f_nodes.length,.pv (.int .i64 r.2.f_first)],.arr 3 (r.2.f_nodes.map Zq)]
  | 0=>fun _ _ _ _ b=>by cases b
  | k+1=>fun v0 v1 a r b=>Zpv (F78 k) (Zov k) k v0 v1 a r b
end Go.Proofs.YthilboheomikjaaGreatDoor
end
section
namespace Go.Proofs.YthilboheomikjaaGreatDoor
open Go.AL
variable {μ:Int}
set_option maxRecDepth 100000
def Zow (R79:Zt→(List Int)→(List Bool)→Int→Option ((List Int)×(List Bool))) (f:(List Int)→(List Bool)→Int→Option ((List Int)×(List Bool))) (v0:Zt) (e:Zy) (d:List Int) (a:List Bool) (b:Int):Option ((List Int)×(List Bool)):=
  (cond (decide (b<(e.f_next.length:Int))) ((idxL e.f_next b).bind fun g=>(R79 v0 d a g).bind fun c=>if c.2.length=a.length then (f c.1 c.2 (w64 (b+1))) else none) (((some (d,a)))))
def ZiU (R79:Zt→(List Int)→(List Bool)→Int→Option ((List Int)×(List Bool))) (v0:Zt) (a:Zy):Nat→(List Int)→(List Bool)→Int→Option ((List Int)×(List Bool))
  | 0,_,_,_=>none
  | e+1,b,c,d=>Zow R79 (ZiU R79 v0 a e) v0 a b c d
def Zly (R79:Zt→(List Int)→(List Bool)→Int→Option ((List Int)×(List Bool))) (k:Nat) (v0:Zt) (v1:List Int) (d:List Bool) (a:Int) (c:Zy) (b:Bool):Option ((List Int)×(List Bool)):=
  cond b ((ZiU R79 v0 c k v1 (d.set (Int.toNat a) true) 0)) ((if v1.length+([a]:List Int).length≤1073741824 then (some ((v1 ++ ([a]:List Int)),(d.set (Int.toNat a) true))) else none))
def Zqf (R79:Zt→(List Int)→(List Bool)→Int→Option ((List Int)×(List Bool))) (k:Nat) (v0:Zt) (v1:List Int) (b:List Bool) (a:Int):Option ((List Int)×(List Bool)):=
  (if (0:Int)≤a∧a<(b.length:Int) then (idxL b a).bind fun d=>(cond d ((some (v1,b))) ((if (0:Int)≤a∧a<(b.length:Int) then (idxL b a).bind fun e=>(idxL v0.f_nodes a).bind fun c=>(cond (!c.f_some) ((Zly R79 k v0 v1 b a c (a != 0))) ((Zly R79 k v0 v1 b a c false))) else none))) else none)
theorem Zpw (R79:Zt→(List Int)→(List Bool)→Int→Option ((List Int)×(List Bool))) (IH79:∀(v0:Zt) (v1:List Int) (f:List Bool) (d:Int) (r:(List Int)×(List Bool)),R79 v0 v1 f d=some r→∀{n1:Nat},n1=v1.length→∀{n2:Nat},n2=f.length→SM μ 79 [.val false [.vp (Zu v0)],ar 0 n1,ar 1 n2,oi d] [.arr 1 (v1.map (eInt .i64)),.arr 1 (f.map Zp)] (ar 0 r.1.length) [.arr 1 (r.1.map (eInt .i64)),.arr 1 (r.2.map Zp)]) (k:Nat) (v0:Zt) (v1:List Int) (f:List Bool) (d:Int) (r:(List Int)×(List Bool)) (c:Zqf R79 k v0 v1 f d=some r) {n1:Nat} (hn_n1:n1=v1.length) {n2:Nat} (hn_n2:n2=f.length):SM μ 79 [.val false [.vp (Zu v0)],ar 0 n1,ar 1 n2,oi d] [.arr 1 (v1.map (eInt .i64)),.arr 1 (f.map Zp)] (ar 0 r.1.length) [.arr 1 (r.1.map (eInt .i64)),.arr 1 (r.2.map Zp)]:=by
 refine Zz [0,1] Tryz.func79 rfl kr kr ?_
 show WA _ _ 52 _ _ _
 refine Ws [] [(0,.val false [.vp (Zu v0)]),(1,ar 0 n1),(2,ar 1 n2),(3,oi d)] [(0,.arr 1 (v1.map (eInt .i64))),(1,.arr 1 (f.map Zp))] ?_
 refine WA.seq ?_
 obtain ⟨x,c⟩:=Zn c
 obtain ⟨u,a4,c⟩:=Zh c
 refine Wos [(3,.cells [.bool u])] [(0,.val false [.vp (Zu v0)]),(1,ar 0 n1),(2,ar 1 n2),(3,oi d),(15,ob u)] [(0,.arr 1 (v1.map (eInt .i64))),(1,.arr 1 (f.map Zp))] [n2=(f.map Zp).length,(0:Int)≤d,d<((n2:Nat):Int),n2=(f.map Zp).length,(f.map Zp)[Int.toNat d]?=some [.bool u]] ⟨zt,x.1,(by have h_:=x.2;(try simp only [zl,Zi] at h_ ⊢);omega),zt,(Zr (Zs _ a4)),trivial⟩ ?_
 refine WA.cond (b:=u) rfl (fun p=>?_) (fun p=>?_)
 {
 have c:=Zk c p
 refine Ws [] [(8,ar 0 n1)] [(0,.arr 1 (v1.map (eInt .i64))),(1,.arr 1 (f.map Zp))] ?_
 refine WA.ret ?_
 obtain rfl:=zj_ c
 exact Zo (ar 0 n1) [.arr 1 (v1.map (eInt .i64)),.arr 1 (f.map Zp)] kr (by have h0_:n1=(v1:List _).length:=zt;rw [h0_] <;> rfl) kr kr nd rfl rfl }
 {
 have c:=Zj c p
 refine WA.skip ?_
 refine WA.seq ?_
 obtain ⟨y,c⟩:=Zn c
 obtain ⟨a3,a5,c⟩:=Zh c
 refine Wm (((f.map Zp).set (Int.toNat d) (Zp true)):(List (List PV))) ((f.set (Int.toNat d) true).map Zp) (fun m_=>([(0,.val false [.vp (Zu v0)]),(1,ar 0 n1),(2,ar 1 n2),(3,oi d)],[(0,.arr 1 (v1.map (eInt .i64))),(1,.arr 1 m_)],[n2=(f.map Zp).length,(0:Int)≤d,d<((n2:Nat):Int),n2=(f.map Zp).length,(f.map Zp)[Int.toNat d]?=some [.bool a3]])) (zm) [(3,.cells [.bool a3])] ⟨zt,y.1,(by have h_:=y.2;(try simp only [zl,Zi] at h_ ⊢);omega),zt,(Zr (Zs _ a5)),trivial⟩ ?_
 refine WA.seq ?_
 obtain ⟨a,a6,c⟩:=Zh c
 refine Wos [(5,.cells (ZL a)),(7,.obj 109)] [(0,.val false [.vp (Zu v0)]),(1,ar 0 n1),(2,ar 1 n2),(3,oi d),(9,pt 109)] [(0,.arr 1 (v1.map (eInt .i64))),(1,.arr 1 ((f.set (Int.toNat d) true).map Zp)),(109,bx (ZL a))] [idxL (v0.f_nodes.map ZL) d=some (ZL a)] ⟨(Zs _ a6),trivial⟩ ?_
 refine WA.join (fun s_=>∃(t:Bool),J s_ [(0,.val false [.vp (Zu v0)]),(1,ar 0 n1),(2,ar 1 n2),(3,oi d),(9,pt 109),(33,ob t)] [(0,.arr 1 (v1.map (eInt .i64))),(1,.arr 1 ((f.set (Int.toNat d) true).map Zp)),(109,bx (ZL a))]∧Zly R79 k v0 v1 f d a t=some r) ?_ ?_
 {
 rintro s_ ⟨t,he,c⟩
 refine Wj he ?_
 clear he
 refine WA.cond (b:=t) rfl (fun q=>?_) (fun q=>?_)
 {
 have c:=Zk c q
 refine WA.seq ?_
 refine WA.seq ?_
 refine Wm ((a.f_next.map (eInt .i64)).length:Int) (a.f_next.length:Int) (fun m_=>([(0,.val false [.vp (Zu v0)]),(1,ar 0 n1),(2,ar 1 n2),(35,one (.sl (a.f_next.map (eInt .i64)))),(36,oi m_),(37,oi 0)],[(0,.arr 1 (v1.map (eInt .i64))),(1,.arr 1 ((f.set (Int.toNat d) true).map Zp))],[])) ((by first | (simp only [zl,Zi];done) | (simp only [zl,Zi];omega) | omega)) [] trivial ?_
 refine WA.block ?_
 refine WA.loop (fun m s_=>∃(i:List Int) (j:List Bool) (l:Nat) (n:Nat) (h:Int),J s_ [(0,.val false [.vp (Zu v0)]),(1,ar 0 l),(2,ar 1 n),(35,one (.sl (a.f_next.map (eInt .i64)))),(36,oi (a.f_next.length:Int)),(37,oi h)] [(0,.arr 1 (i.map (eInt .i64))),(1,.arr 1 (j.map Zp))]∧l=(i:List _).length∧n=(j:List _).length∧ZiU R79 v0 a m i j h=some r) k ⟨v1,(f.set (Int.toNat d) true),n1,n2,0,jk,zt,zt,c⟩ ?_
 clear c
 rintro m1 s_ ⟨i,j,l,n,h,he,b0,b1,c⟩
 refine Wj he ?_
 clear he
 cases m1 with
 | zero=>cases c
 | succ m1=>
  obtain ⟨a9,w⟩:∃g,g=ZiU R79 v0 a m1:=⟨_,rfl⟩
  have c:Zow R79 a9 v0 a i j h=some r:=by first | (rw [w];exact c) | exact c
  refine Ws [] [(0,.val false [.vp (Zu v0)]),(1,ar 0 l),(2,ar 1 n),(35,one (.sl (a.f_next.map (eInt .i64)))),(36,oi (a.f_next.length:Int)),(37,oi h),(38,ob (decide (h<(a.f_next.length:Int))))] [(0,.arr 1 (i.map (eInt .i64))),(1,.arr 1 (j.map Zp))] ?_
  refine WA.seq ?_
  refine WA.cond (b:=(decide (h<(a.f_next.length:Int)))) rfl (fun s=>?_) (fun s=>?_)
  {
 have c:=Zk c s
 refine WA.skip ?_
 refine WA.seq ?_
 refine WA.block ?_
 obtain ⟨v,a7,c⟩:=Zh c
 refine Wos [(0,.cells [.int .i64 v])] [(0,.val false [.vp (Zu v0)]),(1,ar 0 l),(2,ar 1 n),(11,oi v),(35,one (.sl (a.f_next.map (eInt .i64)))),(36,oi (a.f_next.length:Int)),(37,oi h)] [(0,.arr 1 (i.map (eInt .i64))),(1,.arr 1 (j.map Zp))] [idxL (a.f_next.map (eInt .i64)) h=some [.int .i64 v]] ⟨(Zs _ a7),trivial⟩ ?_
 obtain ⟨e,a8,c⟩:=Zh c
 obtain ⟨b2,c⟩:=Zn c
 refine Wo [(4,.call [0,1] (ar 0 e.1.length) [.arr 1 (e.1.map (eInt .i64)),.arr 1 (e.2.map Zp)] [])] [(0,.val false [.vp (Zu v0)]),(1,ar 0 e.1.length),(2,ar 1 n),(35,one (.sl (a.f_next.map (eInt .i64)))),(36,oi (a.f_next.length:Int)),(37,oi h)] [(0,.arr 1 (e.1.map (eInt .i64))),(1,.arr 1 (e.2.map Zp))] [SM μ 79 [.val false [.vp (Zu v0)],ar 0 l,ar 1 n,oi v] [.arr 1 (i.map (eInt .i64)),.arr 1 (j.map Zp)] (ar 0 e.1.length) [.arr 1 (e.1.map (eInt .i64)),.arr 1 (e.2.map Zp)],([0,1]:List Nat).Nodup] ⟨(IH79 _ _ _ _ _ a8 (n1:=l) zt (n2:=n) zt),nd,trivial⟩ ?_
 refine Wr [] [(0,.val false [.vp (Zu v0)]),(1,ar 0 e.1.length),(2,ar 1 n),(35,one (.sl (a.f_next.map (eInt .i64)))),(36,oi (a.f_next.length:Int)),(37,oi (w64 (h+1)))] [(0,.arr 1 (e.1.map (eInt .i64))),(1,.arr 1 (e.2.map Zp))] ?_
 exact ⟨m1,zl_ _,e.1,e.2,e.1.length,n,(w64 (h+1)),jk,zt,zt,by rw [w] at c;exact c⟩ }
  {
 have c:=Zj c s
 refine WA.exit ?_
 refine Ws [] [(8,ar 0 l)] [(0,.arr 1 (i.map (eInt .i64))),(1,.arr 1 (j.map Zp))] ?_
 refine WA.ret ?_
 obtain rfl:=zj_ c
 exact Zo (ar 0 l) [.arr 1 (i.map (eInt .i64)),.arr 1 (j.map Zp)] kr (by have h0_:l=(i:List _).length:=zt;rw [h0_] <;> rfl) kr kr nd rfl rfl } }
 {
 have c:=Zj c q
 refine WA.skip ?_
 refine WA.seq ?_
 obtain ⟨z,c⟩:=Zn c
 refine Wm (((v1.map (eInt .i64)) ++ (([d]:List Int).map (eInt .i64))):(List (List PV))) ((v1 ++ ([d]:List Int)).map (eInt .i64)) (fun m_=>([(8,ar 0 (n1+1))],[(0,.arr 1 m_),(1,.arr 1 ((f.set (Int.toNat d) true).map Zp))],[n1=(v1.map (eInt .i64)).length,(v1.map (eInt .i64)).length+(([d]:List Int).map (eInt .i64)).length≤1073741824,∀es,es∈(([d]:List Int).map (eInt .i64))→es.length=1])) (zm) [] ⟨zt,(by first | exact z | (simp only [List.length_map,Zi];exact z)),(Zb2 _ _ _ (fun _=>rfl)),trivial⟩ ?_
 refine WA.ret ?_
 obtain rfl:=zj_ c
 exact Zo (ar 0 (n1+1)) [.arr 1 ((v1 ++ ([d]:List Int)).map (eInt .i64)),.arr 1 ((f.set (Int.toNat d) true).map Zp)] kr (by have h0_:(n1+1)=((v1 ++ ([d]:List Int)):List _).length:=zt;rw [h0_] <;> rfl) kr kr nd rfl rfl } }
 {
 rcases zo_ (!a.f_some) with o | o
 {
 have c:=Zk c o
 refine Wo [(3,.bool true)] [(0,.val false [.vp (Zu v0)]),(1,ar 0 n1),(2,ar 1 n2),(3,oi d),(9,pt 109),(33,ob (d != 0))] [(0,.arr 1 (v1.map (eInt .i64))),(1,.arr 1 ((f.set (Int.toNat d) true).map Zp)),(109,bx (ZL a))] [(!a.f_some)=true] ⟨o,trivial⟩ ?_
 exact ⟨(d != 0),jk,c⟩ }
 {
 have c:=Zj c o
 refine Wo [(3,.bool false)] [(0,.val false [.vp (Zu v0)]),(1,ar 0 n1),(2,ar 1 n2),(3,oi d),(9,pt 109),(33,ob false)] [(0,.arr 1 (v1.map (eInt .i64))),(1,.arr 1 ((f.set (Int.toNat d) true).map Zp)),(109,bx (ZL a))] [(!a.f_some)=false] ⟨o,trivial⟩ ?_
 exact ⟨false,jk,c⟩ } } }
def F79:Nat→Zt→(List Int)→(List Bool)→Int→Option ((List Int)×(List Bool))
  | 0,_,_,_,_=>none
  | k+1,v0,v1,a,b=>Zqf (F79 k) k v0 v1 a b
theorem Zlz:∀(k:Nat),∀(v0:Zt) (v1:List Int) (a:List Bool) (b:Int) (r:(List Int)×(List Bool)),F79 k v0 v1 a b=some r→∀{n1:Nat},n1=v1.length→∀{n2:Nat},n2=a.length→SM μ 79 [.val false [.vp (Zu v0)],ar 0 n1,ar 1 n2,oi b] [.arr 1 (v1.map (eInt .i64)),.arr 1 (a.map Zp)] (ar 0 r.1.length) [.arr 1 (r.1.map (eInt .i64)),.arr 1 (r.2.map Zp)]
  | 0=>fun _ _ _ _ _ c=>by cases c
  | k+1=>fun v0 v1 a b r c=>Zpw (F79 k) (Zlz k) k v0 v1 a b r c
def Zj0 (a:(List Int)→(List Bool)→Int→Option (List Int)) (b:Int) (c:List Int) (d:List Bool):Option (List Int):=
  a c d (w64 (b+1))
def ZjZ (k:Nat) (a:(List Int)→(List Bool)→Int→Option (List Int)) (v0:Zt) (g:Int) (d:List Int) (b:List Bool) (e:Int) (f:Bool):Option (List Int):=
  cond f ((idxL v0.f_nodes g).bind fun h=>(idxL h.f_next 0).bind fun i=>(F79 k v0 d b i).bind fun c=>if c.2.length=b.length then (Zj0 a e c.1 c.2) else none) ((Zj0 a e d b))
def Zm4 (k:Nat) (e:(List Int)→(List Bool)→Int→Option (List Int)) (b:(List Int)→(List Bool)→Int→Option (List Int)) (v0:Zt) (j:Int) (i:Int) (f:Int) (g:Zy) (c:List Int) (d:List Bool) (a:Int):Option (List Int):=
  (cond (decide (a<(g.f_set.length:Int))) ((idxL g.f_set a).bind fun h=>(cond (decide (j≥h.f_Lo)) ((ZjZ k b v0 f c d a (decide (j≤h.f_Hi)))) ((ZjZ k b v0 f c d a false)))) ((e c d (w64 (i+1)))))
def Zhi (k:Nat) (a:(List Int)→(List Bool)→Int→Option (List Int)) (v0:Zt) (h:Int) (b:Int) (c:Int) (d:Zy):Nat→(List Int)→(List Bool)→Int→Option (List Int)
  | 0,_,_,_=>none
  | i+1,e,f,g=>Zm4 k a (Zhi k a v0 h b c d i) v0 h b c d e f g
def Zm3 (k:Nat) (b:(List Int)→(List Bool)→Int→Option (List Int)) (v0:Zt) (v1:List Int) (g:Int) (c:List Int) (e:List Bool) (a:Int):Option (List Int):=
  (cond (decide (a<(v1.length:Int))) ((idxL v1 a).bind fun d=>(idxL v0.f_nodes d).bind fun f=>(Zhi k b v0 g a d f k c e 0)) (((some c))))
def Zhh (k:Nat) (v0:Zt) (v1:List Int) (d:Int):Nat→(List Int)→(List Bool)→Int→Option (List Int)
  | 0,_,_,_=>none
  | e+1,a,b,c=>Zm3 k (Zhh k v0 v1 d e) v0 v1 d a b c
def F56 (k:Nat) (v0:Zt) (v1:List Int) (a:Int):Option (List Int):=
  ((if (0:Int)≤(v0.f_nodes.length:Int)∧((v0.f_nodes.length:Int):Int)≤1073741824 then ((Zhh k v0 v1 a k ([]:List Int) (List.replicate (Int.toNat (v0.f_nodes.length:Int)) false) 0)) else none))
theorem ZrD (k:Nat) (v0:Zt) (v1:List Int) (h:Int) (r:List Int) (c:F56 k v0 v1 h=some r):SM μ 56 [.val false [.vp (Zu v0)],one (.sl (v1.map (eInt .i64))),oi h] [] (one (.sl (r.map (eInt .i64)))) []:=by
 refine Zz [] Tryz.func56 rfl kr kr ?_
 show WA _ _ 65 _ _ _
 refine Ws [] [(0,.val false [.vp (Zu v0)]),(1,one (.sl (v1.map (eInt .i64)))),(2,oi h)] [] ?_
 refine Ws [(0,.obj 107)] [(0,.val false [.vp (Zu v0)]),(1,one (.sl (v1.map (eInt .i64)))),(2,oi h),(7,ar 107 0)] [(107,.arr 1 (([]:List Int).map (eInt .i64)))] ?_
 refine WA.seq ?_
 obtain ⟨b5,c⟩:=Zn c
 refine Wm ((((v0.f_nodes.map ZL).length:Int),(List.replicate (Int.toNat ((v0.f_nodes.map ZL).length:Int)) (Zp false))):Int×(List (List PV))) ((v0.f_nodes.length:Int),((List.replicate (Int.toNat (v0.f_nodes.length:Int)) false).map Zp)) (fun m_=>([(0,.val false [.vp (Zu v0)]),(1,one (.sl (v1.map (eInt .i64)))),(2,oi h),(7,ar 107 0),(8,ar 118 (Int.toNat m_.1))],[(107,.arr 1 (([]:List Int).map (eInt .i64))),(118,.arr 1 m_.2)],[(m_.1:Int)=m_.1,(0:Int)≤m_.1,(m_.1:Int)≤1073741824])) (ZJ (by first | (simp only [zl,Zi];done) | (simp only [zl,Zi];omega) | omega) zm) [(5,.obj 118)] ⟨rfl,b5.1,b5.2,trivial⟩ ?_
 refine WA.seq ?_
 refine WA.seq ?_
 refine Wm ((v1.map (eInt .i64)).length:Int) (v1.length:Int) (fun m_=>([(0,.val false [.vp (Zu v0)]),(2,oi h),(7,ar 107 0),(8,ar 118 (Int.toNat (v0.f_nodes.length:Int))),(19,one (.sl (v1.map (eInt .i64)))),(20,oi m_),(21,oi 0)],[(107,.arr 1 (([]:List Int).map (eInt .i64))),(118,.arr 1 ((List.replicate (Int.toNat (v0.f_nodes.length:Int)) false).map Zp))],[])) ((by first | (simp only [zl,Zi];done) | (simp only [zl,Zi];omega) | omega)) [] trivial ?_
 refine WA.block ?_
 refine WA.loop (fun m s_=>∃(o:List Int) (t:List Bool) (u:Nat) (w:Nat) (d:Int),J s_ [(0,.val false [.vp (Zu v0)]),(2,oi h),(7,ar 107 u),(8,ar 118 w),(19,one (.sl (v1.map (eInt .i64)))),(20,oi (v1.length:Int)),(21,oi d)] [(107,.arr 1 (o.map (eInt .i64))),(118,.arr 1 (t.map Zp))]∧u=(o:List _).length∧w=(t:List _).length∧Zhh k v0 v1 h m o t d=some r) k ⟨([]:List Int),(List.replicate (Int.toNat (v0.f_nodes.length:Int)) false),0,(Int.toNat (v0.f_nodes.length:Int)),0,jk,zt,zt,c⟩ ?_
 clear c
 rintro m14 s_ ⟨o,t,u,w,d,he,c2,c3,c⟩
 refine Wj he ?_
 clear he
 cases m14 with
 | zero=>cases c
 | succ m14=>
  obtain ⟨y,a7⟩:∃g,g=Zhh k v0 v1 h m14:=⟨_,rfl⟩
  have c:Zm3 k y v0 v1 h o t d=some r:=by first | (rw [a7];exact c) | exact c
  refine Ws [] [(0,.val false [.vp (Zu v0)]),(2,oi h),(7,ar 107 u),(8,ar 118 w),(19,one (.sl (v1.map (eInt .i64)))),(20,oi (v1.length:Int)),(21,oi d),(22,ob (decide (d<(v1.length:Int))))] [(107,.arr 1 (o.map (eInt .i64))),(118,.arr 1 (t.map Zp))] ?_
  refine WA.seq ?_
  refine WA.cond (b:=(decide (d<(v1.length:Int)))) rfl (fun a9=>?_) (fun a9=>?_)
  {
 have c:=Zk c a9
 refine WA.skip ?_
 refine WA.seq ?_
 refine WA.block ?_
 obtain ⟨e,b6,c⟩:=Zh c
 refine Wos [(0,.cells [.int .i64 e])] [(0,.val false [.vp (Zu v0)]),(2,oi h),(7,ar 107 u),(8,ar 118 w),(10,oi e),(19,one (.sl (v1.map (eInt .i64)))),(20,oi (v1.length:Int)),(21,oi d)] [(107,.arr 1 (o.map (eInt .i64))),(118,.arr 1 (t.map Zp))] [idxL (v1.map (eInt .i64)) d=some [.int .i64 e]] ⟨(Zs _ b6),trivial⟩ ?_
 refine WA.seq ?_
 obtain ⟨a,b7,c⟩:=Zh c
 refine Wm ((a.f_set.map Za).length:Int) (a.f_set.length:Int) (fun m_=>([(0,.val false [.vp (Zu v0)]),(2,oi h),(7,ar 107 u),(8,ar 118 w),(10,oi e),(19,one (.sl (v1.map (eInt .i64)))),(20,oi (v1.length:Int)),(21,oi d),(32,one (.sl (a.f_set.map Za))),(33,oi m_),(34,oi 0)],[(107,.arr 1 (o.map (eInt .i64))),(118,.arr 1 (t.map Zp))],[idxL (v0.f_nodes.map ZL) e=some (ZL a)])) ((by first | (simp only [zl,Zi];done) | (simp only [zl,Zi];omega) | omega)) [(5,.cells (ZL a))] ⟨(Zs _ b7),trivial⟩ ?_
 refine WA.block ?_
 refine WA.loop (fun m s_=>∃(i:List Int) (j:List Bool) (p:Nat) (l:Nat) (f:Int),J s_ [(0,.val false [.vp (Zu v0)]),(2,oi h),(7,ar 107 p),(8,ar 118 l),(10,oi e),(19,one (.sl (v1.map (eInt .i64)))),(20,oi (v1.length:Int)),(21,oi d),(32,one (.sl (a.f_set.map Za))),(33,oi (a.f_set.length:Int)),(34,oi f)] [(107,.arr 1 (i.map (eInt .i64))),(118,.arr 1 (j.map Zp))]∧p=(i:List _).length∧l=(j:List _).length∧Zhi k y v0 h d e a m i j f=some r) k ⟨o,t,u,w,0,jk,zt,zt,c⟩ ?_
 clear c
 rintro m19 s_ ⟨i,j,p,l,f,he,c4,c5,c⟩
 refine Wj he ?_
 clear he
 cases m19 with
 | zero=>cases c
 | succ m19=>
  obtain ⟨a3,a8⟩:∃g,g=Zhi k y v0 h d e a m19:=⟨_,rfl⟩
  have c:Zm4 k y a3 v0 h d e a i j f=some r:=by first | (rw [a8];exact c) | exact c
  refine Ws [] [(0,.val false [.vp (Zu v0)]),(2,oi h),(7,ar 107 p),(8,ar 118 l),(10,oi e),(19,one (.sl (v1.map (eInt .i64)))),(20,oi (v1.length:Int)),(21,oi d),(32,one (.sl (a.f_set.map Za))),(33,oi (a.f_set.length:Int)),(34,oi f),(35,ob (decide (f<(a.f_set.length:Int))))] [(107,.arr 1 (i.map (eInt .i64))),(118,.arr 1 (j.map Zp))] ?_
  refine WA.seq ?_
  refine WA.cond (b:=(decide (f<(a.f_set.length:Int)))) rfl (fun b0=>?_) (fun b0=>?_)
  {
 have c:=Zk c b0
 refine WA.skip ?_
 refine WA.join (fun s_=>∃(z:List Int) (a0:List Bool) (a4:Nat) (a5:Nat),J s_ [(0,.val false [.vp (Zu v0)]),(2,oi h),(7,ar 107 a4),(8,ar 118 a5),(10,oi e),(19,one (.sl (v1.map (eInt .i64)))),(20,oi (v1.length:Int)),(21,oi d),(32,one (.sl (a.f_set.map Za))),(33,oi (a.f_set.length:Int)),(34,oi f)] [(107,.arr 1 (z.map (eInt .i64))),(118,.arr 1 (a0.map Zp))]∧a4=(z:List _).length∧a5=(a0:List _).length∧Zj0 a3 f z a0=some r) ?_ ?_
 {
 rintro s_ ⟨z,a0,a4,a5,he,c6,c7,c⟩
 refine Wj he ?_
 clear he
 refine Wr [] [(0,.val false [.vp (Zu v0)]),(2,oi h),(7,ar 107 a4),(8,ar 118 a5),(10,oi e),(19,one (.sl (v1.map (eInt .i64)))),(20,oi (v1.length:Int)),(21,oi d),(32,one (.sl (a.f_set.map Za))),(33,oi (a.f_set.length:Int)),(34,oi (w64 (f+1)))] [(107,.arr 1 (z.map (eInt .i64))),(118,.arr 1 (a0.map Zp))] ?_
 exact ⟨m19,zl_ _,z,a0,a4,a5,(w64 (f+1)),jk,zt,zt,by rw [a8] at c;exact c⟩ }
 {
 refine WA.block ?_
 obtain ⟨v,b8,c⟩:=Zh c
 refine Wos [(0,.cells (Za v)),(2,.obj 112)] [(0,.val false [.vp (Zu v0)]),(2,oi h),(7,ar 107 p),(8,ar 118 l),(10,oi e),(12,pt 112),(19,one (.sl (v1.map (eInt .i64)))),(20,oi (v1.length:Int)),(21,oi d),(32,one (.sl (a.f_set.map Za))),(33,oi (a.f_set.length:Int)),(34,oi f)] [(107,.arr 1 (i.map (eInt .i64))),(112,bx (Za v)),(118,.arr 1 (j.map Zp))] [idxL (a.f_set.map Za) f=some (Za v)] ⟨(Zs _ b8),trivial⟩ ?_
 refine WA.join (fun s_=>∃(b2:Bool),J s_ [(0,.val false [.vp (Zu v0)]),(2,oi h),(7,ar 107 p),(8,ar 118 l),(10,oi e),(19,one (.sl (v1.map (eInt .i64)))),(20,oi (v1.length:Int)),(21,oi d),(32,one (.sl (a.f_set.map Za))),(33,oi (a.f_set.length:Int)),(34,oi f),(47,ob b2)] [(107,.arr 1 (i.map (eInt .i64))),(118,.arr 1 (j.map Zp))]∧ZjZ k a3 v0 e i j f b2=some r) ?_ ?_
 {
 rintro s_ ⟨b2,he,c⟩
 refine Wj he ?_
 clear he
 refine WA.cond (b:=b2) rfl (fun b1=>?_) (fun b1=>?_)
 {
 have c:=Zk c b1
 obtain ⟨b3,b9,c⟩:=Zh c
 obtain ⟨b4,c0,c⟩:=Zh c
 obtain ⟨q,c1,c⟩:=Zh c
 obtain ⟨c8,c⟩:=Zn c
 refine Wo [(8,.cells (ZL b3)),(11,.cells [.int .i64 b4]),(13,.call [107,118] (ar 0 q.1.length) [.arr 1 (q.1.map (eInt .i64)),.arr 1 (q.2.map Zp)] [])] [(0,.val false [.vp (Zu v0)]),(2,oi h),(7,ar 107 q.1.length),(8,ar 118 l),(10,oi e),(19,one (.sl (v1.map (eInt .i64)))),(20,oi (v1.length:Int)),(21,oi d),(32,one (.sl (a.f_set.map Za))),(33,oi (a.f_set.length:Int)),(34,oi f)] [(107,.arr 1 (q.1.map (eInt .i64))),(118,.arr 1 (q.2.map Zp))] [idxL (v0.f_nodes.map ZL) e=some (ZL b3),idxL (b3.f_next.map (eInt .i64)) 0=some [.int .i64 b4],SM μ 79 [.val false [.vp (Zu v0)],ar 0 p,ar 1 l,oi b4] [.arr 1 (i.map (eInt .i64)),.arr 1 (j.map Zp)] (ar 0 q.1.length) [.arr 1 (q.1.map (eInt .i64)),.arr 1 (q.2.map Zp)],([107,118]:List Nat).Nodup] ⟨(Zs _ b9),(Zs _ c0),(Zlz k _ _ _ _ _ c1 (n1:=p) zt (n2:=l) zt),nd,trivial⟩ ?_
 exact ⟨q.1,q.2,q.1.length,l,jk,zt,zt,c⟩ }
 {
 have c:=Zj c b1
 refine WA.skip ?_
 exact ⟨i,j,p,l,jk,zt,zt,c⟩ } }
 {
 rcases zo_ (decide (h≥v.f_Lo)) with x | x
 {
 have c:=Zk c x
 refine Wo [(4,.bool true)] [(0,.val false [.vp (Zu v0)]),(2,oi h),(7,ar 107 p),(8,ar 118 l),(10,oi e),(19,one (.sl (v1.map (eInt .i64)))),(20,oi (v1.length:Int)),(21,oi d),(32,one (.sl (a.f_set.map Za))),(33,oi (a.f_set.length:Int)),(34,oi f),(47,ob (decide (h≤v.f_Hi)))] [(107,.arr 1 (i.map (eInt .i64))),(118,.arr 1 (j.map Zp))] [(decide (h≥v.f_Lo))=true] ⟨x,trivial⟩ ?_
 exact ⟨(decide (h≤v.f_Hi)),jk,c⟩ }
 {
 have c:=Zj c x
 refine Wo [(4,.bool false)] [(0,.val false [.vp (Zu v0)]),(2,oi h),(7,ar 107 p),(8,ar 118 l),(10,oi e),(19,one (.sl (v1.map (eInt .i64)))),(20,oi (v1.length:Int)),(21,oi d),(32,one (.sl (a.f_set.map Za))),(33,oi (a.f_set.length:Int)),(34,oi f),(47,ob false)] [(107,.arr 1 (i.map (eInt .i64))),(118,.arr 1 (j.map Zp))] [(decide (h≥v.f_Lo))=false] ⟨x,trivial⟩ ?_
 exact ⟨false,jk,c⟩ } } } }
  {
 have c:=Zj c b0
 refine WA.exit ?_
 refine Wr [] [(0,.val false [.vp (Zu v0)]),(2,oi h),(7,ar 107 p),(8,ar 118 l),(19,one (.sl (v1.map (eInt .i64)))),(20,oi (v1.length:Int)),(21,oi (w64 (d+1)))] [(107,.arr 1 (i.map (eInt .i64))),(118,.arr 1 (j.map Zp))] ?_
 exact ⟨m14,zl_ _,i,j,p,l,(w64 (d+1)),jk,zt,zt,by rw [a7] at c;exact c⟩ } }
  {
 have c:=Zj c a9
 refine WA.exit ?_
 refine Ws [] [(6,ar 107 u)] [(107,.arr 1 (o.map (eInt .i64)))] ?_
 refine WA.freeze 107 6 (s:=1) (n:=u) (els:=(o.map (eInt .i64))) rfl rfl zt ?_
 refine Wk [(6,one (.sl (o.map (eInt .i64))))] [] ?_
 refine WA.ret ?_
 obtain rfl:=zj_ c
 exact Zo (one (.sl (o.map (eInt .i64)))) [] kr kr kr kr nd rfl rfl }
def Zon (b:Int→Option Bool) (v1:List Int) (a:Int):Option Bool:=
  (cond (decide (a<(v1.length:Int))) ((idxL v1 a).bind fun c=>((cond (c == 0) ((some true)) ((b (w64 (a+1))))))) (((some false))))
def ZiG (v1:List Int):Nat→Int→Option Bool
  | 0,_=>none
  | b+1,a=>Zon (ZiG v1 b) v1 a
def F57 (k:Nat) (v0:Zt) (v1:List Int):Option Bool:=
  ((ZiG v1 k 0))
theorem ZrE (k:Nat) (v0:Zt) (v1:List Int) (r:Bool) (c:F57 k v0 v1=some r):SM μ 57 [.val false [.vp (Zu v0)],one (.sl (v1.map (eInt .i64)))] [] (ob r) []:=by
 refine Zz [] Tryz.func57 rfl kr kr ?_
 show WA _ _ 16 _ _ _
 refine Ws [] [(1,one (.sl (v1.map (eInt .i64))))] [] ?_
 refine WA.seq ?_
 refine WA.seq ?_
 refine Wm ((v1.map (eInt .i64)).length:Int) (v1.length:Int) (fun o=>([(7,one (.sl (v1.map (eInt .i64)))),(8,oi o),(9,oi 0)],[],[])) ((by first | (simp only [zl,Zi];done) | (simp only [zl,Zi];omega) | omega)) [] trivial ?_
 refine WA.block ?_
 refine WA.loop (fun m n=>∃(a:Int),J n [(7,one (.sl (v1.map (eInt .i64)))),(8,oi (v1.length:Int)),(9,oi a)] []∧ZiG v1 m a=some r) k ⟨0,jk,c⟩ ?_
 clear c
 rintro m0 n ⟨a,l,c⟩
 refine Wj l ?_
 clear l
 cases m0 with
 | zero=>cases c
 | succ m0=>
  obtain ⟨j,h⟩:∃g,g=ZiG v1 m0:=⟨_,rfl⟩
  have c:Zon j v1 a=some r:=by first | (rw [h];exact c) | exact c
  refine Ws [] [(7,one (.sl (v1.map (eInt .i64)))),(8,oi (v1.length:Int)),(9,oi a),(10,ob (decide (a<(v1.length:Int))))] [] ?_
  refine WA.seq ?_
  refine WA.cond (b:=(decide (a<(v1.length:Int)))) rfl (fun e=>?_) (fun e=>?_)
  {
 have c:=Zk c e
 refine WA.skip ?_
 refine WA.seq ?_
 refine WA.block ?_
 obtain ⟨d,i,c⟩:=Zh c
 refine Wos [(0,.cells [.int .i64 d])] [(6,oi d),(7,one (.sl (v1.map (eInt .i64)))),(8,oi (v1.length:Int)),(9,oi a)] [] [idxL (v1.map (eInt .i64)) a=some [.int .i64 d]] ⟨(Zs _ i),trivial⟩ ?_
 refine Ws [] [(7,one (.sl (v1.map (eInt .i64)))),(8,oi (v1.length:Int)),(9,oi a),(14,ob (d == 0))] [] ?_
 refine WA.cond (b:=(d == 0)) rfl (fun f=>?_) (fun f=>?_)
 {
 have c:=Zk c f
 refine Ws [] [(4,ob true)] [] ?_
 refine WA.ret ?_
 obtain rfl:=zj_ c
 exact Zo (ob true) [] kr kr kr kr nd rfl rfl }
 {
 have c:=Zj c f
 refine WA.skip ?_
 refine Wr [] [(7,one (.sl (v1.map (eInt .i64)))),(8,oi (v1.length:Int)),(9,oi (w64 (a+1)))] [] ?_
 exact ⟨m0,zl_ _,(w64 (a+1)),jk,by rw [h] at c;exact c⟩ } }
  {
 have c:=Zj c e
 refine WA.exit ?_
 refine Ws [] [(4,ob false)] [] ?_
 refine WA.ret ?_
 obtain rfl:=zj_ c
 exact Zo (ob false) [] kr kr kr kr nd rfl rfl }
end Go.Proofs.YthilboheomikjaaGreatDoor
end
section
namespace Go.Proofs.YthilboheomikjaaGreatDoor
open Go.AL
variable {μ:Int}
set_option maxRecDepth 100000
def F53 (k:Nat) (v0:Zd):Option Zt:=
  (F78 k ⟨[⟨[],false,[],false⟩],0⟩ v0 0).bind fun y=>if y.2.f_nodes.all (fun n=>!n.f_x)=true then some ⟨y.2.f_nodes,y.1⟩ else none
theorem ZmH {l:List Zy} (h:l.all (fun n=>!n.f_x)=true):l.map Zq=l.map ZL:=by
  refine List.map_congr_left fun x hx=>?_
  have:=List.all_eq_true.1 h x hx
  simp only [Bool.not_eq_true'] at this
  simp only [Zq,ZL,this,cond]
theorem ZrB (k:Nat) (v0:Zd) (r:Zt) (hF:F53 k v0=some r):Sim Tryz.prog (GL0 μ) 53 [.val true (pvL (Zc v0))] [] (.val false [.vp (Zu r)]) []:=by
  refine Zz [] Tryz.func53 rfl (by kernel_rfl) (by kernel_rfl) ?_
  show WA _ _ 18 _ _ _
  obtain ⟨y,hy,hF⟩:=Zh hF
  obtain ⟨hc,hF⟩:=Zn hF
  obtain rfl:=zj_ hF
  refine WA.seq ?_
  refine WA.reg [1] [101] [(0,.obj 101)] (env':=[(1,.val false [.ptr 101 1 0 0])]) (os':=[(101,.box (pvL (Zc v0)))]) (O:=[]) (by kernel_rfl) (sound _ _) trivial ?_
  refine WA.seq ?_
  refine WA.reg [1,3] [101,105] [(1,.obj 105)] (env':=[(1,.val false [.ptr 101 1 0 0]),(3,.val false [.ptr 105 1 0 0])]) (os':=[(101,.box (pvL (Zc v0))),(105,.box (pvL [.sl [],.int .i64 0]))]) (O:=[]) (by kernel_rfl) (sound _ _) trivial ?_
  refine WA.seq ?_
  refine WA.reg [1,3] [101,105,108] [(2,.obj 108)] (env':=[(1,.val false [.ptr 101 1 0 0]),(3,.val false [.ptr 105 1 0 0])]) (os':=[(101,.box (pvL (Zc v0))),(105,.box [.arr 108 1,.pv (.int .i64 0)]),(108,.arr 3 [[.sl [],.bool false,.sl []]])]) (O:=[]) (by kernel_rfl) (sound _ _) trivial ?_
  refine WA.seq ?_
  refine WA.reg [3] [105,108] [(3,.call [105,108] (one (.int .i64 y.1)) [.box [.arr 1 y.2.f_nodes.length,.pv (.int .i64 y.2.f_first)],.arr 3 (y.2.f_nodes.map Zq)] [])] (env':=[(3,.val false [.ptr 105 1 0 0])]) (os':=[(105,.box [.arr 108 y.2.f_nodes.length,.pv (.int .i64 y.1)]),(108,.arr 3 (y.2.f_nodes.map Zq))])
    (O:=[Sim Tryz.prog (GL0 μ) 78 [.val false [.ptr 0 1 0 0],.val true (pvL (Zc v0)),one (.int .i64 0)] [.box [.arr 1 1,.pv (.int .i64 0)],.arr 3 [[.sl [],.bool false,.sl []]]] (one (.int .i64 y.1)) [.box [.arr 1 y.2.f_nodes.length,.pv (.int .i64 y.2.f_first)],.arr 3 (y.2.f_nodes.map Zq)],([105,108]:List Nat).Nodup]) (by kernel_rfl) (sound _ _) ⟨Zov k _ _ _ _ hy,by decide,trivial⟩ ?_
  refine WA.seq ?_
  refine WA.reg [2] [105,108] [] (env':=[(2,.val false [.ptr 105 1 0 0])]) (os':=[(105,.box [.arr 108 y.2.f_nodes.length,.pv (.int .i64 y.1)]),(108,.arr 3 (y.2.f_nodes.map Zq))]) (O:=[]) (by kernel_rfl) (sound _ _) trivial ?_
  refine WA.freezeM 105 108 2 (s:=3) (n:=y.2.f_nodes.length) (els:=y.2.f_nodes.map Zq) (p:=.int .i64 y.1) rfl rfl rfl (by rw [List.length_map]) (by decide) ?_
  rw [ZmH hc]
  refine WA.ret ?_
  exact Zo (.val false [.vp (Zu ⟨y.2.f_nodes,y.1⟩)]) [] (by kernel_rfl) (by kernel_rfl) (by kernel_rfl) (by kernel_rfl) (by decide) rfl rfl
def F54 (k:Nat) (v0:Zt):Option (List Int):=
  if (v0.f_nodes.length:Int)≤1073741824 then (F79 k v0 [] (List.replicate v0.f_nodes.length false) v0.f_first).bind fun y=>some y.1 else none
theorem ZrC (k:Nat) (v0:Zt) (r:List Int) (hF:F54 k v0=some r):Sim Tryz.prog (GL0 μ) 54 [.val false [.vp (Zu v0)]] [] (one (.sl (r.map (eInt .i64)))) []:=by
  refine Zz [] Tryz.func54 rfl (by kernel_rfl) (by kernel_rfl) ?_
  show WA _ _ 15 _ _ _
  obtain ⟨hc,hF⟩:=Zn hF
  obtain ⟨y,hy,hF⟩:=Zh hF
  obtain rfl:=zj_ hF
  refine WA.seq ?_
  refine WA.reg [0] [] [] (env':=[(0,.val false [.vp (Zu v0)])]) (os':=[]) (O:=[]) (by kernel_rfl) (sound _ _) trivial ?_
  refine WA.seq ?_
  have hl:(List.replicate (Int.toNat ((v0.f_nodes.map ZL).length:Int)) [PV.bool false])=(List.replicate v0.f_nodes.length false).map Zp:=by
    rw [List.length_map,Int.toNat_natCast,List.map_replicate];rfl
  have hn:Int.toNat ((v0.f_nodes.map ZL).length:Int)=(List.replicate v0.f_nodes.length false).length:=by simp
  refine WA.regD (by kernel_rfl) [2] [] [(6,.obj 109),(11,.call [109] (one (.sl (y.1.map (eInt .i64)))) [.arr 1 (y.2.map Zp)] [])] (env':=[(2,one (.sl (y.1.map (eInt .i64))))]) (os':=[])
    (O:=[((v0.f_nodes.map ZL).length:Int)=(v0.f_nodes.map ZL).length,(0:Int)≤((v0.f_nodes.map ZL).length:Int),((v0.f_nodes.map ZL).length:Int)≤1073741824,
      Sim Tryz.prog (GL0 μ) 79 [.val false [.vp (Zu v0)],one .nils,.val false [.arr 0 (Int.toNat ((v0.f_nodes.map ZL).length:Int))],one (.int .i64 v0.f_first)] [.arr 1 (List.replicate (Int.toNat ((v0.f_nodes.map ZL).length:Int)) [PV.bool false])] (one (.sl (y.1.map (eInt .i64)))) [.arr 1 (y.2.map Zp)],([109]:List Nat).Nodup])
    (by kernel_rfl) (by kernel_rfl) (sound _ _) ⟨rfl,by omega,by simpa using hc,?_,by decide,trivial⟩ ?_
  · rw [hl]
    exact Zn8 (List.length_map _).symm ⟨trivial,trivial⟩ ⟨trivial,trivial⟩ (Zlz k _ _ _ _ _ hy (n1:=0) rfl hn)
  · refine WA.ret ?_
    exact Zo (one (.sl (y.1.map (eInt .i64)))) [] (by kernel_rfl) (by kernel_rfl) (by kernel_rfl) (by kernel_rfl) (by decide) rfl rfl
end Go.Proofs.YthilboheomikjaaGreatDoor
end
section
namespace Go.Proofs.YthilboheomikjaaGreatDoor
open Go.AL Go.Lib
set_option maxRecDepth 100000
def inR (l:List Zb) (c:Int):Prop:=∃r∈l,r.f_Lo≤c∧c≤r.f_Hi
def Pow (P:List Int→Prop):Nat→List Int→Prop
  | 0,w=>w=[]
  | n+1,w=>∃u v,w=u ++ v∧P u∧Pow P n v
mutual
def Lang:Zd→List Int→Prop
  | ⟨k,st,l,mn,mx⟩=>fun w=>(k=1∧∃c,w=[c]∧inR st c)∨(k=2∧LSeq l w)∨(k=3∧LAlt l w)∨(k=4∧∃n:Nat,mn≤n∧(mx<0∨(n:Int)≤mx)∧Pow (LHd l) n w)
def LSeq:List Zd→List Int→Prop
  | []=>fun w=>w=[]
  | x :: l=>fun w=>∃u v,w=u ++ v∧Lang x u∧LSeq l v
def LAlt:List Zd→List Int→Prop
  | []=>fun _=>False
  | x :: l=>fun w=>Lang x w∨LAlt l w
def LHd:List Zd→List Int→Prop
  | []=>fun _=>False
  | x :: _=>fun w=>Lang x w
end
def WF0 (r:Zd):Prop:=(r.f_Kind=1∨r.f_Kind=2∨r.f_Kind=3∨r.f_Kind=4)∧(r.f_Kind=4→r.f_L.length=1∧0≤r.f_Min∧r.f_Min≤20∧r.f_Max≤20∧(r.f_Max = -1∨r.f_Min≤r.f_Max))∧r.f_Set.length≤1000∧r.f_L.length≤1000
mutual
def WF:Zd→Prop
  | ⟨k,st,l,mn,mx⟩=>WF0 ⟨k,st,l,mn,mx⟩∧WFL l
def WFL:List Zd→Prop
  | []=>True
  | x :: l=>WF x∧WFL l
end
mutual
def cnt:Zd→Nat
  | ⟨k,st,l,mn,mx⟩=>if k=1 then 1 else if k=2 then cntL l else if k=3 then cntL l+1 else if mx<0 then (mn.toNat+1)*cntL l+1 else mx.toNat*cntL l+(mx-mn).toNat
def cntL:List Zd→Nat
  | []=>0
  | x :: l=>cnt x+cntL l
end
inductive Acc (N:List Zy):Nat→Nat→List Int→Prop
  | fin (n:Nat):Acc N n 0 []
  | set {n i:Nat} {x:Zy} {c:Int} {t:Nat} {w:List Int}:N[i]?=some x→x.f_some=true→inR x.f_set c→x.f_next=[(t:Int)]→Acc N n t w→Acc N (n+1) i (c :: w)
  | eps {n i:Nat} {x:Zy} {t:Nat} {w:List Int}:i≠0→N[i]?=some x→x.f_some=false→(t:Int)∈x.f_next→Acc N n t w→Acc N (n+1) i w
theorem Acc.mono {N:List Zy} {n i:Nat} {w:List Int} (h:Acc N n i w):∀{m:Nat},n≤m→Acc N m i w:=by
  induction h with
  | fin n=>exact fun _=>.fin _
  | set h1 h2 h3 h4 _ ih=>intro m hm;obtain ⟨m,rfl⟩:∃q,m=q+1:=⟨m-1,by omega⟩;exact .set h1 h2 h3 h4 (ih (by omega))
  | eps h0 h1 h2 h3 _ ih=>intro m hm;obtain ⟨m,rfl⟩:∃q,m=q+1:=⟨m-1,by omega⟩;exact .eps h0 h1 h2 h3 (ih (by omega))
theorem Acc.inv {N:List Zy} {n i:Nat} {w:List Int} (h:Acc N n i w):(i=0∧w=[])∨
    (∃m x c t v,n=m+1∧w=c :: v∧N[i]?=some x∧x.f_some=true∧inR x.f_set c∧x.f_next=[((t:Nat):Int)]∧Acc N m t v)∨
    (∃m x t,n=m+1∧i≠0∧N[i]?=some x∧x.f_some=false∧((t:Nat):Int)∈x.f_next∧Acc N m t w):=by
  cases h with
  | fin=>exact .inl ⟨rfl,rfl⟩
  | set h1 h2 h3 h4 h5=>exact .inr (.inl ⟨_,_,_,_,_,rfl,rfl,h1,h2,h3,h4,h5⟩)
  | eps h0 h1 h2 h3 h4=>exact .inr (.inr ⟨_,_,_,rfl,h0,h1,h2,h3,h4⟩)
def Good (n:Nat) (x:Zy):Prop:=x.f_x=false∧(∀t∈x.f_next,∃j:Nat,t=(j:Int)∧j<n)∧(x.f_some=true→∃t,x.f_next=[t])∧(x.f_some=false→x.f_set=[])∧x.f_next.length≤1000∧x.f_set.length≤1000
def Zff (a b:Nat) (N M:List Zy):Prop:=∀i,a≤i→i<b→M[i]?=N[i]?
structure ZcU (N N':List Zy) (f z:Nat) (P:List Int→Prop) (c:Nat):Prop where
  le:N.length≤N'.length
  cnt:N'.length≤N.length+c
  old:∀i,i<N.length→N'[i]?=N[i]?
  good:∀i x,N.length≤i→N'[i]?=some x→Good N'.length x
  lt:f<N'.length
  sound:∀M,Zff N.length N'.length N' M→∀n w,Acc M n f w→∃u v m,w=u ++ v∧P u∧m≤n∧Acc M m z v
  full:∀M,Zff N.length N'.length N' M→∀u v m,P u→Acc M m z v→∃n,Acc M n f (u ++ v)
theorem Good.mono {n m:Nat} {x:Zy} (h:Good n x) (hm:n≤m):Good m x:=
  ⟨h.1,fun t ht=>by obtain ⟨j,e,hj⟩:=h.2.1 t ht;exact ⟨j,e,Nat.lt_of_lt_of_le hj hm⟩,h.2.2⟩
theorem ZcU.refl {N:List Zy} {z:Nat} (h:z<N.length):ZcU N N z z (fun w=>w=[]) 0:=
  ⟨Nat.le_refl _,Nat.le_refl _,fun _ _=>rfl,fun i x hi hx=>by have:=(List.getElem?_eq_some_iff.1 hx).1;omega,h,fun M _ n w ha=>⟨[],w,n,rfl,rfl,Nat.le_refl _,ha⟩,
    fun M _ u v m hu ha=>by subst hu;exact ⟨m,ha⟩⟩
def Cat (P Q:List Int→Prop) (w:List Int):Prop:=∃u v,w=u ++ v∧P u∧Q v
theorem ZcU.comp {N N1 N2:List Zy} {f1 f2 z:Nat} {P Q:List Int→Prop} {c d:Nat} (h:ZcU N N1 f1 z P c) (g:ZcU N1 N2 f2 f1 Q d):ZcU N N2 f2 z (Cat Q P) (c+d):=by
  have ag:∀M,Zff N.length N2.length N2 M→Zff N.length N1.length N1 M∧Zff N1.length N2.length N2 M:=fun M hM=>
    ⟨fun i h1 h2=>by rw [hM i h1 (Nat.lt_of_lt_of_le h2 g.le),g.old i h2],fun i h1 h2=>hM i (Nat.le_trans h.le h1) h2⟩
  refine ⟨Nat.le_trans h.le g.le,by have:=h.cnt;have:=g.cnt;omega,fun i hi=>by rw [g.old i (Nat.lt_of_lt_of_le hi h.le),h.old i hi],fun i x hi hx=>?_,g.lt,fun M hM n w ha=>?_,fun M hM u v m hu ha=>?_⟩
  · rcases Nat.lt_or_ge i N1.length with hl | hl
    · rw [g.old i hl] at hx;exact (h.good i x hi hx).mono g.le
    · exact g.good i x hl hx
  · obtain ⟨a1,a2⟩:=ag M hM
    obtain ⟨u,v,m,rfl,hq,hm,hv⟩:=g.sound M a2 n w ha
    obtain ⟨u',v',m',rfl,hp,hm',hv'⟩:=h.sound M a1 m v hv
    exact ⟨u ++ u',v',m',(List.append_assoc ..).symm,⟨u,u',rfl,hq,hp⟩,Nat.le_trans hm' hm,hv'⟩
  · obtain ⟨a1,a2⟩:=ag M hM
    obtain ⟨p,q,rfl,hp,hq⟩:=hu
    obtain ⟨n1,h1⟩:=h.full M a1 q v m hq ha
    obtain ⟨n2,h2⟩:=g.full M a2 p (q ++ v) n1 hp h1
    exact ⟨n2,by rw [List.append_assoc];exact h2⟩
theorem ZcU.congr {N N':List Zy} {f z:Nat} {P Q:List Int→Prop} {c d:Nat} (h:ZcU N N' f z P c) (hq:∀w,P w↔Q w) (hd:c≤d):ZcU N N' f z Q d:=
  ⟨h.le,Nat.le_trans h.cnt (by omega),h.old,h.good,h.lt,fun M hM n w ha=>by obtain ⟨u,v,m,e,hu,r⟩:=h.sound M hM n w ha;exact ⟨u,v,m,e,(hq u).1 hu,r⟩,fun M hM u v m hu ha=>h.full M hM u v m ((hq u).2 hu) ha⟩
structure Side (N N':List Zy) (fs:List Int) (z:Nat) (P:List Int→Prop) (c:Nat):Prop where
  le:N.length≤N'.length
  cnt:N'.length≤N.length+c
  old:∀i,i<N.length→N'[i]?=N[i]?
  good:∀i x,N.length≤i→N'[i]?=some x→Good N'.length x
  lt:∀t∈fs,∃j:Nat,t=(j:Int)∧j<N'.length
  sound:∀M,Zff N.length N'.length N' M→∀n w (j:Nat),(j:Int)∈fs→Acc M n j w→∃u v m,w=u ++ v∧P u∧m≤n∧Acc M m z v
  full:∀M,Zff N.length N'.length N' M→∀u v m,P u→Acc M m z v→∃(j:Nat) (n:Nat),(j:Int)∈fs∧Acc M n j (u ++ v)
theorem Side.nil (N:List Zy) (z:Nat):Side N N [] z (fun _=>False) 0:=
  ⟨Nat.le_refl _,Nat.le_refl _,fun _ _=>rfl,fun i x hi hx=>by have:=(List.getElem?_eq_some_iff.1 hx).1;omega,fun _ h=>by simp at h,fun _ _ _ _ _ h=>by simp at h,fun _ _ _ _ _ h=>h.elim⟩
end Go.Proofs.YthilboheomikjaaGreatDoor
end
section
namespace Go.Proofs.YthilboheomikjaaGreatDoor
open Go.AL Go.Lib
set_option maxRecDepth 100000
theorem ZqU {P:List Int→Prop} (a b:Nat) (w:List Int):Cat (Pow P a) (Pow P b) w↔Pow P (a+b) w:=by
  induction a generalizing w with
  | zero=>
    rw [Nat.zero_add]
    exact ⟨fun ⟨u,v,e,hu,hv⟩=>by cases hu;subst e;exact hv,fun h=>⟨[],w,rfl,rfl,h⟩⟩
  | succ a ih=>
    rw [show a+1+b=(a+b)+1 by omega]
    constructor
    · rintro ⟨u,v,rfl,⟨u1,u2,rfl,h1,h2⟩,hv⟩
      exact ⟨u1,u2 ++ v,List.append_assoc ..,h1,(ih _).1 ⟨u2,v,rfl,h2,hv⟩⟩
    · rintro ⟨u,v,rfl,h1,h2⟩
      obtain ⟨v1,v2,rfl,h3,h4⟩:=(ih _).2 h2
      exact ⟨u ++ v1,v2,(List.append_assoc ..).symm,⟨u,v1,rfl,h1,h3⟩,h4⟩
theorem ZqW {l:List Zd} {x:Zd} (hw:WFL l) (h:x∈l):WF x:=by
  induction l with
  | nil=>cases h
  | cons y l ih=>
    rcases List.mem_cons.1 h with rfl | h
    · exact hw.1
    · exact ih hw.2 h
theorem Zhk (k:Int) (st:List Zb) (l:List Zd) (mn mx:Int) (w:List Int):Lang ⟨k,st,l,mn,mx⟩ w↔(k=1∧∃c,w=[c]∧inR st c)∨(k=2∧LSeq l w)∨(k=3∧LAlt l w)∨(k=4∧∃n:Nat,mn≤n∧(mx<0∨(n:Int)≤mx)∧Pow (LHd l) n w):=by rw [Lang]
theorem Zmm {x:Zd} {st:List Zb} {mn mx:Int} (w:List Int):Lang ⟨4,st,[x],mn,mx⟩ w↔∃n:Nat,mn≤n∧(mx<0∨(n:Int)≤mx)∧Pow (Lang x) n w:=by
  rw [Zhk]
  constructor
  · rintro (⟨h,_⟩ | ⟨h,_⟩ | ⟨h,_⟩ | ⟨_,h⟩)
    · cases h
    · cases h
    · cases h
    · exact h
  · exact fun h=>.inr (.inr (.inr ⟨rfl,h⟩))
end Go.Proofs.YthilboheomikjaaGreatDoor
end
section
namespace Go.Proofs.YthilboheomikjaaGreatDoor
open Go.AL Go.Lib
set_option maxRecDepth 100000
def Stop (N:List Zy) (i:Nat):Prop:=∃x,N[i]?=some x∧(x.f_some=true∨i=0)
def Eps (N:List Zy) (i:Nat) (x:Zy):Prop:=N[i]?=some x∧x.f_some=false∧i≠0
inductive Reach (N:List Zy):Nat→Nat→Prop
  | refl (i:Nat):Reach N i i
  | step {i t j:Nat} {x:Zy}:Eps N i x→(t:Int)∈x.f_next→Reach N t j→Reach N i j
def Sn (s:List Bool) (i:Nat):Prop:=s[i]?=some true
structure Zss (N:List Zy) (i:Nat) (s:List Bool) (o:List Int) (s':List Bool) (o':List Int):Prop where
  len:s'.length=s.length
  mono:∀j,Sn s j→Sn s' j
  here:Sn s' i
  new:∀j,Sn s' j→Sn s j∨Reach N i j
  out:∃d,o'=o ++ d∧∀t∈d,∃j:Nat,t=(j:Int)∧Stop N j∧Sn s' j∧Reach N i j
  stop:∀j,Sn s' j→¬Sn s j→Stop N j→(j:Int)∈o'
  eps:∀j,Sn s' j→¬Sn s j→∀x,Eps N j x→∀t∈x.f_next,∃q:Nat,t=(q:Int)∧Sn s' q
  size:o'.length+s'.count false≤o.length+s.count false
structure Mach (N:List Zy):Prop where
  good:∀(i:Nat) (x:Zy),N[i]?=some x→Good N.length x
  zero:∃x,N[0]?=some x∧x.f_some=false∧x.f_set=[]
  big:N.length≤536870912
end Go.Proofs.YthilboheomikjaaGreatDoor
end
section
namespace Go.Proofs.YthilboheomikjaaGreatDoor
open Go.AL
variable {μ:Int}
set_option maxRecDepth 100000
def Zoh (k:Nat) (e:(List Int)→Int→Option Bool) (v1:List UInt8) (c:Zt) (b:List Int) (a:Int):Option Bool:=
  (cond (decide (a<(v1.length:Int))) ((F55 k v1 a).bind fun d=>(F56 k c b d.1).bind fun f=>(e f (w64 (a+d.2)))) ((F57 k c b).bind fun g=>(some g)))
def Ziq (k:Nat) (v1:List UInt8) (a:Zt):Nat→(List Int)→Int→Option Bool
  | 0,_,_=>none
  | d+1,b,c=>Zoh k (Ziq k v1 a d) v1 a b c
def Zlg (k:Nat) (v0:Zd) (v1:List UInt8) (b:Bool):Option Bool:=
  cond b ((some false)) ((F53 k v0).bind fun a=>(F54 k a).bind fun c=>((Ziq k v1 a k c 0)))
def F31 (k:Nat) (v0:Zd) (v1:List UInt8):Option Bool:=
  (F30 k v0).bind fun a=>cond (!a) ((Zlg k v0 v1 true)) ((F49 k v1).bind fun b=>(Zlg k v0 v1 (!b)))
theorem ZaJ (k:Nat) (v0:Zd) (v1:List UInt8) (r:Bool) (a:F31 k v0 v1=some r):SM μ 31 [tv (Zc v0),one (.str v1)] [] (ob r) []:=by
 refine Zz [] Tryz.func31 rfl kr kr ?_
 show WA _ _ 42 _ _ _
 refine Ws [(0,.obj 102)] [(1,one (.str v1)),(2,pt 102)] [(102,bx (Zc v0))] ?_
 refine WA.seq ?_
 refine WA.join (fun w=>∃(p:Bool),J w [(1,one (.str v1)),(2,pt 102),(17,ob p)] [(102,bx (Zc v0))]∧Zlg k v0 v1 p=some r) ?_ ?_
 {
 rintro w ⟨p,v,a⟩
 refine Wj v ?_
 clear v
 refine WA.cond (b:=p) rfl (fun n=>?_) (fun n=>?_)
 {
 have a:=Zk a n
 refine Ws [] [(4,ob false)] [] ?_
 refine WA.ret ?_
 obtain rfl:=zj_ a
 exact Zo (ob false) [] kr kr kr kr nd rfl rfl }
 {
 have a:=Zj a n
 refine WA.skip ?_
 obtain ⟨c,y,a⟩:=Zh a
 refine Wos [(1,.callR [] (.val false [.vp (Zu c)]))] [(1,one (.str v1)),(5,.val false [.vp (Zu c)])] [] [SM μ 53 [tv (Zc v0)] [] (.val false [.vp (Zu c)]) [],([]:List Nat).Nodup] ⟨(ZrB k _ _ y),nd,trivial⟩ ?_
 obtain ⟨j,z,a⟩:=Zh a
 refine Wos [(1,.callR [] (one (.sl (j.map (eInt .i64)))))] [(1,one (.str v1)),(5,.val false [.vp (Zu c)]),(6,one (.sl (j.map (eInt .i64))))] [] [SM μ 54 [.val false [.vp (Zu c)]] [] (one (.sl (j.map (eInt .i64)))) [],([]:List Nat).Nodup] ⟨(ZrC k _ _ z),nd,trivial⟩ ?_
 refine WA.seq ?_
 refine Ws [] [(1,one (.str v1)),(5,.val false [.vp (Zu c)]),(6,one (.sl (j.map (eInt .i64)))),(7,oi 0)] [] ?_
 refine WA.block ?_
 refine WA.loop (fun m w=>∃(f:List Int) (d:Int),J w [(1,one (.str v1)),(5,.val false [.vp (Zu c)]),(6,one (.sl (f.map (eInt .i64)))),(7,oi d)] []∧Ziq k v1 c m f d=some r) k ⟨j,0,jk,a⟩ ?_
 clear a
 rintro m1 w ⟨f,d,v,a⟩
 refine Wj v ?_
 clear v
 cases m1 with
 | zero=>cases a
 | succ m1=>
  obtain ⟨a3,t⟩:∃g,g=Ziq k v1 c m1:=⟨_,rfl⟩
  have a:Zoh k a3 v1 c f d=some r:=by first | (rw [t];exact a) | exact a
  refine WA.seq ?_
  refine Ws [] [(1,one (.str v1)),(5,.val false [.vp (Zu c)]),(6,one (.sl (f.map (eInt .i64)))),(7,oi d),(25,ob (decide (d<(v1.length:Int))))] [] ?_
  refine WA.cond (b:=(decide (d<(v1.length:Int)))) rfl (fun o=>?_) (fun o=>?_)
  {
 have a:=Zk a o
 refine WA.skip ?_
 refine WA.block ?_
 obtain ⟨e,a0,a⟩:=Zh a
 refine Wos [(2,.callR [] (.tup [(false,[.pv (.int .i64 e.1)]),(false,[.pv (.int .i64 e.2)])]))] [(1,one (.str v1)),(5,.val false [.vp (Zu c)]),(6,one (.sl (f.map (eInt .i64)))),(7,oi d),(8,oi e.1),(9,oi e.2)] [] [SM μ 55 [one (.str v1),oi d] [] (.tup [(false,[.pv (.int .i64 e.1)]),(false,[.pv (.int .i64 e.2)])]) [],([]:List Nat).Nodup] ⟨(Zls k _ _ _ a0),nd,trivial⟩ ?_
 obtain ⟨l,a1,a⟩:=Zh a
 refine Wos [(3,.callR [] (one (.sl (l.map (eInt .i64)))))] [(1,one (.str v1)),(5,.val false [.vp (Zu c)]),(6,one (.sl (l.map (eInt .i64)))),(7,oi d),(9,oi e.2)] [] [SM μ 56 [.val false [.vp (Zu c)],one (.sl (f.map (eInt .i64))),oi e.1] [] (one (.sl (l.map (eInt .i64)))) [],([]:List Nat).Nodup] ⟨(ZrD k _ _ _ _ a1),nd,trivial⟩ ?_
 refine Wr [] [(1,one (.str v1)),(5,.val false [.vp (Zu c)]),(6,one (.sl (l.map (eInt .i64)))),(7,oi (w64 (d+e.2)))] [] ?_
 exact ⟨m1,zl_ _,l,(w64 (d+e.2)),jk,by rw [t] at a;exact a⟩ }
  {
 have a:=Zj a o
 refine WA.exit ?_
 obtain ⟨s,a2,a⟩:=Zh a
 refine Wos [(2,.callR [] (ob s))] [(4,ob s)] [] [SM μ 57 [.val false [.vp (Zu c)],one (.sl (f.map (eInt .i64)))] [] (ob s) [],([]:List Nat).Nodup] ⟨(ZrE k _ _ _ a2),nd,trivial⟩ ?_
 refine WA.ret ?_
 obtain rfl:=zj_ a
 exact Zo (ob s) [] kr kr kr kr nd rfl rfl } } }
 {
 obtain ⟨h,u,a⟩:=Zh a
 rcases zo_ (!h) with i | i
 {
 have a:=Zk a i
 refine Wo [(1,.callR [] (ob h)),(3,.bool true)] [(1,one (.str v1)),(2,pt 102),(17,ob true)] [(102,bx (Zc v0))] [SM μ 30 [tv (Zc v0)] [] (ob h) [],([]:List Nat).Nodup,(!h)=true] ⟨(Zlf k _ _ u),nd,i,trivial⟩ ?_
 exact ⟨true,jk,a⟩ }
 {
 have a:=Zj a i
 obtain ⟨q,x,a⟩:=Zh a
 refine Wo [(1,.callR [] (ob h)),(3,.bool false),(5,.callR [] (ob q))] [(1,one (.str v1)),(2,pt 102),(17,ob (!q))] [(102,bx (Zc v0))] [SM μ 30 [tv (Zc v0)] [] (ob h) [],([]:List Nat).Nodup,(!h)=false,SM μ 49 [one (.str v1)] [] (ob q) [],([]:List Nat).Nodup] ⟨(Zlf k _ _ u),nd,i,(ZiF k _ _ x),nd,trivial⟩ ?_
 exact ⟨(!q),jk,a⟩ } }
end Go.Proofs.YthilboheomikjaaGreatDoor
end
section
namespace Go.Proofs.YthilboheomikjaaGreatDoor
open Go.AL Go.Lib
set_option maxRecDepth 100000
structure Zqg (N:List Zy) (T:Nat→Prop) (s:List Bool) (o:List Int):Prop where
  len:s.length=N.length
  root:∀t,T t→Sn s t
  new:∀j,Sn s j→∃t,T t∧Reach N t j
  out:∀t∈o,∃j:Nat,t=(j:Int)∧Stop N j∧∃r,T r∧Reach N r j
  stop:∀j,Sn s j→Stop N j→(j:Int)∈o
  eps:∀j,Sn s j→∀x,Eps N j x→∀t∈x.f_next,∃q:Nat,t=(q:Int)∧Sn s q
  size:o.length+s.count false≤N.length
theorem ZjD (n j:Nat):¬Sn (List.replicate n false) j:=by
  unfold Sn
  rw [List.getElem?_replicate];split <;> simp
theorem Zqg.nil (N:List Zy):Zqg N (fun _=>False) (List.replicate N.length false) []:=
  ⟨by simp,fun _ h=>h.elim,fun j h=>absurd h (ZjD _ _),fun _ h=>by simp at h,fun j h=>absurd h (ZjD _ _),fun j h=>absurd h (ZjD _ _),by simp⟩
theorem Reach.acc {N:List Zy} {i j:Nat} (h:Reach N i j) {n:Nat} {w:List Int} (ha:Acc N n j w):∃m,Acc N m i w:=by
  induction h with
  | refl i=>exact ⟨n,ha⟩
  | step hE ht _ ih=>obtain ⟨m,hm⟩:=ih ha;exact ⟨m+1,.eps hE.2.2 hE.1 hE.2.1 ht hm⟩
theorem Stop.lt {N:List Zy} {j:Nat} (h:Stop N j):j<N.length:=by
  obtain ⟨x,hx,_⟩:=h;exact (List.getElem?_eq_some_iff.1 hx).1
end Go.Proofs.YthilboheomikjaaGreatDoor
end
section
namespace Go.Proofs.YthilboheomikjaaGreatDoor
open Go.AL Go.Lib
set_option maxRecDepth 100000
theorem Zpz:((List.range 256).all fun y=>ZB .and .u8 (y:Int) 192 == ((y / 64*64:Nat):Int) && ZB .and .u8 (y:Int) 63 == ((y % 64:Nat):Int) && ZB .and .i64 (w64 (y:Int)) 31 == ((y % 32:Nat):Int) &&
    ZB .and .i64 (w64 (y:Int)) 15 == ((y % 16:Nat):Int) && ZB .and .i64 (w64 (y:Int)) 7 == ((y % 8:Nat):Int) && w64 (y:Int) == (y:Int) && w64 ((y % 64:Nat):Int) == ((y % 64:Nat):Int))=true:=by kernel_rfl
theorem ZlH {y:Nat} (h:y<256):ZB .and .u8 (y:Int) 192=((y / 64*64:Nat):Int)∧ZB .and .u8 (y:Int) 63=((y % 64:Nat):Int)∧ZB .and .i64 (w64 (y:Int)) 31=((y % 32:Nat):Int)∧
    ZB .and .i64 (w64 (y:Int)) 15=((y % 16:Nat):Int)∧ZB .and .i64 (w64 (y:Int)) 7=((y % 8:Nat):Int)∧w64 (y:Int)=(y:Int)∧w64 ((y % 64:Nat):Int)=((y % 64:Nat):Int):=by
  have:=List.all_eq_true.1 Zpz y (List.mem_range.2 h)
  simp only [Bool.and_eq_true,beq_iff_eq] at this
  obtain ⟨⟨⟨⟨⟨⟨a,b⟩,c⟩,d⟩,e⟩,f⟩,g⟩:=this
  exact ⟨a,b,c,d,e,f,g⟩
theorem Zku {s:List UInt8} {i j:Nat} (h:i+j<s.length):idxL s ((i:Int)+(j:Int))=some ((s.drop i).getD j 0):=by
  rw [show (i:Int)+(j:Int)=((i+j:Nat):Int) by omega,Zx]
  simp [List.getD,List.getElem?_drop,List.getElem?_eq_getElem h]
theorem Zlu (k:Nat) (c:Int):F67 k c=some (decide (ZC c)):=by
  unfold F67 ZeV ZC
  by_cases h1:c≥0 <;> by_cases h2:c≤1114111 <;> by_cases h3:c<55296 <;> by_cases h4:c > 57343 <;> simp [h1,h2,h3,h4] <;> omega
theorem Zdr {k:Nat} {s:List UInt8} {i size:Nat} {least:Int} {m:Nat} {c:Int} {j:Nat} (hj:j<size) (hs:size≤4) (hb:i+size≤s.length) (hc:0≤c) (hc2:c<1048576) (hl:s.length≤4611686018427387904) :
    ZcH k s i size least (m+1) c j=if ((s.drop i).getD j 0).toNat / 64=2 then ZcH k s i size least m (c*64+((((s.drop i).getD j 0).toNat % 64:Nat):Int)) ((j+1:Nat):Int) else some (-1,1):=by
  have hy:=Ze3 (s.drop i) j
  obtain ⟨e1,e2,_,_,_,_,e7⟩:=ZlH hy
  show ZeN _ _ _ _ _ _ _ _=_
  unfold ZeN
  rw [dt (by omega),Zv (x:=(i:Int)+(j:Int)) (by omega) (by omega),Zku (by omega)]
  simp only [cond,zb_]
  generalize ((s.drop i).getD j 0).toNat=y at *
  rw [e1,e2,e7]
  by_cases h:y / 64=2
  · rw [if_pos h,h,show (((2*64:Nat):Int) != 128)=false from rfl]
    simp only []
    rw [Zv (x:=c*64) (by omega) (by omega),Zv (by omega) (by omega),Zv (by omega) (by omega)]
    rfl
  · have:(((y / 64*64:Nat):Int) != 128)=true:=by rw [bne_iff_ne];omega
    rw [this,if_neg h]
theorem Zl0 {k:Nat} {s:List UInt8} {i size:Nat} {least:Int} {m:Nat} {c:Int}:ZcH k s i size least (m+1) c size=if c<least∨¬ZC c then some (-1,1) else some (c,(size:Int)):=by
  show ZeN _ _ _ _ _ _ _ _=_
  unfold ZeN ZiD
  rw [df (by omega)]
  simp only [cond,Zlu,zb_]
  by_cases h:c<least
  · rw [dt h,if_pos (.inl h)]
  · rw [df h]
    by_cases hp:ZC c
    · rw [dt hp,if_neg (by simp [h,hp])];rfl
    · rw [df hp,if_pos (.inr hp)];rfl
theorem nxtN (l:List UInt8):nxt l=if (decodeN l.length (l.getD 0 0).toNat (l.getD 1 0).toNat (l.getD 2 0).toNat (l.getD 3 0).toNat)=((65533,1):Nat×Nat) then ((-1,1):Int×Int) else
    (((decodeN l.length (l.getD 0 0).toNat (l.getD 1 0).toNat (l.getD 2 0).toNat (l.getD 3 0).toNat).1:Int),((decodeN l.length (l.getD 0 0).toNat (l.getD 1 0).toNat (l.getD 2 0).toNat (l.getD 3 0).toNat).2:Int)):=by
  unfold nxt
  rw [←decodeL_N]
  have:bad l↔decodeL l=(65533,1):=⟨fun ⟨a,b⟩=>Prod.ext a b,fun h=>⟨by rw [h],by rw [h]⟩⟩
  by_cases h:decodeL l=(65533,1)
  · rw [if_pos h,if_pos (this.2 h)]
  · rw [if_neg h,if_neg (fun q=>h (this.1 q))]
theorem Zh2 {k:Nat} {s:List UInt8} {i size:Nat} {c least:Int} (h:s.length<i+size) (hl:s.length≤4611686018427387904) (hi:i<s.length) (hsz:size≤4):Zbt k s i c size least=some (-1,1):=by
  unfold Zbt
  rw [Zv (by omega) (by omega),dt (by omega)];rfl
theorem Zka {k:Nat} {s:List UInt8} {i size:Nat} {c least:Int} (h:i+size≤s.length) (hl:s.length≤4611686018427387904):Zbt k s i c size least=ZcH k s i size least k c 1:=by
  unfold Zbt
  rw [Zv (by omega) (by omega),df (by omega)];rfl
def fin (D:Int) (least:Int) (size:Int):Option (Int×Int):=if D<least∨¬ZC D then some (-1,1) else some (D,size)
theorem j4_2 {k:Nat} {s:List UInt8} {i:Nat} {c least:Int} (hc:0≤c) (hc2:c<32) (hl:s.length≤4611686018427387904) (hi:i<s.length) :
    Zbt (k+5) s i c 2 least=if 1<s.length-i∧((s.drop i).getD 1 0).toNat / 64=2 then fin (c*64+((((s.drop i).getD 1 0).toNat % 64:Nat):Int)) least 2 else some (-1,1):=by
  by_cases l1:i+2≤s.length
  · refine (Zka (size:=2) l1 hl).trans ((Zdr (size:=2) (j:=1) (m:=k+4) (by omega) (by omega) l1 hc (by omega) hl).trans ?_)
    by_cases c1:((s.drop i).getD 1 0).toNat / 64=2
    · rw [if_pos c1,if_pos ⟨by omega,c1⟩];exact Zl0
    · rw [if_neg c1,if_neg (fun h=>c1 h.2)]
  · rw [if_neg (fun h=>by omega)];exact Zh2 (size:=2) (by omega) hl hi (by omega)
theorem j4_3 {k:Nat} {s:List UInt8} {i:Nat} {c least:Int} (hc:0≤c) (hc2:c<32) (hl:s.length≤4611686018427387904) (hi:i<s.length) :
    Zbt (k+5) s i c 3 least=if (1<s.length-i∧((s.drop i).getD 1 0).toNat / 64=2)∧(2<s.length-i∧((s.drop i).getD 2 0).toNat / 64=2) then
      fin ((c*64+((((s.drop i).getD 1 0).toNat % 64:Nat):Int))*64+((((s.drop i).getD 2 0).toNat % 64:Nat):Int)) least 3 else some (-1,1):=by
  by_cases l1:i+3≤s.length
  · refine (Zka (size:=3) l1 hl).trans ((Zdr (size:=3) (j:=1) (m:=k+4) (by omega) (by omega) l1 hc (by omega) hl).trans ?_)
    by_cases c1:((s.drop i).getD 1 0).toNat / 64=2
    · rw [if_pos c1]
      refine (Zdr (size:=3) (j:=2) (m:=k+3) (by omega) (by omega) l1 (by omega) (by omega) hl).trans ?_
      by_cases c2:((s.drop i).getD 2 0).toNat / 64=2
      · rw [if_pos c2,if_pos ⟨⟨by omega,c1⟩,by omega,c2⟩];exact Zl0
      · rw [if_neg c2,if_neg (fun h=>c2 h.2.2)]
    · rw [if_neg c1,if_neg (fun h=>c1 h.1.2)]
  · rw [if_neg (fun h=>by omega)];exact Zh2 (size:=3) (by omega) hl hi (by omega)
theorem j4_4 {k:Nat} {s:List UInt8} {i:Nat} {c least:Int} (hc:0≤c) (hc2:c<16) (hl:s.length≤4611686018427387904) (hi:i<s.length) :
    Zbt (k+5) s i c 4 least=if (1<s.length-i∧((s.drop i).getD 1 0).toNat / 64=2)∧(2<s.length-i∧((s.drop i).getD 2 0).toNat / 64=2)∧(3<s.length-i∧((s.drop i).getD 3 0).toNat / 64=2) then
      fin (((c*64+((((s.drop i).getD 1 0).toNat % 64:Nat):Int))*64+((((s.drop i).getD 2 0).toNat % 64:Nat):Int))*64+((((s.drop i).getD 3 0).toNat % 64:Nat):Int)) least 4 else some (-1,1):=by
  by_cases l1:i+4≤s.length
  · refine (Zka (size:=4) l1 hl).trans ((Zdr (size:=4) (j:=1) (m:=k+4) (by omega) (by omega) l1 hc (by omega) hl).trans ?_)
    by_cases c1:((s.drop i).getD 1 0).toNat / 64=2
    · rw [if_pos c1]
      refine (Zdr (size:=4) (j:=2) (m:=k+3) (by omega) (by omega) l1 (by omega) (by omega) hl).trans ?_
      by_cases c2:((s.drop i).getD 2 0).toNat / 64=2
      · rw [if_pos c2]
        refine (Zdr (size:=4) (j:=3) (m:=k+2) (by omega) (by omega) l1 (by omega) (by omega) hl).trans ?_
        by_cases c3:((s.drop i).getD 3 0).toNat / 64=2
        · rw [if_pos c3,if_pos ⟨⟨by omega,c1⟩,⟨by omega,c2⟩,by omega,c3⟩];exact Zl0
        · rw [if_neg c3,if_neg (fun h=>c3 h.2.2.2)]
      · rw [if_neg c2,if_neg (fun h=>c2 h.2.1.2)]
    · rw [if_neg c1,if_neg (fun h=>c1 h.1.2)]
  · rw [if_neg (fun h=>by omega)];exact Zh2 (size:=4) (by omega) hl hi (by omega)
set_option maxHeartbeats 1000000 in
theorem Ziz {k:Nat} {s:List UInt8} {i:Nat} (hk:5≤k) (hi:i<s.length) (hs:s.length≤4611686018427387904):F46 k s (i:Int)=some (nxt (s.drop i)):=by
  obtain ⟨k,rfl⟩:∃q,k=q+5:=⟨k-5,by omega⟩
  have h0:=Ze3 (s.drop i) 0;have h1:=Ze3 (s.drop i) 1;have h2:=Ze3 (s.drop i) 2;have h3:=Ze3 (s.drop i) 3
  obtain ⟨_,_,e3,e4,e5,e6,_⟩:=ZlH h0
  have hn:(s.drop i).length=s.length-i:=List.length_drop ..
  have d0:=Zku (s:=s) (i:=i) (j:=0) (by omega)
  rw [show (i:Int)+((0:Nat):Int)=(i:Int) by omega] at d0
  rw [nxtN]
  unfold F46 Zf1
  rw [df (by omega),df (by omega)]
  simp only [cond]
  rw [d0]
  simp only [zb_]
  unfold ZiA ZiB ZiC
  rw [e3,e4,e5,e6,j4_2 (by omega) (by omega) hs hi,j4_3 (by omega) (by omega) hs hi,j4_4 (by omega) (by omega) hs hi]
  rw [hn]
  generalize ((s.drop i).getD 0 0).toNat=b0 at *
  generalize ((s.drop i).getD 1 0).toNat=b1 at *
  generalize ((s.drop i).getD 2 0).toNat=b2 at *
  generalize ((s.drop i).getD 3 0).toNat=b3 at *
  generalize s.length-i=n at *
  clear e3 e4 e5 e6 d0 hn
  have bad_:∀{x:Option (Int×Int)} {D:Nat×Nat},D=(65533,1)→x=some (-1,1)→x=some (if D=((65533,1):Nat×Nat) then ((-1,1):Int×Int) else ((D.1:Int),(D.2:Int))):=fun h h'=>by rw [h',if_pos h]
  have good_:∀{x:Option (Int×Int)} {D:Nat×Nat} {a b:Nat},D=(a,b)→b≠1→x=some ((a:Int),(b:Int))→x=some (if D=((65533,1):Nat×Nat) then ((-1,1):Int×Int) else ((D.1:Int),(D.2:Int))):=fun h hb h'=>by
    rw [h',h,if_neg (fun q=>hb (Prod.ext_iff.1 q).2)]
  by_cases g0:b0<128
  · rw [dt (show ((b0:Nat):Int)<128 by omega)]
    have u:decodeN n b0 b1 b2 b3=(b0,1):=by unfold decodeN;rw [if_pos g0]
    rw [u,if_neg (show ¬((b0,1):Nat×Nat)=(65533,1) from fun h=>by have:=(Prod.ext_iff.1 h).1;simp only [] at this;omega)];rfl
  rw [df (show ¬((b0:Nat):Int)<128 by omega)]
  by_cases g1:b0<192
  · rw [df (show ¬((b0:Nat):Int)≥192 by omega),df (show ¬((b0:Nat):Int)≥224 by omega),df (show ¬((b0:Nat):Int)≥240 by omega)]
    exact bad_ (decodeN_bad _ _ _ _ _ (.inl ⟨by omega,by omega⟩)) rfl
  rw [dt (show ((b0:Nat):Int)≥192 by omega)]
  by_cases g2:b0<224
  · rw [dt (show ((b0:Nat):Int)<224 by omega)]
    show (if _ then _ else _)=_
    by_cases c1:1<n∧b1 / 64=2
    · rw [if_pos c1]
      unfold fin
      by_cases c2:b0 % 32*64+b1 % 64≥128
      · refine good_ (a:=b0 % 32*64+b1 % 64) (b:=2) ?_ (by omega) ?_
        · unfold decodeN;rw [if_neg g0,if_pos ⟨by omega,c1⟩,if_pos c2]
        · rw [if_neg (by unfold ZC;omega)];rfl
      · refine bad_ ?_ ?_
        · unfold decodeN;rw [if_neg g0,if_pos ⟨by omega,c1⟩,if_neg c2]
        · rw [if_pos (.inl (by omega))]
    · rw [if_neg c1]
      refine bad_ ?_ rfl
      unfold decodeN;rw [if_neg g0,if_neg (fun h=>c1 h.2),if_neg (fun h=>by omega),if_neg (fun h=>by omega)]
  rw [df (show ¬((b0:Nat):Int)<224 by omega),dt (show ((b0:Nat):Int)≥224 by omega)]
  by_cases g3:b0<240
  · rw [dt (show ((b0:Nat):Int)<240 by omega)]
    show (if _ then _ else _)=_
    by_cases c1:(1<n∧b1 / 64=2)∧(2<n∧b2 / 64=2)
    · rw [if_pos c1]
      unfold fin
      by_cases c2:b0 % 16*4096+b1 % 64*64+b2 % 64≥2048∧(b0 % 16*4096+b1 % 64*64+b2 % 64<55296∨(57344≤b0 % 16*4096+b1 % 64*64+b2 % 64∧b0 % 16*4096+b1 % 64*64+b2 % 64≤1114111))
      · refine good_ (a:=b0 % 16*4096+b1 % 64*64+b2 % 64) (b:=3) ?_ (by omega) ?_
        · unfold decodeN;rw [if_neg g0,if_neg (fun h=>by omega),if_pos ⟨by omega,c1⟩,if_pos c2]
        · rw [if_neg (by unfold ZC;omega)];congr 2;omega
      · refine bad_ ?_ ?_
        · unfold decodeN;rw [if_neg g0,if_neg (fun h=>by omega),if_pos ⟨by omega,c1⟩,if_neg c2]
        · rw [if_pos (by unfold ZC;omega)]
    · rw [if_neg c1]
      refine bad_ ?_ rfl
      unfold decodeN;rw [if_neg g0,if_neg (fun h=>by omega),if_neg (fun h=>c1 h.2),if_neg (fun h=>by omega)]
  rw [df (show ¬((b0:Nat):Int)<240 by omega),dt (show ((b0:Nat):Int)≥240 by omega)]
  by_cases g4:b0<248
  · rw [dt (show ((b0:Nat):Int)<248 by omega)]
    show (if _ then _ else _)=_
    by_cases c1:(1<n∧b1 / 64=2)∧(2<n∧b2 / 64=2)∧(3<n∧b3 / 64=2)
    · rw [if_pos c1]
      unfold fin
      by_cases c2:b0 % 8*262144+b1 % 64*4096+b2 % 64*64+b3 % 64≥65536∧(b0 % 8*262144+b1 % 64*4096+b2 % 64*64+b3 % 64<55296∨(57344≤b0 % 8*262144+b1 % 64*4096+b2 % 64*64+b3 % 64∧b0 % 8*262144+b1 % 64*4096+b2 % 64*64+b3 % 64≤1114111))
      · refine good_ (a:=b0 % 8*262144+b1 % 64*4096+b2 % 64*64+b3 % 64) (b:=4) ?_ (by omega) ?_
        · unfold decodeN;rw [if_neg g0,if_neg (fun h=>by omega),if_neg (fun h=>by omega),if_pos ⟨by omega,c1⟩,if_pos c2]
        · rw [if_neg (by unfold ZC;omega)];congr 2;omega
      · refine bad_ ?_ ?_
        · unfold decodeN;rw [if_neg g0,if_neg (fun h=>by omega),if_neg (fun h=>by omega),if_pos ⟨by omega,c1⟩,if_neg c2]
        · rw [if_pos (by unfold ZC;omega)]
    · rw [if_neg c1]
      refine bad_ ?_ rfl
      unfold decodeN;rw [if_neg g0,if_neg (fun h=>by omega),if_neg (fun h=>by omega),if_neg (fun h=>c1 h.2)]
  · rw [df (show ¬((b0:Nat):Int)<248 by omega)]
    exact bad_ (decodeN_bad _ _ _ _ _ (.inr ⟨by omega,by omega⟩)) rfl
theorem Zld {k:Nat} {s:List UInt8} (hk:5≤k) (hs:s.length≤4611686018427387904):∀(m i:Nat),i≤s.length→s.length-i<m→ZfU k s m (i:Int)=some (validD (s.drop i))
  | 0,i,_,h=>by omega
  | m+1,i,hi,h=>by
    show Zin _ _ _ _=_
    unfold Zin
    rcases Nat.lt_or_ge i s.length with hl | hl
    · have hne:s.drop i≠[]:=fun h=>by have:=congrArg List.length h;rw [List.length_drop] at this;simp at this;omega
      have hle:=decodeL_le _ hne
      rw [List.length_drop] at hle
      have hw:=decodeL_width (s.drop i)
      rw [dt (by omega),Ziz hk hl hs]
      simp only [cond,zb_]
      unfold nxt
      by_cases hb:bad (s.drop i)
      · rw [if_pos hb,Zph hne hb];rfl
      · rw [if_neg hb,ZcZ hne hb,df (by simp only [];omega)]
        (try dsimp only)
        rw [Zv (by omega) (by omega),show (i:Int)+((decodeL (s.drop i)).2:Nat)=((i+(decodeL (s.drop i)).2:Nat):Int) by omega,Zld hk hs m _ (by omega) (by omega),List.drop_drop]
    · have:s.drop i=[]:=List.drop_eq_nil_of_le hl
      rw [df (by omega),this,validD_nil];rfl
theorem Zlc {k:Nat} {s:List UInt8} (hk:5≤k) (hk2:s.length<k) (hs:s.length≤4611686018427387904):F25 k s=some (validD s):=by
  unfold F25
  exact Zld hk hs k 0 (Nat.zero_le _) (by omega)
end Go.Proofs.YthilboheomikjaaGreatDoor
end
section
namespace Go.Proofs.YthilboheomikjaaGreatDoor
open Go.AL Go.Lib
set_option maxRecDepth 100000
theorem Zk7 {α:Type} (a:α) (l:List α):idxL (a :: l) 0=some a:=rfl
theorem ZkB (m:Nat) (l acc:List Zb):Zcc l (m+1) acc (l.length:Int)=some acc:=by
  show ZcM _ _ _ _=_
  unfold ZcM
  rw [df (by omega)]
  rfl
theorem mx_l {a b:Int} (h:b≤a):mx a b=a:=by unfold mx;rw [if_neg (by omega)]
theorem mx_r {a b:Int} (h:a≤b):mx a b=b:=by unfold mx;split <;> omega
theorem mn_l {a b:Int} (h:a≤b):mn a b=a:=by unfold mn;rw [if_neg (by omega)]
def ptsR:List Zb:=[⟨0,55295⟩,⟨57344,1114111⟩]
theorem Zlt (k:Nat):F59 k=some ptsR:=rfl
end Go.Proofs.YthilboheomikjaaGreatDoor
end
section
namespace Go.Proofs.YthilboheomikjaaGreatDoor
open Go.AL Go.Lib
set_option maxRecDepth 100000
theorem ZA {α:Type} {y l:List α} {i:Nat} {r:α} (h:y.drop i=r :: l):i<y.length∧y[i]?=some r∧y.drop (i+1)=l:=by
  have h1:i<y.length:=by
    refine Nat.lt_of_not_le fun h2=>?_
    rw [List.drop_eq_nil_of_le h2] at h
    cases h
  rw [List.drop_eq_getElem_cons h1] at h
  injection h with h2 h3
  exact ⟨h1,by rw [List.getElem?_eq_getElem h1,h2],h3⟩
theorem ZP {α:Type} {y:List α} {i:Nat} (h:y.drop i=[]):y.length≤i:=List.drop_eq_nil_iff.1 h
theorem ZR {i:Nat} (h:i≤4611686018427387904):w64 ((i:Int)+1)=((i+1:Nat):Int):=by rw [Zv (by omega) (by omega)];omega
def mrg:Zb→List Zb→List Zb
  | p,[]=>[p]
  | p,r :: l=>if r.f_Lo≤w64 (p.f_Hi+1) then mrg { p with f_Hi:=mx p.f_Hi r.f_Hi } l else p :: mrg r l
def mrgs:List Zb→List Zb
  | []=>[]
  | r :: l=>mrg r l
theorem Zkc:∀(l:List Zb) (p:Zb),(mrg p l).length≤l.length+1
  | [],p=>Nat.le_refl _
  | r :: l,p=>by
    unfold mrg
    split
    · have:=Zkc l { p with f_Hi:=mx p.f_Hi r.f_Hi };rw [List.length_cons];omega
    · have:=Zkc l r;rw [List.length_cons,List.length_cons];omega
theorem Zh6 (l:List Zb):(mrgs l).length≤l.length:=by
  cases l with
  | nil=>exact Nat.le_refl _
  | cons r l=>exact Zkc l r
theorem Zfz {y:List Zb} (hy:y.length≤1073741824):∀(l acc:List Zb) (p:Zb) (i m:Nat),y.drop i=l→acc.length+1+l.length≤1073741824→l.length<m→i≤y.length→
    Zcc y m (acc ++ [p]) (i:Int)=some (acc ++ mrg p l)
  | [],acc,p,i,m,hd,ha,hm,hi=>by
    obtain ⟨m,rfl⟩:∃q,m=q+1:=⟨m-1,by simp at hm;omega⟩
    have:=ZP hd
    rw [show (i:Int)=(y.length:Int) by omega]
    exact ZkB m y _
  | r :: l,acc,p,i,m,hd,ha,hm,hi=>by
    obtain ⟨m,rfl⟩:∃q,m=q+1:=⟨m-1,by omega⟩
    obtain ⟨h1,h2,h3⟩:=ZA hd
    rw [List.length_cons] at ha hm
    have hl:(acc ++ [p]).length=acc.length+1:=by simp
    have ew:w64 (((acc ++ [p]).length:Int)-1)=(acc.length:Int):=by rw [hl,Zv (by omega) (by omega)];omega
    have el:idxL (acc ++ [p]) (acc.length:Int)=some p:=by rw [Zx];simp
    show ZcM (Zcc y m) y _ _=_
    unfold ZcM
    rw [dt (by omega),zt_,Zx,h2,zb_,dt (by omega),zt_,ew,if_pos ⟨by omega,by omega⟩,el,zb_]
    unfold Zf8
    rw [ew]
    by_cases hc:r.f_Lo≤w64 (p.f_Hi+1)
    · rw [dt hc,zt_,if_pos ⟨by omega,by omega⟩,el,zb_,if_pos ⟨by omega,by omega⟩,zb_]
      unfold Ze2
      rw [ZR (by omega)]
      have es:(acc ++ [p]).set (Int.toNat (acc.length:Int)) { p with f_Hi:=mx p.f_Hi r.f_Hi } = acc ++ [{ p with f_Hi:=mx p.f_Hi r.f_Hi }]:=by
        rw [Int.toNat_natCast,List.set_append_right (h:=Nat.le_refl _),Nat.sub_self];rfl
      rw [es,Zfz hy l acc _ (i+1) m h3 (by omega) (by omega) (by omega)]
      conv=>rhs;unfold mrg
      rw [if_pos hc]
    · rw [df hc,zf_,if_pos (by rw [hl];simp;omega)]
      unfold Ze2
      rw [ZR (by omega),Zfz hy l (acc ++ [p]) r (i+1) m h3 (by rw [hl];omega) (by omega) (by omega)]
      conv=>rhs;unfold mrg
      rw [if_neg hc,List.append_assoc]
      rfl
theorem ZoV {y:List Zb} {k:Nat} (hy:y.length≤1073741824) (hk:y.length<k):Zcc y k [] 0=some (mrgs y):=by
  cases y with
  | nil=>
    obtain ⟨m,rfl⟩:∃q,k=q+1:=⟨k-1,by omega⟩
    exact ZkB m [] []
  | cons r l=>
    obtain ⟨m,rfl⟩:∃q,k=q+1:=⟨k-1,by omega⟩
    rw [List.length_cons] at hy hk
    show ZcM (Zcc (r :: l) m) (r :: l) _ _=_
    unfold ZcM
    rw [dt (by simp),zt_,Zk7,zb_,df (by simp),zf_]
    unfold Zf8
    rw [zf_,if_pos (by simp)]
    unfold Ze2
    have e1:w64 ((0:Int)+1)=((1:Nat):Int):=by rw [Zv (by omega) (by omega)];rfl
    rw [e1]
    have:=Zfz (y:=r :: l) (by rw [List.length_cons];exact hy) l [] r 1 m rfl (by simp;omega) (by omega) (by simp)
    rw [List.nil_append] at this ⊢
    exact this
theorem Zl7 {k:Nat} {l:List Zb} (hl:l.length≤536870912) (hk:2*l.length+8≤k) :
    ∃l',F77 k l=some (mrgs l')∧List.Perm l' l∧(Small l→ZS l' 0 l'.length):=by
  obtain ⟨l',e,p,s⟩:=Zrp (k:=k) (v:=l) (by omega) hk
  have hl':=p.length_eq
  refine ⟨l',?_,p,s⟩
  unfold F77
  have e1:F102 k l=some l:=by unfold F102;exact if_pos (by omega)
  rw [e1,zb_,e,zb_,if_pos hl',ZoV (by omega) (by omega)]
def Z7:Int→List Zb→Prop
  | _,[]=>True
  | b,r :: l=>b≤r.f_Lo∧r.f_Lo≤r.f_Hi∧Z7 (r.f_Hi+2) l
theorem ZM {r:Zb} {l:List Zb} {c:Int}:inR (r :: l) c↔(r.f_Lo≤c∧c≤r.f_Hi)∨inR l c:=by
  unfold inR
  constructor
  · rintro ⟨x,hx,h⟩
    rcases List.mem_cons.1 hx with rfl | hx
    · exact .inl h
    · exact .inr ⟨x,hx,h⟩
  · rintro (h | ⟨x,hx,h⟩)
    · exact ⟨r,List.mem_cons_self,h⟩
    · exact ⟨x,List.mem_cons_of_mem _ hx,h⟩
theorem Zai {c:Int}:¬inR [] c:=by rintro ⟨x,hx,_⟩;cases hx
theorem ZlY {l l':List Zb} (p:List.Perm l l') (c:Int):inR l c↔inR l' c:=
  ⟨fun ⟨x,hx,h⟩=>⟨x,p.mem_iff.1 hx,h⟩,fun ⟨x,hx,h⟩=>⟨x,p.mem_iff.2 hx,h⟩⟩
theorem Zjf {l l':List Zb} {c:Int}:inR (l ++ l') c↔inR l c∨inR l' c:=by
  unfold inR
  constructor
  · rintro ⟨x,hx,h⟩
    rcases List.mem_append.1 hx with hx | hx
    · exact .inl ⟨x,hx,h⟩
    · exact .inr ⟨x,hx,h⟩
  · rintro (⟨x,hx,h⟩ | ⟨x,hx,h⟩)
    · exact ⟨x,List.mem_append_left _ hx,h⟩
    · exact ⟨x,List.mem_append_right _ hx,h⟩
theorem Z7.ge:∀{l:List Zb} {b c:Int},Z7 b l→inR l c→b≤c
  | [],_,_,_,h=>absurd h Zai
  | r :: l,b,c,⟨h1,h2,h3⟩,h=>by
    rcases ZM.1 h with h | h
    · omega
    · have:=h3.ge h;omega
theorem Z7.mono {l:List Zb} {b c:Int} (h:Z7 b l) (hc:c≤b):Z7 c l:=by
  cases l with
  | nil=>trivial
  | cons r l=>exact ⟨by have:=h.1;omega,h.2⟩
theorem ZhU:∀{l l':List Zb} {b b':Int},Z7 b l→Z7 b' l'→(∀c,inR l c↔inR l' c)→l=l'
  | [],[],_,_,_,_,_=>rfl
  | [],r :: l',_,_,_,h,e=>absurd ((e r.f_Lo).2 (ZM.2 (.inl ⟨Int.le_refl _,h.2.1⟩))) Zai
  | r :: l,[],_,_,h,_,e=>absurd ((e r.f_Lo).1 (ZM.2 (.inl ⟨Int.le_refl _,h.2.1⟩))) Zai
  | r :: l,s :: l',b,b',⟨h1,h2,h3⟩,⟨g1,g2,g3⟩,e=>by
    have lo1:=ZM.1 ((e r.f_Lo).1 (ZM.2 (.inl ⟨Int.le_refl _,h2⟩)))
    have lo2:=ZM.1 ((e s.f_Lo).2 (ZM.2 (.inl ⟨Int.le_refl _,g2⟩)))
    have elo:r.f_Lo=s.f_Lo:=by
      have a1:s.f_Lo≤r.f_Lo:=lo1.elim (fun h=>by omega) (fun h=>by have:=g3.ge h;omega)
      have a2:r.f_Lo≤s.f_Lo:=lo2.elim (fun h=>by omega) (fun h=>by have:=h3.ge h;omega)
      omega
    have ehi:r.f_Hi=s.f_Hi:=by
      by_cases h4:r.f_Hi<s.f_Hi
      · rcases ZM.1 ((e (r.f_Hi+1)).2 (ZM.2 (.inl ⟨by omega,by omega⟩))) with h | h
        · omega
        · have:=h3.ge h;omega
      · by_cases h5:s.f_Hi<r.f_Hi
        · rcases ZM.1 ((e (s.f_Hi+1)).1 (ZM.2 (.inl ⟨by omega,by omega⟩))) with h | h
          · omega
          · have:=g3.ge h;omega
        · omega
    have:l=l':=ZhU h3 g3 fun c=>by
      constructor
      · intro h
        have hc:=h3.ge h
        rcases ZM.1 ((e c).1 (ZM.2 (.inr h))) with h' | h'
        · omega
        · exact h'
      · intro h
        have hc:=g3.ge h
        rcases ZM.1 ((e c).2 (ZM.2 (.inr h))) with h' | h'
        · omega
        · exact h'
    subst this
    cases r;cases s
    simp only at elo ehi
    subst elo;subst ehi;rfl
def Bd (l:List Zb):Prop:=∀r∈l,0≤r.f_Lo∧r.f_Lo≤r.f_Hi∧r.f_Hi≤1114111
theorem Bd.small {l:List Zb} (h:Bd l):Small l:=fun r hr=>by have:=h r hr;omega
theorem Bd.perm {l l':List Zb} (h:Bd l) (p:List.Perm l' l):Bd l':=fun r hr=>h r (p.mem_iff.1 hr)
def Rise:List Zb→Prop
  | []=>True
  | r :: l=>(∀x∈l,r.f_Lo≤x.f_Lo)∧Rise l
theorem ZnB:∀{l:List Zb},ZS l 0 l.length→Rise l
  | [],_=>trivial
  | r :: l,h=>⟨fun x hx=>by
      obtain ⟨i,hi,rfl⟩:=List.mem_iff_getElem.1 hx
      exact h 0 (i+1) r _ (Nat.zero_le _) (by omega) (by simp;omega) rfl (by rw [List.getElem?_cons_succ,List.getElem?_eq_getElem hi]),
    ZnB fun p q x y _ hpq hq hx hy=>h (p+1) (q+1) x y (Nat.zero_le _) (by omega) (by simp;omega) (by rw [List.getElem?_cons_succ];exact hx) (by rw [List.getElem?_cons_succ];exact hy)⟩
theorem Zgu:∀(l:List Zb) (p:Zb),Rise (p :: l)→Bd (p :: l)→Z7 p.f_Lo (mrg p l)∧(∀c,inR (mrg p l) c↔inR (p :: l) c)∧Bd (mrg p l)
  | [],p,_,hb=>⟨⟨Int.le_refl _,(hb p List.mem_cons_self).2.1,trivial⟩,fun _=>Iff.rfl,hb⟩
  | r :: l,p,hr,hb=>by
    have hp:=hb p List.mem_cons_self
    have hrr:=hb r (List.mem_cons_of_mem _ List.mem_cons_self)
    have hpr:=hr.1 r List.mem_cons_self
    unfold mrg
    rw [Zv (x:=p.f_Hi+1) (by omega) (by omega)]
    by_cases hc:r.f_Lo≤p.f_Hi+1
    · rw [if_pos hc]
      have hm:p.f_Hi≤mx p.f_Hi r.f_Hi∧r.f_Hi≤mx p.f_Hi r.f_Hi∧(mx p.f_Hi r.f_Hi=p.f_Hi∨mx p.f_Hi r.f_Hi=r.f_Hi):=by unfold mx;split <;> omega
      obtain ⟨h1,h2,h3⟩:=Zgu l { p with f_Hi:=mx p.f_Hi r.f_Hi } ⟨fun x hx=>hr.1 x (List.mem_cons_of_mem _ hx),hr.2.2⟩ (fun x hx=>by
        rcases List.mem_cons.1 hx with rfl | hx
        · exact ⟨hp.1,by simp only;omega,by simp only;omega⟩
        · exact hb x (List.mem_cons_of_mem _ (List.mem_cons_of_mem _ hx)))
      refine ⟨h1,fun c=>(h2 c).trans ?_,h3⟩
      rw [ZM,ZM,ZM]
      simp only
      constructor
      · rintro (h | h)
        · by_cases h5:c≤p.f_Hi
          · exact .inl ⟨h.1,h5⟩
          · exact .inr (.inl ⟨by omega,by omega⟩)
        · exact .inr (.inr h)
      · rintro (h | h | h)
        · exact .inl ⟨h.1,by omega⟩
        · exact .inl ⟨by omega,by omega⟩
        · exact .inr h
    · rw [if_neg hc]
      obtain ⟨h1,h2,h3⟩:=Zgu l r hr.2 (fun x hx=>hb x (List.mem_cons_of_mem _ hx))
      refine ⟨⟨Int.le_refl _,hp.2.1,h1.mono (by omega)⟩,fun c=>?_,fun x hx=>?_⟩
      · rw [ZM,ZM,h2]
      · rcases List.mem_cons.1 hx with rfl | hx
        · exact hp
        · exact h3 x hx
theorem Zjk {l:List Zb} (hr:Rise l) (hb:Bd l):Z7 0 (mrgs l)∧(∀c,inR (mrgs l) c↔inR l c)∧Bd (mrgs l):=by
  cases l with
  | nil=>exact ⟨trivial,fun _=>Iff.rfl,hb⟩
  | cons p l=>
    obtain ⟨h1,h2,h3⟩:=Zgu l p hr hb
    exact ⟨h1.mono (hb p List.mem_cons_self).1,h2,h3⟩
theorem Zno {k:Nat} {l:List Zb} (hl:l.length≤536870912) (hk:2*l.length+8≤k) (hb:Bd l) :
    ∃l',F77 k l=some l'∧Z7 0 l'∧(∀c,inR l' c↔inR l c)∧Bd l'∧l'.length≤l.length:=by
  obtain ⟨l',e,p,s⟩:=Zl7 hl hk
  obtain ⟨h1,h2,h3⟩:=Zjk (ZnB (s hb.small)) (hb.perm p)
  exact ⟨_,e,h1,fun c=>(h2 c).trans (ZlY p c),h3,by have:=Zh6 l';have:=p.length_eq;omega⟩
theorem ZkE {k:Nat} {l:List Zb} (hl:l.length≤536870912) (hk:2*l.length+8≤k) (hb:Bd l) (ha:Z7 0 l):F77 k l=some l:=by
  obtain ⟨l',e,h1,h2,_⟩:=Zno hl hk hb
  rw [e,ZhU h1 ha h2]
end Go.Proofs.YthilboheomikjaaGreatDoor
end
section
namespace Go.Proofs.YthilboheomikjaaGreatDoor
open Go.AL Go.Lib
set_option maxRecDepth 100000
def cutR (x y:Zb):List Zb:=if mx x.f_Lo y.f_Lo≤mn x.f_Hi y.f_Hi then [⟨mx x.f_Lo y.f_Lo,mn x.f_Hi y.f_Hi⟩] else []
def ZaE (a b:List Zb):List Zb:=a.flatMap fun x=>b.flatMap (cutR x)
theorem Zhr {a b c:Int}:mx a b≤c↔a≤c∧b≤c:=by unfold mx;split <;> omega
theorem Zji {a b c:Int}:c≤mn a b↔c≤a∧c≤b:=by unfold mn;split <;> omega
theorem Zna {x y:Zb} {c:Int}:inR (cutR x y) c↔(x.f_Lo≤c∧c≤x.f_Hi)∧(y.f_Lo≤c∧c≤y.f_Hi):=by
  unfold cutR
  split
  · rw [ZM]
    simp only [Zhr,Zji]
    constructor
    · rintro (h | h)
      · exact ⟨⟨h.1.1,h.2.1⟩,h.1.2,h.2.2⟩
      · exact absurd h Zai
    · rintro ⟨⟨h1,h2⟩,h3,h4⟩;exact .inl ⟨⟨h1,h3⟩,h2,h4⟩
  · rename_i h
    rw [Zhr,Zji,Zji] at h
    exact ⟨fun h=>absurd h Zai,fun ⟨⟨h1,h2⟩,h3,h4⟩=>absurd ⟨⟨by omega,by omega⟩,by omega,by omega⟩ h⟩
theorem ZlK (x y:Zb):(cutR x y).length≤1:=by unfold cutR;split <;> simp
theorem Zec {α:Type} {l:List α} {f:α→List Zb} {c:Int}:inR (l.flatMap f) c↔∃x∈l,inR (f x) c:=by
  induction l with
  | nil=>exact ⟨fun h=>absurd h Zai,fun ⟨_,h,_⟩=>by cases h⟩
  | cons x l ih=>
    rw [List.flatMap_cons,Zjf,ih]
    constructor
    · rintro (h | ⟨y,hy,h⟩)
      · exact ⟨x,List.mem_cons_self,h⟩
      · exact ⟨y,List.mem_cons_of_mem _ hy,h⟩
    · rintro ⟨y,hy,h⟩
      rcases List.mem_cons.1 hy with rfl | hy
      · exact .inl h
      · exact .inr ⟨y,hy,h⟩
theorem Zms {a b:List Zb} {c:Int}:inR (ZaE a b) c↔inR a c∧inR b c:=by
  unfold ZaE
  rw [Zec]
  constructor
  · rintro ⟨x,hx,h⟩
    obtain ⟨y,hy,h⟩:=Zec.1 h
    obtain ⟨h1,h2⟩:=Zna.1 h
    exact ⟨⟨x,hx,h1⟩,y,hy,h2⟩
  · rintro ⟨⟨x,hx,h1⟩,y,hy,h2⟩
    exact ⟨x,hx,Zec.2 ⟨y,hy,Zna.2 ⟨h1,h2⟩⟩⟩
theorem Zhx (x:Zb):∀b:List Zb,(b.flatMap (cutR x)).length≤b.length
  | []=>Nat.le_refl _
  | y :: b=>by
    rw [List.flatMap_cons,List.length_append,List.length_cons]
    have:=Zhx x b;have:=ZlK x y;omega
theorem ZgG (b:List Zb):∀a:List Zb,(ZaE a b).length≤a.length*b.length
  | []=>Nat.zero_le _
  | x :: a=>by
    have h1:=ZgG b a
    have h2:=Zhx x b
    unfold ZaE at h1 ⊢
    rw [List.flatMap_cons,List.length_append,List.length_cons,Nat.add_mul]
    omega
theorem Zh5 {self8:List Zb→Int→Option (List Zb)} {v1:List Zb} {v158:Int} {x:Zb} (h1:v1.length≤1000):∀(l acc:List Zb) (j m:Nat),v1.drop j=l→acc.length+l.length≤1073741824→l.length<m→j≤v1.length→
    Zcu self8 v1 v158 x m acc (j:Int)=self8 (acc ++ l.flatMap (cutR x)) (w64 (v158+1))
  | [],acc,j,m,hd,ha,hm,hj=>by
    obtain ⟨m,rfl⟩:∃q,m=q+1:=⟨m-1,by simp at hm;omega⟩
    have:=ZP hd
    show Zdn _ _ _ _ _ _ _=_
    unfold Zdn
    rw [df (by omega),zf_,List.flatMap_nil,List.append_nil]
  | y :: l,acc,j,m,hd,ha,hm,hj=>by
    obtain ⟨m,rfl⟩:∃q,m=q+1:=⟨m-1,by omega⟩
    obtain ⟨g1,g2,g3⟩:=ZA hd
    rw [List.length_cons] at ha hm
    show Zdn self8 (Zcu self8 v1 v158 x m) v1 v158 x acc (j:Int)=_
    unfold Zdn
    rw [dt (by omega),zt_,Zx,g2,zb_,List.flatMap_cons]
    unfold Zhj
    rw [ZR (by omega)]
    have hc0:=ZlK x y
    by_cases hc:mx x.f_Lo y.f_Lo≤mn x.f_Hi y.f_Hi
    · have ec:cutR x y=[⟨mx x.f_Lo y.f_Lo,mn x.f_Hi y.f_Hi⟩]:=if_pos hc
      rw [dt hc,zt_,if_pos (by simp;omega),Zh5 h1 l _ (j+1) m g3 (by simp;omega) (by omega) (by omega),ec,List.append_assoc]
    · have ec:cutR x y=[]:=if_neg hc
      rw [df hc,zf_,Zh5 h1 l _ (j+1) m g3 (by omega) (by omega) (by omega),ec,List.nil_append]
theorem ZkA {k:Nat} {v0 v1:List Zb} (h1:v1.length≤1000) (hk:v1.length<k) (h0:v0.length≤1073741824):∀(l acc:List Zb) (i m:Nat),v0.drop i=l→acc.length+l.length*v1.length≤1073741824→l.length<m→i≤v0.length→
    Zcb k v0 v1 m acc (i:Int)=F77 k (acc ++ ZaE l v1)
  | [],acc,i,m,hd,ha,hm,hi=>by
    obtain ⟨m,rfl⟩:∃q,m=q+1:=⟨m-1,by simp at hm;omega⟩
    have:=ZP hd
    show Ze1 _ _ _ _ _ _=_
    unfold Ze1
    rw [df (by omega),zf_]
    show _=F77 k (acc ++ [])
    rw [List.append_nil]
    cases F77 k acc <;> rfl
  | x :: l,acc,i,m,hd,ha,hm,hi=>by
    obtain ⟨m,rfl⟩:∃q,m=q+1:=⟨m-1,by omega⟩
    obtain ⟨g1,g2,g3⟩:=ZA hd
    rw [List.length_cons] at ha hm
    rw [Nat.add_mul,Nat.one_mul] at ha
    have hrl:=Zhx x v1
    show Ze1 k (Zcb k v0 v1 m) v0 v1 acc (i:Int)=_
    unfold Ze1
    rw [dt (by omega),zt_,Zx,g2,zb_]
    have e:=Zh5 (self8:=Zcb k v0 v1 m) (v158:=(i:Int)) (x:=x) h1 v1 acc 0 k rfl (by omega) hk (Nat.zero_le _)
    have e':Zcu (Zcb k v0 v1 m) v1 (i:Int) x k acc 0=Zcb k v0 v1 m (acc ++ v1.flatMap (cutR x)) (w64 ((i:Int)+1)):=e
    rw [e',ZR (by omega),ZkA h1 hk h0 l _ (i+1) m g3 (by rw [List.length_append];omega) (by omega) (by omega),List.append_assoc]
    rfl
theorem Zjr {c:Int}:inR ptsR c↔ZC c:=by
  unfold ptsR ZC
  rw [ZM,ZM]
  constructor
  · rintro (h | h | h)
    · simp only at h;omega
    · simp only at h;omega
    · exact absurd h Zai
  · intro h
    simp only
    omega
def Zaj (l:List Zb):Prop:=Z7 0 l∧∀c,inR l c→ZC c
theorem ZdI {l l':List Zb} (h:Zaj l) (h':Zaj l') (e:∀c,inR l c↔inR l' c):l=l':=ZhU h.1 h'.1 e
theorem Zgc:∀{l:List Zb} {b:Int},Z7 b l→∀r∈l,b≤r.f_Lo∧r.f_Lo≤r.f_Hi
  | [],_,_,_,h=>by cases h
  | x :: l,b,⟨h1,h2,h3⟩,r,h=>by
    rcases List.mem_cons.1 h with rfl | h
    · exact ⟨h1,h2⟩
    · have:=Zgc h3 r h;exact ⟨by omega,this.2⟩
theorem Zaj.bd {l:List Zb} (h:Zaj l):Bd l:=fun r hr=>by
  have h1:=Zgc h.1 r hr
  have h2:=h.2 r.f_Hi ⟨r,hr,h1.2,Int.le_refl _⟩
  exact ⟨h1.1,h1.2,h2.2.1⟩
theorem Zp6 {a:List Zb}:Bd (ZaE a ptsR):=fun r hr=>by
  unfold ZaE at hr
  obtain ⟨x,hx,hr⟩:=List.mem_flatMap.1 hr
  obtain ⟨y,hy,hr⟩:=List.mem_flatMap.1 hr
  unfold cutR at hr
  split at hr
  · rename_i h
    obtain rfl:=List.mem_singleton.1 hr
    have h2:=Zhr.1 (Int.le_refl (mx x.f_Lo y.f_Lo))
    have h3:=Zji.1 (Int.le_refl (mn x.f_Hi y.f_Hi))
    have h4:0≤y.f_Lo∧y.f_Hi≤1114111:=by
      unfold ptsR at hy
      simp only [List.mem_cons,List.not_mem_nil,or_false] at hy
      rcases hy with rfl | rfl <;> simp
    simp only
    exact ⟨by omega,h,by omega⟩
  · cases hr
theorem Znm {k:Nat} {a:List Zb} (ha:a.length≤1000000) (hk:4*a.length+8≤k):∃l',F76 k a ptsR=some l'∧Zaj l'∧(∀c,inR l' c↔inR a c∧ZC c)∧l'.length≤2*a.length:=by
  have hl:=ZgG ptsR a
  have h2:ptsR.length=2:=rfl
  rw [h2] at hl
  have e:F76 k a ptsR=F77 k ([] ++ ZaE a ptsR):=ZkA (k:=k) (v0:=a) (v1:=ptsR) (by rw [h2];omega) (by rw [h2];omega) (by omega) a [] 0 k rfl (by rw [h2];simp;omega) (by omega) (Nat.zero_le _)
  obtain ⟨l',e1,a1,i1,b1,n1⟩:=Zno (k:=k) (l:=ZaE a ptsR) (by omega) (by omega) Zp6
  rw [List.nil_append,e1] at e
  have ei:∀c,inR l' c↔inR a c∧ZC c:=fun c=>by rw [i1,Zms,Zjr]
  exact ⟨l',e,⟨a1,fun c hc=>((ei c).1 hc).2⟩,ei,by omega⟩
def comp:Int→List Zb→List Zb
  | b,[]=>if b≤1114111 then [⟨b,1114111⟩] else []
  | b,r :: l=>(if r.f_Lo > b then [⟨b,r.f_Lo-1⟩] else []) ++ comp (r.f_Hi+1) l
theorem ZhZ:∀(l:List Zb) (b:Int),(comp b l).length≤l.length+1
  | [],b=>by unfold comp;split <;> simp
  | r :: l,b=>by
    unfold comp
    have:=ZhZ l (r.f_Hi+1)
    rw [List.length_append,List.length_cons]
    split <;> simp <;> omega
theorem Zj4:∀(l:List Zb) (b:Int),Z7 b l→Bd l→∀c,inR (comp b l) c↔b≤c∧c≤1114111∧¬inR l c
  | [],b,_,_,c=>by
    unfold comp
    split
    · rw [ZM]
      exact ⟨fun h=>h.elim (fun h=>⟨h.1,h.2,Zai⟩) (fun h=>absurd h Zai),fun h=>.inl ⟨h.1,h.2.1⟩⟩
    · exact ⟨fun h=>absurd h Zai,fun h=>by omega⟩
  | r :: l,b,⟨h1,h2,h3⟩,hb,c=>by
    unfold comp
    have hr:=hb r List.mem_cons_self
    rw [Zjf,Zj4 l (r.f_Hi+1) (h3.mono (by omega)) (fun x hx=>hb x (List.mem_cons_of_mem _ hx)),ZM]
    have hc1:inR (if r.f_Lo > b then [⟨b,r.f_Lo-1⟩] else []) c↔b≤c∧c≤r.f_Lo-1:=by
      split
      · rw [ZM];exact ⟨fun h=>h.elim id (fun h=>absurd h Zai),.inl⟩
      · exact ⟨fun h=>absurd h Zai,fun h=>by omega⟩
    rw [hc1]
    constructor
    · rintro (⟨g1,g2⟩ | ⟨g1,g2,g3⟩)
      · exact ⟨g1,by omega,fun h=>h.elim (fun h=>by omega) (fun h=>by have:=h3.ge h;omega)⟩
      · exact ⟨by omega,g2,fun h=>h.elim (fun h=>by omega) g3⟩
    · rintro ⟨g1,g2,g3⟩
      by_cases g4:c<r.f_Lo
      · exact .inl ⟨g1,by omega⟩
      · exact .inr ⟨by have:=mt Or.inl g3;omega,g2,fun h=>g3 (.inr h)⟩
theorem Zh7 {k:Nat} {y:List Zb} (hy:y.length≤1000000) (hb:Bd y):∀(l acc:List Zb) (b:Int) (i m:Nat),y.drop i=l→acc.length+l.length+1≤1073741824→l.length<m→i≤y.length→0≤b→b≤1114112→
    Zc2 k y m acc b (i:Int)=F76 k (acc ++ comp b l) ptsR
  | [],acc,b,i,m,hd,ha,hm,hi,h0,h1=>by
    obtain ⟨m,rfl⟩:∃q,m=q+1:=⟨m-1,by simp at hm;omega⟩
    have:=ZP hd
    have fin:∀a,Zen k a=F76 k a ptsR:=fun a=>by
      unfold Zen
      rw [Zlt,zb_]
      cases F76 k a ptsR <;> rfl
    show Zc1 _ _ _ _ _ _=_
    unfold Zc1
    rw [df (by omega),zf_]
    unfold comp
    by_cases hc:b≤1114111
    · rw [dt hc,zt_,if_pos (by simp at ha ⊢;omega),fin,if_pos hc]
    · rw [df hc,zf_,fin,if_neg hc,List.append_nil]
  | r :: l,acc,b,i,m,hd,ha,hm,hi,h0,h1=>by
    obtain ⟨m,rfl⟩:∃q,m=q+1:=⟨m-1,by omega⟩
    obtain ⟨g1,g2,g3⟩:=ZA hd
    rw [List.length_cons] at ha hm
    have hr:=hb r (List.mem_of_getElem? g2)
    show Zc1 k (Zc2 k y m) y acc b (i:Int)=_
    unfold Zc1
    rw [dt (by omega),zt_,Zx,g2,zb_]
    unfold ZgO
    rw [ZR (by omega),Zv (x:=r.f_Hi+1) (by omega) (by omega),Zv (x:=r.f_Lo-1) (by omega) (by omega)]
    conv=>rhs;unfold comp
    by_cases hc:r.f_Lo > b
    · rw [dt hc,zt_,if_pos (by simp;omega),Zh7 hy hb l _ _ (i+1) m g3 (by simp;omega) (by omega) (by omega) (by omega) (by omega),if_pos hc,List.append_assoc]
    · rw [df hc,zf_,Zh7 hy hb l _ _ (i+1) m g3 (by omega) (by omega) (by omega) (by omega) (by omega),if_neg hc,List.nil_append]
theorem ZoZ {k:Nat} {l:List Zb} (hl:l.length≤100000) (hk:4*l.length+20≤k) (hb:Bd l) (ha:Z7 0 l):∃l',F109 k l=some l'∧Zaj l'∧(∀c,inR l' c↔ZC c∧¬inR l c)∧l'.length≤2*l.length+2:=by
  have hc:=ZhZ l 0
  have e:F109 k l=F76 k ([] ++ comp 0 l) ptsR:=by
    unfold F109
    rw [ZkE (by omega) (by omega) hb ha,zb_]
    exact Zh7 (k:=k) (by omega) hb l [] 0 0 k rfl (by simp;omega) (by omega) (Nat.zero_le _) (by omega) (by omega)
  obtain ⟨l',e1,c1,i1,n1⟩:=Znm (k:=k) (a:=comp 0 l) (by omega) (by omega)
  rw [List.nil_append,e1] at e
  refine ⟨l',e,c1,fun c=>?_,by omega⟩
  rw [i1,Zj4 l 0 ha hb]
  exact ⟨fun h=>⟨h.2,h.1.2.2⟩,fun h=>⟨⟨h.1.1,h.1.2.1,h.2⟩,h.1⟩⟩
theorem Zja {a b:List Zb} (ha:a.length≤1073741824) (hab:b.length=a.length):∀(l l':List Zb) (i m:Nat),a.drop i=l→b.drop i=l'→l.length<m→i≤a.length→∃t,Ze0 a b m (i:Int)=some t∧(t=true↔l=l')
  | [],l',i,m,hd,hd',hm,hi=>by
    obtain ⟨m,rfl⟩:∃q,m=q+1:=⟨m-1,by simp at hm;omega⟩
    have:=ZP hd
    show ∃t,ZeZ _ _ _ _=_∧_
    unfold ZeZ
    rw [df (by omega)]
    refine ⟨true,rfl,fun _=>?_,fun _=>rfl⟩
    rw [←hd',List.drop_eq_nil_of_le (by omega)]
  | x :: l,[],i,m,hd,hd',hm,hi=>by
    have:=(ZA hd).1
    have:=ZP hd'
    omega
  | x :: l,y :: l',i,m,hd,hd',hm,hi=>by
    obtain ⟨m,rfl⟩:∃q,m=q+1:=⟨m-1,by omega⟩
    obtain ⟨g1,g2,g3⟩:=ZA hd
    obtain ⟨f1,f2,f3⟩:=ZA hd'
    rw [List.length_cons] at hm
    show ∃t,ZeZ (Ze0 a b m) a b (i:Int)=_∧_
    unfold ZeZ
    rw [dt (by omega),zt_,Zx,g2,zb_,Zx,f2,zb_,ZR (by omega)]
    obtain ⟨t,e,ht⟩:=Zja ha hab l l' (i+1) m g3 f3 (by omega) (by omega)
    by_cases h1:x.f_Lo=y.f_Lo
    · by_cases h2:x.f_Hi=y.f_Hi
      · have exy:x=y:=by cases x;cases y;simp only at h1 h2;subst h1;subst h2;rfl
        subst exy
        rw [ZV rfl,ZV rfl,e]
        exact ⟨t,rfl,ht.trans ⟨fun h=>by rw [h],fun h=>by injection h⟩⟩
      · rw [ZV h1,ZF h2]
        exact ⟨false,rfl,by simp,fun h=>absurd (by injection h with h _;rw [h]) h2⟩
    · rw [ZF h1]
      exact ⟨false,rfl,by simp,fun h=>absurd (by injection h with h _;rw [h]) h1⟩
theorem ZpJ {k:Nat} {a b:List Zb} (ha:a.length≤1073741824) (hk:a.length<k):∃t,F75 k a b=some t∧(t=true↔a=b):=by
  unfold F75
  by_cases h:a.length=b.length
  · rw [show ((a.length:Int) != (b.length:Int))=false by simp [h],zf_]
    exact Zja ha h.symm a b 0 k rfl rfl hk (Nat.zero_le _)
  · rw [show ((a.length:Int) != (b.length:Int))=true by simp;omega,zt_]
    exact ⟨false,rfl,by simp,fun e=>absurd (by rw [e]) h⟩
end Go.Proofs.YthilboheomikjaaGreatDoor
end
section
namespace Go.Proofs.YthilboheomikjaaGreatDoor
open Go.AL
variable {μ:Int}
set_option maxRecDepth 100000
def F21 (k:Nat) (v0:Zd):Option Bool:=
  (F41 k v0 30).bind fun a=>(some (decide (a≤300)))
theorem Zla (k:Nat) (v0:Zd) (r:Bool) (c:F21 k v0=some r):SM μ 21 [tv (Zc v0)] [] (ob r) []:=by
 refine Zz [] Tryz.func21 rfl kr kr ?_
 show WA _ _ 6 _ _ _
 refine Ws [(0,.obj 101)] [(1,pt 101)] [(101,bx (Zc v0))] ?_
 obtain ⟨a,b,c⟩:=Zh c
 refine Wos [(1,.callR [] (oi a))] [(2,ob (decide (a≤300)))] [] [SM μ 41 [tv (Zc v0),oi 30] [] (oi a) [],([]:List Nat).Nodup] ⟨(Zoj k _ _ _ b),nd,trivial⟩ ?_
 refine WA.ret ?_
 obtain rfl:=zj_ c
 exact Zo (ob (decide (a≤300))) [] kr kr kr kr nd rfl rfl
def ZcE (a:Int):Option Int:=
  (some (mn (w64 (a+1)) 1000))
def Zey (R20:Zd→Option Int) (c:Int→Int→Option Int) (v0:Zd) (b:Int) (a:Int):Option Int:=
  (cond (decide (a<(v0.f_L.length:Int))) ((idxL v0.f_L a).bind fun d=>(R20 d).bind fun e=>(c (w64 (b+e)) (w64 (a+1)))) ((ZcE b)))
def ZdB (R20:Zd→Option Int) (v0:Zd):Nat→Int→Int→Option Int
  | 0,_,_=>none
  | c+1,a,b=>Zey R20 (ZdB R20 v0 c) v0 a b
def ZfS (R20:Zd→Option Int) (v0:Zd) (a:Int):Option Int:=
  (idxL v0.f_L 0).bind fun b=>(R20 b).bind fun c=>(ZcE (w64 (c*(mn (mx a 1) 1000))))
def Zik (R20:Zd→Option Int) (k:Nat) (v0:Zd) (a:Bool):Option Int:=
  cond a ((ZdB R20 v0 k 0 0)) ((cond (v0.f_Kind == 4) ((cond (decide ((v0.f_L.length:Int) > 0)) (((cond (decide (v0.f_Max<0)) ((ZfS R20 v0 (w64 (v0.f_Min+1)))) ((ZfS R20 v0 v0.f_Max))))) ((ZcE 0)))) ((ZcE 0))))
def ZkZ (R20:Zd→Option Int) (k:Nat) (v0:Zd):Option Int:=
  ((((cond (v0.f_Kind == 1) ((some 1)) ((cond (v0.f_Kind == 2) ((Zik R20 k v0 (v0.f_Kind == 2))) ((Zik R20 k v0 (v0.f_Kind == 3)))))))))
theorem Zpk (R20:Zd→Option Int) (IH20:∀(v0:Zd) (r:Int),R20 v0=some r→SM μ 20 [tv (Zc v0)] [] (oi r) []) (k:Nat) (v0:Zd) (r:Int) (a:ZkZ R20 k v0=some r):SM μ 20 [tv (Zc v0)] [] (oi r) []:=by
 refine Zz [] Tryz.func20 rfl kr kr ?_
 show WA _ _ 53 _ _ _
 refine Ws [(0,.obj 101)] [(1,pt 101)] [(101,bx (Zc v0))] ?_
 refine Ws [] [(1,pt 101),(3,oi 0)] [(101,bx (Zc v0))] ?_
 refine WA.join (fun f=>∃(i:Int),J f [(3,oi i)] []∧ZcE i=some r) ?_ ?_
 {
 rintro f ⟨i,e,a⟩
 refine Wj e ?_
 clear e
 refine Ws [] [(2,oi (mn (w64 (i+1)) 1000))] [] ?_
 refine WA.ret ?_
 obtain rfl:=zj_ a
 exact Zo (oi (mn (w64 (i+1)) 1000)) [] kr kr kr kr nd rfl rfl }
 {
 refine Ws [] [(1,pt 101),(3,oi 0),(7,oi v0.f_Kind)] [(101,bx (Zc v0))] ?_
 refine WA.block ?_
 refine Ws [] [(1,pt 101),(3,oi 0),(7,oi v0.f_Kind),(8,ob (v0.f_Kind == 1))] [(101,bx (Zc v0))] ?_
 refine WA.cond (b:=(v0.f_Kind == 1)) rfl (fun l=>?_) (fun l=>?_)
 {
 have a:=Zk a l
 refine Ws [] [(2,oi 1)] [] ?_
 refine WA.ret ?_
 obtain rfl:=zj_ a
 exact Zo (oi 1) [] kr kr kr kr nd rfl rfl }
 {
 have a:=Zj a l
 refine WA.join (fun f=>∃(u:Bool),J f [(1,pt 101),(3,oi 0),(7,oi v0.f_Kind),(10,ob u)] [(101,bx (Zc v0))]∧Zik R20 k v0 u=some r) ?_ ?_
 {
 rintro f ⟨u,e,a⟩
 refine Wj e ?_
 clear e
 refine WA.cond (b:=u) rfl (fun o=>?_) (fun o=>?_)
 {
 have a:=Zk a o
 refine Ws [] [(1,pt 101),(3,oi 0),(4,oi 0)] [(101,bx (Zc v0))] ?_
 refine WA.block ?_
 refine WA.loop (fun m f=>∃(d:Int) (c:Int),J f [(1,pt 101),(3,oi d),(4,oi c)] [(101,bx (Zc v0))]∧ZdB R20 v0 m d c=some r) k ⟨0,0,jk,a⟩ ?_
 clear a
 rintro m1 f ⟨d,c,e,a⟩
 refine Wj e ?_
 clear e
 cases m1 with
 | zero=>cases a
 | succ m1=>
  obtain ⟨a3,w⟩:∃g,g=ZdB R20 v0 m1:=⟨_,rfl⟩
  have a:Zey R20 a3 v0 d c=some r:=by first | (rw [w];exact a) | exact a
  refine WA.seq ?_
  refine WA.seq ?_
  refine Wm ((Zm v0.f_L).length:Int) (v0.f_L.length:Int) (fun m_=>([(1,pt 101),(3,oi d),(4,oi c),(17,ob (decide (c<m_)))],[(101,bx (Zc v0))],[])) ((by first | (simp only [zl,Zi];done) | (simp only [zl,Zi];omega) | omega)) [] trivial ?_
  refine WA.cond (b:=(decide (c<(v0.f_L.length:Int)))) rfl (fun p=>?_) (fun p=>?_)
  {
 have a:=Zk a p
 refine WA.skip ?_
 refine WA.seq ?_
 refine WA.block ?_
 obtain ⟨x,z,a⟩:=Zh a
 obtain ⟨j,a0,a⟩:=Zh a
 refine Wo [(4,.cells (Zc x)),(6,.callR [] (oi j))] [(1,pt 101),(3,oi (w64 (d+j))),(4,oi c)] [(101,bx (Zc v0))] [idxL (Zm v0.f_L) c=some (Zc x),SM μ 20 [tv (Zc x)] [] (oi j) [],([]:List Nat).Nodup] ⟨(ZO z),(IH20 _ _ a0),nd,trivial⟩ ?_
 refine Wr [] [(1,pt 101),(3,oi (w64 (d+j))),(4,oi (w64 (c+1)))] [(101,bx (Zc v0))] ?_
 exact ⟨m1,zl_ _,(w64 (d+j)),(w64 (c+1)),jk,by rw [w] at a;exact a⟩ }
  {
 have a:=Zj a p
 refine WA.exit ?_
 exact ⟨d,jk,a⟩ } }
 {
 have a:=Zj a o
 refine Ws [] [(1,pt 101),(3,oi 0),(28,ob (v0.f_Kind == 4))] [(101,bx (Zc v0))] ?_
 refine WA.cond (b:=(v0.f_Kind == 4)) rfl (fun q=>?_) (fun q=>?_)
 {
 have a:=Zk a q
 refine WA.seq ?_
 refine Wm ((Zm v0.f_L).length:Int) (v0.f_L.length:Int) (fun m_=>([(1,pt 101),(3,oi 0),(33,ob (decide (m_ > 0)))],[(101,bx (Zc v0))],[])) ((by first | (simp only [zl,Zi];done) | (simp only [zl,Zi];omega) | omega)) [] trivial ?_
 refine WA.cond (b:=(decide ((v0.f_L.length:Int) > 0))) rfl (fun s=>?_) (fun s=>?_)
 {
 have a:=Zk a s
 refine Ws [] [(1,pt 101),(5,oi v0.f_Max)] [(101,bx (Zc v0))] ?_
 refine WA.join (fun f=>∃(h:Int),J f [(1,pt 101),(5,oi h)] [(101,bx (Zc v0))]∧ZfS R20 v0 h=some r) ?_ ?_
 {
 rintro f ⟨h,e,a⟩
 refine Wj e ?_
 clear e
 obtain ⟨y,a1,a⟩:=Zh a
 obtain ⟨v,a2,a⟩:=Zh a
 refine Wo [(2,.cells (Zc y)),(4,.callR [] (oi v))] [(3,oi (w64 (v*(mn (mx h 1) 1000))))] [] [idxL (Zm v0.f_L) 0=some (Zc y),SM μ 20 [tv (Zc y)] [] (oi v) [],([]:List Nat).Nodup] ⟨(ZO a1),(IH20 _ _ a2),nd,trivial⟩ ?_
 exact ⟨(w64 (v*(mn (mx h 1) 1000))),jk,a⟩ }
 {
 refine Ws [] [(1,pt 101),(5,oi v0.f_Max),(37,ob (decide (v0.f_Max<0)))] [(101,bx (Zc v0))] ?_
 refine WA.cond (b:=(decide (v0.f_Max<0))) rfl (fun t=>?_) (fun t=>?_)
 {
 have a:=Zk a t
 refine Wr [] [(1,pt 101),(5,oi (w64 (v0.f_Min+1)))] [(101,bx (Zc v0))] ?_
 exact ⟨(w64 (v0.f_Min+1)),jk,a⟩ }
 {
 have a:=Zj a t
 refine WA.skip ?_
 exact ⟨v0.f_Max,jk,a⟩ } } }
 {
 have a:=Zj a s
 refine WA.skip ?_
 exact ⟨0,jk,a⟩ } }
 {
 have a:=Zj a q
 refine WA.skip ?_
 exact ⟨0,jk,a⟩ } } }
 {
 refine Ws [] [(1,pt 101),(3,oi 0),(7,oi v0.f_Kind),(10,ob (v0.f_Kind == 2))] [(101,bx (Zc v0))] ?_
 refine WA.cond (b:=(v0.f_Kind == 2)) rfl (fun n=>?_) (fun n=>?_)
 {
 have a:=Zk a n
 refine WA.skip ?_
 exact ⟨(v0.f_Kind == 2),jk,a⟩ }
 {
 have a:=Zj a n
 refine Wr [] [(1,pt 101),(3,oi 0),(7,oi v0.f_Kind),(10,ob (v0.f_Kind == 3))] [(101,bx (Zc v0))] ?_
 exact ⟨(v0.f_Kind == 3),jk,a⟩ } } } }
def F20:Nat→Zd→Option Int
  | 0,_=>none
  | k+1,v0=>ZkZ (F20 k) k v0
theorem Zil:∀(k:Nat),∀(v0:Zd) (r:Int),F20 k v0=some r→SM μ 20 [tv (Zc v0)] [] (oi r) []
  | 0=>fun _ _ a=>by cases a
  | k+1=>fun v0 r a=>Zpk (F20 k) (Zil k) k v0 r a
def ZeE (R43:Zd→Option Bool) (b:Int→Option Bool) (v0:Zd) (a:Int):Option Bool:=
  (cond (decide (a<(v0.f_L.length:Int))) ((idxL v0.f_L a).bind fun c=>(R43 c).bind fun d=>(cond (!d) ((some false)) ((b (w64 (a+1)))))) (((some true))))
def ZeF (R43:Zd→Option Bool) (v0:Zd):Nat→Int→Option Bool
  | 0,_=>none
  | b+1,a=>ZeE R43 (ZeF R43 v0 b) v0 a
def ZfZ (R43:Zd→Option Bool) (k:Nat) (v0:Zd):Option Bool:=
  (ZeF R43 v0 k 0)
def ZcG (R43:Zd→Option Bool) (k:Nat) (v0:Zd) (a:Bool):Option Bool:=
  cond a ((some false)) ((ZfZ R43 k v0))
def ZbM (a:Int→Option Bool) (b:Int) (c:Bool):Option Bool:=
  cond c ((some false)) ((a (w64 (b+1))))
def ZeD (k:Nat) (b:Int→Option Bool) (v0:Zd) (a:Int):Option Bool:=
  (cond (decide (a<(v0.f_Set.length:Int))) ((idxL v0.f_Set a).bind fun c=>(F67 k c.f_Lo).bind fun d=>cond (!d) ((ZbM b a true)) ((F67 k c.f_Hi).bind fun e=>cond (!e) ((ZbM b a true)) (cond (decide (c.f_Lo > c.f_Hi)) ((ZbM b a true)) (cond (decide (c.f_Lo<55296)) (cond (decide (c.f_Hi > 57343)) ((ZbM b a true)) (cond (decide (a > 0)) ((idxL v0.f_Set (w64 (a-1))).bind fun f=>(ZbM b a (decide (c.f_Lo≤(w64 (f.f_Hi+1)))))) ((ZbM b a false)))) (cond (decide (a > 0)) ((idxL v0.f_Set (w64 (a-1))).bind fun g=>(ZbM b a (decide (c.f_Lo≤(w64 (g.f_Hi+1)))))) ((ZbM b a false))))))) (((some ((v0.f_L.length:Int) == 0)))))
def Zb7 (k:Nat) (v0:Zd):Nat→Int→Option Bool
  | 0,_=>none
  | b+1,a=>ZeD k (Zb7 k v0 b) v0 a
def Zbf (R43:Zd→Option Bool) (k:Nat) (v0:Zd) (a:Bool):Option Bool:=
  cond a ((some false)) (((((cond (v0.f_Kind == 1) ((Zb7 k v0 k 0)) ((cond (v0.f_Kind == 2) ((cond ((v0.f_L.length:Int) == 1) ((some false)) ((ZfZ R43 k v0)))) ((cond (v0.f_Kind == 3) ((cond (decide ((v0.f_L.length:Int)<2)) ((some false)) ((ZfZ R43 k v0)))) ((cond (v0.f_Kind == 4) (cond ((v0.f_L.length:Int) != 1) ((ZcG R43 k v0 true)) (cond (decide (v0.f_Min<0)) ((ZcG R43 k v0 true)) (cond (decide (v0.f_Min > 20)) ((ZcG R43 k v0 true)) (cond (v0.f_Max != (-1)) (cond (decide (v0.f_Max<v0.f_Min)) ((ZcG R43 k v0 true)) ((ZcG R43 k v0 (decide (v0.f_Max > 20))))) ((ZcG R43 k v0 false)))))) ((some false)))))))))))))
def Zk1 (R43:Zd→Option Bool) (k:Nat) (v0:Zd):Option Bool:=
  (cond (v0.f_Kind != 1) (cond (decide ((v0.f_Set.length:Int) > 0)) ((Zbf R43 k v0 true)) (cond (v0.f_Kind != 4) (cond (v0.f_Min != 0) ((Zbf R43 k v0 true)) ((Zbf R43 k v0 (v0.f_Max != 0)))) ((Zbf R43 k v0 false)))) (cond (v0.f_Kind != 4) (cond (v0.f_Min != 0) ((Zbf R43 k v0 true)) ((Zbf R43 k v0 (v0.f_Max != 0)))) ((Zbf R43 k v0 false))))
theorem Zpo (R43:Zd→Option Bool) (IH43:∀(v0:Zd) (r:Bool),R43 v0=some r→SM μ 43 [tv (Zc v0)] [] (ob r) []) (k:Nat) (v0:Zd) (r:Bool) (a:Zk1 R43 k v0=some r):SM μ 43 [tv (Zc v0)] [] (ob r) []:=by
 refine Zz [] Tryz.func43 rfl kr kr ?_
 show WA _ _ 147 _ _ _
 refine Ws [(0,.obj 101)] [(1,pt 101)] [(101,bx (Zc v0))] ?_
 refine WA.seq ?_
 refine WA.join (fun x=>∃(c0:Bool),J x [(1,pt 101),(30,ob c0)] [(101,bx (Zc v0))]∧Zbf R43 k v0 c0=some r) ?_ ?_
 {
 rintro x ⟨c0,w,a⟩
 refine Wj w ?_
 clear w
 refine WA.cond (b:=c0) rfl (fun a8=>?_) (fun a8=>?_)
 {
 have a:=Zk a a8
 refine Ws [] [(2,ob false)] [] ?_
 refine WA.ret ?_
 obtain rfl:=zj_ a
 exact Zo (ob false) [] kr kr kr kr nd rfl rfl }
 {
 have a:=Zj a a8
 refine WA.skip ?_
 refine WA.seq ?_
 refine Wm ((Zm v0.f_L).length:Int) (v0.f_L.length:Int) (fun m_=>([(1,pt 101),(3,oi m_)],[(101,bx (Zc v0))],[])) ((by first | (simp only [zl,Zi];done) | (simp only [zl,Zi];omega) | omega)) [] trivial ?_
 refine WA.join (fun x=>J x [(1,pt 101),(3,oi (v0.f_L.length:Int))] [(101,bx (Zc v0))]∧ZfZ R43 k v0=some r) ?_ ?_
 {
 rintro x ⟨w,a⟩
 refine Wj w ?_
 clear w
 refine WA.seq ?_
 refine Ws [] [(1,pt 101),(3,oi (v0.f_L.length:Int)),(6,oi 0)] [(101,bx (Zc v0))] ?_
 refine WA.block ?_
 refine WA.loop (fun m x=>∃(o:Int),J x [(1,pt 101),(3,oi (v0.f_L.length:Int)),(6,oi o)] [(101,bx (Zc v0))]∧ZeF R43 v0 m o=some r) k ⟨0,jk,a⟩ ?_
 clear a
 rintro m7 x ⟨o,w,a⟩
 refine Wj w ?_
 clear w
 cases m7 with
 | zero=>cases a
 | succ m7=>
  obtain ⟨d5,c7⟩:∃g,g=ZeF R43 v0 m7:=⟨_,rfl⟩
  have a:ZeE R43 d5 v0 o=some r:=by first | (rw [c7];exact a) | exact a
  refine WA.seq ?_
  refine Ws [] [(1,pt 101),(3,oi (v0.f_L.length:Int)),(6,oi o),(137,ob (decide (o<(v0.f_L.length:Int))))] [(101,bx (Zc v0))] ?_
  refine WA.cond (b:=(decide (o<(v0.f_L.length:Int)))) rfl (fun b8=>?_) (fun b8=>?_)
  {
 have a:=Zk a b8
 refine WA.skip ?_
 refine WA.seq ?_
 refine WA.block ?_
 obtain ⟨c8,d3,a⟩:=Zh a
 obtain ⟨c5,d4,a⟩:=Zh a
 refine Wos [(3,.cells (Zc c8)),(5,.callR [] (ob c5))] [(1,pt 101),(3,oi (v0.f_L.length:Int)),(6,oi o),(146,ob (!c5))] [(101,bx (Zc v0))] [idxL (Zm v0.f_L) o=some (Zc c8),SM μ 43 [tv (Zc c8)] [] (ob c5) [],([]:List Nat).Nodup] ⟨(ZO d3),(IH43 _ _ d4),nd,trivial⟩ ?_
 refine WA.cond (b:=(!c5)) rfl (fun b9=>?_) (fun b9=>?_)
 {
 have a:=Zk a b9
 refine Ws [] [(2,ob false)] [] ?_
 refine WA.ret ?_
 obtain rfl:=zj_ a
 exact Zo (ob false) [] kr kr kr kr nd rfl rfl }
 {
 have a:=Zj a b9
 refine WA.skip ?_
 refine Wr [] [(1,pt 101),(3,oi (v0.f_L.length:Int)),(6,oi (w64 (o+1)))] [(101,bx (Zc v0))] ?_
 exact ⟨m7,zl_ _,(w64 (o+1)),jk,by rw [c7] at a;exact a⟩ } }
  {
 have a:=Zj a b8
 refine WA.exit ?_
 refine Ws [] [(2,ob true)] [] ?_
 refine WA.ret ?_
 obtain rfl:=zj_ a
 exact Zo (ob true) [] kr kr kr kr nd rfl rfl } }
 {
 refine Ws [] [(1,pt 101),(3,oi (v0.f_L.length:Int)),(35,oi v0.f_Kind)] [(101,bx (Zc v0))] ?_
 refine WA.block ?_
 refine Ws [] [(1,pt 101),(3,oi (v0.f_L.length:Int)),(35,oi v0.f_Kind),(36,ob (v0.f_Kind == 1))] [(101,bx (Zc v0))] ?_
 refine WA.cond (b:=(v0.f_Kind == 1)) rfl (fun a9=>?_) (fun a9=>?_)
 {
 have a:=Zk a a9
 refine WA.seq ?_
 refine Ws [] [(1,pt 101),(3,oi (v0.f_L.length:Int)),(4,oi 0)] [(101,bx (Zc v0))] ?_
 refine WA.block ?_
 refine WA.loop (fun m x=>∃(d:Int),J x [(1,pt 101),(3,oi (v0.f_L.length:Int)),(4,oi d)] [(101,bx (Zc v0))]∧Zb7 k v0 m d=some r) k ⟨0,jk,a⟩ ?_
 clear a
 rintro m3 x ⟨d,w,a⟩
 refine Wj w ?_
 clear w
 cases m3 with
 | zero=>cases a
 | succ m3=>
  obtain ⟨c9,c6⟩:∃g,g=Zb7 k v0 m3:=⟨_,rfl⟩
  have a:ZeD k c9 v0 d=some r:=by first | (rw [c6];exact a) | exact a
  refine WA.seq ?_
  refine WA.seq ?_
  refine Wm ((v0.f_Set.map Za).length:Int) (v0.f_Set.length:Int) (fun m_=>([(1,pt 101),(3,oi (v0.f_L.length:Int)),(4,oi d),(42,ob (decide (d<m_)))],[(101,bx (Zc v0))],[])) ((by first | (simp only [zl,Zi];done) | (simp only [zl,Zi];omega) | omega)) [] trivial ?_
  refine WA.cond (b:=(decide (d<(v0.f_Set.length:Int)))) rfl (fun b0=>?_) (fun b0=>?_)
  {
 have a:=Zk a b0
 refine WA.skip ?_
 refine WA.seq ?_
 refine WA.block ?_
 obtain ⟨c,d0,a⟩:=Zh a
 refine Wos [(3,.cells (Za c)),(5,.obj 105)] [(1,pt 101),(3,oi (v0.f_L.length:Int)),(4,oi d),(5,pt 105)] [(101,bx (Zc v0)),(105,bx (Za c))] [idxL (v0.f_Set.map Za) d=some (Za c)] ⟨(Zs _ d0),trivial⟩ ?_
 refine WA.join (fun x=>∃(c1:Bool),J x [(1,pt 101),(3,oi (v0.f_L.length:Int)),(4,oi d),(93,ob c1)] [(101,bx (Zc v0))]∧ZbM c9 d c1=some r) ?_ ?_
 {
 rintro x ⟨c1,w,a⟩
 refine Wj w ?_
 clear w
 refine WA.cond (b:=c1) rfl (fun b1=>?_) (fun b1=>?_)
 {
 have a:=Zk a b1
 refine Ws [] [(2,ob false)] [] ?_
 refine WA.ret ?_
 obtain rfl:=zj_ a
 exact Zo (ob false) [] kr kr kr kr nd rfl rfl }
 {
 have a:=Zj a b1
 refine WA.skip ?_
 refine Wr [] [(1,pt 101),(3,oi (v0.f_L.length:Int)),(4,oi (w64 (d+1)))] [(101,bx (Zc v0))] ?_
 exact ⟨m3,zl_ _,(w64 (d+1)),jk,by rw [c6] at a;exact a⟩ } }
 {
 obtain ⟨e,s,a⟩:=Zh a
 rcases zo_ (!e) with h | h
 {
 have a:=Zk a h
 refine Wd [(2,.callR [] (ob e)),(4,.bool true),(7,.callR [] (.tup []))] [(1,pt 101),(3,oi (v0.f_L.length:Int)),(4,oi d),(93,ob true)] [(101,bx (Zc v0))] [SM μ 67 [oi c.f_Lo] [] (ob e) [],([]:List Nat).Nodup,(!e)=true] ⟨(Zay k _ _ s),nd,h,trivial⟩ ?_
 exact ⟨true,jk,a⟩ }
 {
 have a:=Zj a h
 obtain ⟨f,v,a⟩:=Zh a
 rcases zo_ (!f) with j | j
 {
 have a:=Zk a j
 refine Wd [(2,.callR [] (ob e)),(4,.bool false),(7,.callR [] (ob f)),(10,.bool true)] [(1,pt 101),(3,oi (v0.f_L.length:Int)),(4,oi d),(93,ob true)] [(101,bx (Zc v0))] [SM μ 67 [oi c.f_Lo] [] (ob e) [],([]:List Nat).Nodup,(!e)=false,SM μ 67 [oi c.f_Hi] [] (ob f) [],([]:List Nat).Nodup,(!f)=true] ⟨(Zay k _ _ s),nd,h,(Zay k _ _ v),nd,j,trivial⟩ ?_
 exact ⟨true,jk,a⟩ }
 {
 have a:=Zj a j
 rcases zo_ (decide (c.f_Lo > c.f_Hi)) with l | l
 {
 have a:=Zk a l
 refine Wd [(2,.callR [] (ob e)),(4,.bool false),(7,.callR [] (ob f)),(10,.bool false),(17,.bool true)] [(1,pt 101),(3,oi (v0.f_L.length:Int)),(4,oi d),(93,ob true)] [(101,bx (Zc v0))] [SM μ 67 [oi c.f_Lo] [] (ob e) [],([]:List Nat).Nodup,(!e)=false,SM μ 67 [oi c.f_Hi] [] (ob f) [],([]:List Nat).Nodup,(!f)=false,(decide (c.f_Lo > c.f_Hi))=true] ⟨(Zay k _ _ s),nd,h,(Zay k _ _ v),nd,j,l,trivial⟩ ?_
 exact ⟨true,jk,a⟩ }
 {
 have a:=Zj a l
 rcases zo_ (decide (c.f_Lo<55296)) with p | p
 {
 have a:=Zk a p
 rcases zo_ (decide (c.f_Hi > 57343)) with a0 | a0
 {
 have a:=Zk a a0
 refine Wd [(2,.callR [] (ob e)),(4,.bool false),(7,.callR [] (ob f)),(10,.bool false),(17,.bool false),(21,.bool true),(27,.bool true)] [(1,pt 101),(3,oi (v0.f_L.length:Int)),(4,oi d),(93,ob true)] [(101,bx (Zc v0))] [SM μ 67 [oi c.f_Lo] [] (ob e) [],([]:List Nat).Nodup,(!e)=false,SM μ 67 [oi c.f_Hi] [] (ob f) [],([]:List Nat).Nodup,(!f)=false,(decide (c.f_Lo > c.f_Hi))=false,(decide (c.f_Lo<55296))=true,(decide (c.f_Hi > 57343))=true] ⟨(Zay k _ _ s),nd,h,(Zay k _ _ v),nd,j,l,p,a0,trivial⟩ ?_
 exact ⟨true,jk,a⟩ }
 {
 have a:=Zj a a0
 rcases zo_ (decide (d > 0)) with a4 | a4
 {
 have a:=Zk a a4
 obtain ⟨c3,d1,a⟩:=Zh a
 refine Wd [(2,.callR [] (ob e)),(4,.bool false),(7,.callR [] (ob f)),(10,.bool false),(17,.bool false),(21,.bool true),(27,.bool false),(30,.bool true),(37,.cells (Za c3))] [(1,pt 101),(3,oi (v0.f_L.length:Int)),(4,oi d),(93,ob (decide (c.f_Lo≤(w64 (c3.f_Hi+1)))))] [(101,bx (Zc v0))] [SM μ 67 [oi c.f_Lo] [] (ob e) [],([]:List Nat).Nodup,(!e)=false,SM μ 67 [oi c.f_Hi] [] (ob f) [],([]:List Nat).Nodup,(!f)=false,(decide (c.f_Lo > c.f_Hi))=false,(decide (c.f_Lo<55296))=true,(decide (c.f_Hi > 57343))=false,(decide (d > 0))=true,idxL (v0.f_Set.map Za) (w64 (d-1))=some (Za c3)] ⟨(Zay k _ _ s),nd,h,(Zay k _ _ v),nd,j,l,p,a0,a4,(Zs _ d1),trivial⟩ ?_
 exact ⟨(decide (c.f_Lo≤(w64 (c3.f_Hi+1)))),jk,a⟩ }
 {
 have a:=Zj a a4
 refine Wd [(2,.callR [] (ob e)),(4,.bool false),(7,.callR [] (ob f)),(10,.bool false),(17,.bool false),(21,.bool true),(27,.bool false),(30,.bool false)] [(1,pt 101),(3,oi (v0.f_L.length:Int)),(4,oi d),(93,ob false)] [(101,bx (Zc v0))] [SM μ 67 [oi c.f_Lo] [] (ob e) [],([]:List Nat).Nodup,(!e)=false,SM μ 67 [oi c.f_Hi] [] (ob f) [],([]:List Nat).Nodup,(!f)=false,(decide (c.f_Lo > c.f_Hi))=false,(decide (c.f_Lo<55296))=true,(decide (c.f_Hi > 57343))=false,(decide (d > 0))=false] ⟨(Zay k _ _ s),nd,h,(Zay k _ _ v),nd,j,l,p,a0,a4,trivial⟩ ?_
 exact ⟨false,jk,a⟩ } } }
 {
 have a:=Zj a p
 rcases zo_ (decide (d > 0)) with a5 | a5
 {
 have a:=Zk a a5
 obtain ⟨c4,d2,a⟩:=Zh a
 refine Wd [(2,.callR [] (ob e)),(4,.bool false),(7,.callR [] (ob f)),(10,.bool false),(17,.bool false),(21,.bool false),(30,.bool true),(37,.cells (Za c4))] [(1,pt 101),(3,oi (v0.f_L.length:Int)),(4,oi d),(93,ob (decide (c.f_Lo≤(w64 (c4.f_Hi+1)))))] [(101,bx (Zc v0))] [SM μ 67 [oi c.f_Lo] [] (ob e) [],([]:List Nat).Nodup,(!e)=false,SM μ 67 [oi c.f_Hi] [] (ob f) [],([]:List Nat).Nodup,(!f)=false,(decide (c.f_Lo > c.f_Hi))=false,(decide (c.f_Lo<55296))=false,(decide (d > 0))=true,idxL (v0.f_Set.map Za) (w64 (d-1))=some (Za c4)] ⟨(Zay k _ _ s),nd,h,(Zay k _ _ v),nd,j,l,p,a5,(Zs _ d2),trivial⟩ ?_
 exact ⟨(decide (c.f_Lo≤(w64 (c4.f_Hi+1)))),jk,a⟩ }
 {
 have a:=Zj a a5
 refine Wd [(2,.callR [] (ob e)),(4,.bool false),(7,.callR [] (ob f)),(10,.bool false),(17,.bool false),(21,.bool false),(30,.bool false)] [(1,pt 101),(3,oi (v0.f_L.length:Int)),(4,oi d),(93,ob false)] [(101,bx (Zc v0))] [SM μ 67 [oi c.f_Lo] [] (ob e) [],([]:List Nat).Nodup,(!e)=false,SM μ 67 [oi c.f_Hi] [] (ob f) [],([]:List Nat).Nodup,(!f)=false,(decide (c.f_Lo > c.f_Hi))=false,(decide (c.f_Lo<55296))=false,(decide (d > 0))=false] ⟨(Zay k _ _ s),nd,h,(Zay k _ _ v),nd,j,l,p,a5,trivial⟩ ?_
 exact ⟨false,jk,a⟩ } } } } } } }
  {
 have a:=Zj a b0
 refine WA.exit ?_
 refine Ws [] [(2,ob ((v0.f_L.length:Int) == 0))] [] ?_
 refine WA.ret ?_
 obtain rfl:=zj_ a
 exact Zo (ob ((v0.f_L.length:Int) == 0)) [] kr kr kr kr nd rfl rfl } }
 {
 have a:=Zj a a9
 refine Ws [] [(1,pt 101),(3,oi (v0.f_L.length:Int)),(35,oi v0.f_Kind),(96,ob (v0.f_Kind == 2))] [(101,bx (Zc v0))] ?_
 refine WA.cond (b:=(v0.f_Kind == 2)) rfl (fun b2=>?_) (fun b2=>?_)
 {
 have a:=Zk a b2
 refine Ws [] [(1,pt 101),(3,oi (v0.f_L.length:Int)),(99,ob ((v0.f_L.length:Int) == 1))] [(101,bx (Zc v0))] ?_
 refine WA.cond (b:=((v0.f_L.length:Int) == 1)) rfl (fun b3=>?_) (fun b3=>?_)
 {
 have a:=Zk a b3
 refine Ws [] [(2,ob false)] [] ?_
 refine WA.ret ?_
 obtain rfl:=zj_ a
 exact Zo (ob false) [] kr kr kr kr nd rfl rfl }
 {
 have a:=Zj a b3
 refine WA.skip ?_
 exact ⟨jk,a⟩ } }
 {
 have a:=Zj a b2
 refine Ws [] [(1,pt 101),(3,oi (v0.f_L.length:Int)),(35,oi v0.f_Kind),(100,ob (v0.f_Kind == 3))] [(101,bx (Zc v0))] ?_
 refine WA.cond (b:=(v0.f_Kind == 3)) rfl (fun b4=>?_) (fun b4=>?_)
 {
 have a:=Zk a b4
 refine Ws [] [(1,pt 101),(3,oi (v0.f_L.length:Int)),(103,ob (decide ((v0.f_L.length:Int)<2)))] [(101,bx (Zc v0))] ?_
 refine WA.cond (b:=(decide ((v0.f_L.length:Int)<2))) rfl (fun b5=>?_) (fun b5=>?_)
 {
 have a:=Zk a b5
 refine Ws [] [(2,ob false)] [] ?_
 refine WA.ret ?_
 obtain rfl:=zj_ a
 exact Zo (ob false) [] kr kr kr kr nd rfl rfl }
 {
 have a:=Zj a b5
 refine WA.skip ?_
 exact ⟨jk,a⟩ } }
 {
 have a:=Zj a b4
 refine Ws [] [(1,pt 101),(3,oi (v0.f_L.length:Int)),(104,ob (v0.f_Kind == 4))] [(101,bx (Zc v0))] ?_
 refine WA.cond (b:=(v0.f_Kind == 4)) rfl (fun b6=>?_) (fun b6=>?_)
 {
 have a:=Zk a b6
 refine WA.join (fun x=>∃(c2:Bool),J x [(1,pt 101),(3,oi (v0.f_L.length:Int)),(134,ob c2)] [(101,bx (Zc v0))]∧ZcG R43 k v0 c2=some r) ?_ ?_
 {
 rintro x ⟨c2,w,a⟩
 refine Wj w ?_
 clear w
 refine WA.cond (b:=c2) rfl (fun b7=>?_) (fun b7=>?_)
 {
 have a:=Zk a b7
 refine Ws [] [(2,ob false)] [] ?_
 refine WA.ret ?_
 obtain rfl:=zj_ a
 exact Zo (ob false) [] kr kr kr kr nd rfl rfl }
 {
 have a:=Zj a b7
 refine WA.skip ?_
 exact ⟨jk,a⟩ } }
 {
 rcases zo_ ((v0.f_L.length:Int) != 1) with n | n
 {
 have a:=Zk a n
 refine Wo [(2,.bool true)] [(1,pt 101),(3,oi (v0.f_L.length:Int)),(134,ob true)] [(101,bx (Zc v0))] [((v0.f_L.length:Int) != 1)=true] ⟨n,trivial⟩ ?_
 exact ⟨true,jk,a⟩ }
 {
 have a:=Zj a n
 rcases zo_ (decide (v0.f_Min<0)) with q | q
 {
 have a:=Zk a q
 refine Wo [(2,.bool false),(7,.bool true)] [(1,pt 101),(3,oi (v0.f_L.length:Int)),(134,ob true)] [(101,bx (Zc v0))] [((v0.f_L.length:Int) != 1)=false,(decide (v0.f_Min<0))=true] ⟨n,q,trivial⟩ ?_
 exact ⟨true,jk,a⟩ }
 {
 have a:=Zj a q
 rcases zo_ (decide (v0.f_Min > 20)) with u | u
 {
 have a:=Zk a u
 refine Wo [(2,.bool false),(7,.bool false),(12,.bool true)] [(1,pt 101),(3,oi (v0.f_L.length:Int)),(134,ob true)] [(101,bx (Zc v0))] [((v0.f_L.length:Int) != 1)=false,(decide (v0.f_Min<0))=false,(decide (v0.f_Min > 20))=true] ⟨n,q,u,trivial⟩ ?_
 exact ⟨true,jk,a⟩ }
 {
 have a:=Zj a u
 rcases zo_ (v0.f_Max != (-1)) with a1 | a1
 {
 have a:=Zk a a1
 rcases zo_ (decide (v0.f_Max<v0.f_Min)) with a6 | a6
 {
 have a:=Zk a a6
 refine Wo [(2,.bool false),(7,.bool false),(12,.bool false),(16,.bool true),(22,.bool true)] [(1,pt 101),(3,oi (v0.f_L.length:Int)),(134,ob true)] [(101,bx (Zc v0))] [((v0.f_L.length:Int) != 1)=false,(decide (v0.f_Min<0))=false,(decide (v0.f_Min > 20))=false,(v0.f_Max != (-1))=true,(decide (v0.f_Max<v0.f_Min))=true] ⟨n,q,u,a1,a6,trivial⟩ ?_
 exact ⟨true,jk,a⟩ }
 {
 have a:=Zj a a6
 refine Wo [(2,.bool false),(7,.bool false),(12,.bool false),(16,.bool true),(22,.bool false)] [(1,pt 101),(3,oi (v0.f_L.length:Int)),(134,ob (decide (v0.f_Max > 20)))] [(101,bx (Zc v0))] [((v0.f_L.length:Int) != 1)=false,(decide (v0.f_Min<0))=false,(decide (v0.f_Min > 20))=false,(v0.f_Max != (-1))=true,(decide (v0.f_Max<v0.f_Min))=false] ⟨n,q,u,a1,a6,trivial⟩ ?_
 exact ⟨(decide (v0.f_Max > 20)),jk,a⟩ } }
 {
 have a:=Zj a a1
 refine Wo [(2,.bool false),(7,.bool false),(12,.bool false),(16,.bool false)] [(1,pt 101),(3,oi (v0.f_L.length:Int)),(134,ob false)] [(101,bx (Zc v0))] [((v0.f_L.length:Int) != 1)=false,(decide (v0.f_Min<0))=false,(decide (v0.f_Min > 20))=false,(v0.f_Max != (-1))=false] ⟨n,q,u,a1,trivial⟩ ?_
 exact ⟨false,jk,a⟩ } } } } } }
 {
 have a:=Zj a b6
 refine Ws [] [(2,ob false)] [] ?_
 refine WA.ret ?_
 obtain rfl:=zj_ a
 exact Zo (ob false) [] kr kr kr kr nd rfl rfl } } } } } } }
 {
 rcases zo_ (v0.f_Kind != 1) with i | i
 {
 have a:=Zk a i
 rcases zo_ (decide ((v0.f_Set.length:Int) > 0)) with t | t
 {
 have a:=Zk a t
 refine Wm ((v0.f_Set.map Za).length:Int) (v0.f_Set.length:Int) (fun m_=>([(1,pt 101),(30,ob true)],[(101,bx (Zc v0))],[(v0.f_Kind != 1)=true,(decide (m_ > 0))=true])) ((by first | (simp only [zl,Zi];done) | (simp only [zl,Zi];omega) | omega)) [(3,.bool true),(9,.bool true)] ⟨i,t,trivial⟩ ?_
 exact ⟨true,jk,a⟩ }
 {
 have a:=Zj a t
 rcases zo_ (v0.f_Kind != 4) with y | y
 {
 have a:=Zk a y
 rcases zo_ (v0.f_Min != 0) with a2 | a2
 {
 have a:=Zk a a2
 refine Wm ((v0.f_Set.map Za).length:Int) (v0.f_Set.length:Int) (fun m_=>([(1,pt 101),(30,ob true)],[(101,bx (Zc v0))],[(v0.f_Kind != 1)=true,(decide (m_ > 0))=false,(v0.f_Kind != 4)=true,(v0.f_Min != 0)=true])) ((by first | (simp only [zl,Zi];done) | (simp only [zl,Zi];omega) | omega)) [(3,.bool true),(9,.bool false),(13,.bool true),(17,.bool true)] ⟨i,t,y,a2,trivial⟩ ?_
 exact ⟨true,jk,a⟩ }
 {
 have a:=Zj a a2
 refine Wm ((v0.f_Set.map Za).length:Int) (v0.f_Set.length:Int) (fun m_=>([(1,pt 101),(30,ob (v0.f_Max != 0))],[(101,bx (Zc v0))],[(v0.f_Kind != 1)=true,(decide (m_ > 0))=false,(v0.f_Kind != 4)=true,(v0.f_Min != 0)=false])) ((by first | (simp only [zl,Zi];done) | (simp only [zl,Zi];omega) | omega)) [(3,.bool true),(9,.bool false),(13,.bool true),(17,.bool false)] ⟨i,t,y,a2,trivial⟩ ?_
 exact ⟨(v0.f_Max != 0),jk,a⟩ } }
 {
 have a:=Zj a y
 refine Wm ((v0.f_Set.map Za).length:Int) (v0.f_Set.length:Int) (fun m_=>([(1,pt 101),(30,ob false)],[(101,bx (Zc v0))],[(v0.f_Kind != 1)=true,(decide (m_ > 0))=false,(v0.f_Kind != 4)=false])) ((by first | (simp only [zl,Zi];done) | (simp only [zl,Zi];omega) | omega)) [(3,.bool true),(9,.bool false),(13,.bool false)] ⟨i,t,y,trivial⟩ ?_
 exact ⟨false,jk,a⟩ } } }
 {
 have a:=Zj a i
 rcases zo_ (v0.f_Kind != 4) with z | z
 {
 have a:=Zk a z
 rcases zo_ (v0.f_Min != 0) with a3 | a3
 {
 have a:=Zk a a3
 refine Wo [(3,.bool false),(13,.bool true),(17,.bool true)] [(1,pt 101),(30,ob true)] [(101,bx (Zc v0))] [(v0.f_Kind != 1)=false,(v0.f_Kind != 4)=true,(v0.f_Min != 0)=true] ⟨i,z,a3,trivial⟩ ?_
 exact ⟨true,jk,a⟩ }
 {
 have a:=Zj a a3
 refine Wo [(3,.bool false),(13,.bool true),(17,.bool false)] [(1,pt 101),(30,ob (v0.f_Max != 0))] [(101,bx (Zc v0))] [(v0.f_Kind != 1)=false,(v0.f_Kind != 4)=true,(v0.f_Min != 0)=false] ⟨i,z,a3,trivial⟩ ?_
 exact ⟨(v0.f_Max != 0),jk,a⟩ } }
 {
 have a:=Zj a z
 refine Wo [(3,.bool false),(13,.bool false)] [(1,pt 101),(30,ob false)] [(101,bx (Zc v0))] [(v0.f_Kind != 1)=false,(v0.f_Kind != 4)=false] ⟨i,z,trivial⟩ ?_
 exact ⟨false,jk,a⟩ } } }
def F43:Nat→Zd→Option Bool
  | 0,_=>none
  | k+1,v0=>Zk1 (F43 k) k v0
theorem Zll:∀(k:Nat),∀(v0:Zd) (r:Bool),F43 k v0=some r→SM μ 43 [tv (Zc v0)] [] (ob r) []
  | 0=>fun _ _ a=>by cases a
  | k+1=>fun v0 r a=>Zpo (F43 k) (Zll k) k v0 r a
def ZfT (a:Bool):Option Bool:=
  some a
def F22 (k:Nat) (v0:Zd):Option Bool:=
  (F42 k v0 1).bind fun a=>cond (decide (a≤16)) ((F43 k v0).bind fun b=>cond b ((F20 k v0).bind fun c=>(ZfT (decide (c≤200)))) ((ZfT false))) ((ZfT false))
theorem Zlb (k:Nat) (v0:Zd) (r:Bool) (b:F22 k v0=some r):SM μ 22 [tv (Zc v0)] [] (ob r) []:=by
 refine Zz [] Tryz.func22 rfl kr kr ?_
 show WA _ _ 15 _ _ _
 refine Ws [(0,.obj 101)] [(1,pt 101)] [(101,bx (Zc v0))] ?_
 refine WA.join (fun m=>∃(g:Bool),J m [(2,ob g)] []∧ZfT g=some r) ?_ ?_
 {
 rintro m ⟨g,l,b⟩
 refine Wj l ?_
 clear l
 refine WA.ret ?_
 obtain rfl:=zj_ b
 exact Zo (ob g) [] kr kr kr kr nd rfl rfl }
 {
 obtain ⟨a,f,b⟩:=Zh b
 rcases zo_ (decide (a≤16)) with c | c
 {
 have b:=Zk b c
 obtain ⟨d,i,b⟩:=Zh b
 rcases zo_ d with e | e
 {
 have b:=Zk b e
 obtain ⟨h,j,b⟩:=Zh b
 refine Wo [(1,.callR [] (oi a)),(3,.bool true),(5,.callR [] (ob d)),(7,.bool true),(9,.callR [] (oi h))] [(2,ob (decide (h≤200)))] [] [SM μ 42 [tv (Zc v0),oi 1] [] (oi a) [],([]:List Nat).Nodup,(decide (a≤16))=true,SM μ 43 [tv (Zc v0)] [] (ob d) [],([]:List Nat).Nodup,d=true,SM μ 20 [tv (Zc v0)] [] (oi h) [],([]:List Nat).Nodup] ⟨(ZfY k _ _ _ f),nd,c,(Zll k _ _ i),nd,e,(Zil k _ _ j),nd,trivial⟩ ?_
 exact ⟨(decide (h≤200)),jk,b⟩ }
 {
 have b:=Zj b e
 refine Wo [(1,.callR [] (oi a)),(3,.bool true),(5,.callR [] (ob d)),(7,.bool false)] [(2,ob false)] [] [SM μ 42 [tv (Zc v0),oi 1] [] (oi a) [],([]:List Nat).Nodup,(decide (a≤16))=true,SM μ 43 [tv (Zc v0)] [] (ob d) [],([]:List Nat).Nodup,d=false] ⟨(ZfY k _ _ _ f),nd,c,(Zll k _ _ i),nd,e,trivial⟩ ?_
 exact ⟨false,jk,b⟩ } }
 {
 have b:=Zj b c
 refine Wo [(1,.callR [] (oi a)),(3,.bool false)] [(2,ob false)] [] [SM μ 42 [tv (Zc v0),oi 1] [] (oi a) [],([]:List Nat).Nodup,(decide (a≤16))=false] ⟨(ZfY k _ _ _ f),nd,c,trivial⟩ ?_
 exact ⟨false,jk,b⟩ } }
def ZiJ (a:Int→Option Bool) (b:Int) (c:Bool):Option Bool:=
  cond c ((some true)) ((a (w64 (b+1))))
def ZeW (b:Int→Option Bool) (v0:List Zb) (v1:Int) (a:Int):Option Bool:=
  (cond (decide (a<(v0.length:Int))) ((idxL v0 a).bind fun c=>cond (decide (c.f_Lo≤v1)) ((idxL v0 a).bind fun d=>(ZiJ b a (decide (v1≤d.f_Hi)))) ((ZiJ b a false))) (((some false))))
def ZeX (v0:List Zb) (v1:Int):Nat→Int→Option Bool
  | 0,_=>none
  | b+1,a=>ZeW (ZeX v0 v1 b) v0 v1 a
def F68 (k:Nat) (v0:List Zb) (v1:Int):Option Bool:=
  ((ZeX v0 v1 k 0))
theorem ZrF (k:Nat) (v0:List Zb) (v1:Int) (r:Bool) (c:F68 k v0 v1=some r):SM μ 68 [one (.sl (v0.map Za)),oi v1] [] (ob r) []:=by
 refine Zz [] Tryz.func68 rfl kr kr ?_
 show WA _ _ 28 _ _ _
 refine Ws [] [(0,one (.sl (v0.map Za))),(1,oi v1)] [] ?_
 refine WA.seq ?_
 refine Ws [] [(0,one (.sl (v0.map Za))),(1,oi v1),(5,oi 0)] [] ?_
 refine WA.block ?_
 refine WA.loop (fun m q=>∃(a:Int),J q [(0,one (.sl (v0.map Za))),(1,oi v1),(5,oi a)] []∧ZeX v0 v1 m a=some r) k ⟨0,jk,c⟩ ?_
 clear c
 rintro m2 q ⟨a,p,c⟩
 refine Wj p ?_
 clear p
 cases m2 with
 | zero=>cases c
 | succ m2=>
  obtain ⟨o,l⟩:∃g,g=ZeX v0 v1 m2:=⟨_,rfl⟩
  have c:ZeW o v0 v1 a=some r:=by first | (rw [l];exact c) | exact c
  refine WA.seq ?_
  refine WA.seq ?_
  refine Wm ((v0.map Za).length:Int) (v0.length:Int) (fun t=>([(0,one (.sl (v0.map Za))),(1,oi v1),(5,oi a),(9,ob (decide (a<t)))],[],[])) ((by first | (simp only [zl,Zi];done) | (simp only [zl,Zi];omega) | omega)) [] trivial ?_
  refine WA.cond (b:=(decide (a<(v0.length:Int)))) rfl (fun f=>?_) (fun f=>?_)
  {
 have c:=Zk c f
 refine WA.skip ?_
 refine WA.seq ?_
 refine WA.block ?_
 refine WA.join (fun q=>∃(i:Bool),J q [(0,one (.sl (v0.map Za))),(1,oi v1),(5,oi a),(27,ob i)] []∧ZiJ o a i=some r) ?_ ?_
 {
 rintro q ⟨i,p,c⟩
 refine Wj p ?_
 clear p
 refine WA.cond (b:=i) rfl (fun h=>?_) (fun h=>?_)
 {
 have c:=Zk c h
 refine Ws [] [(4,ob true)] [] ?_
 refine WA.ret ?_
 obtain rfl:=zj_ c
 exact Zo (ob true) [] kr kr kr kr nd rfl rfl }
 {
 have c:=Zj c h
 refine WA.skip ?_
 refine Wr [] [(0,one (.sl (v0.map Za))),(1,oi v1),(5,oi (w64 (a+1)))] [] ?_
 exact ⟨m2,zl_ _,(w64 (a+1)),jk,by rw [l] at c;exact c⟩ } }
 {
 obtain ⟨d,n,c⟩:=Zh c
 rcases zo_ (decide (d.f_Lo≤v1)) with e | e
 {
 have c:=Zk c e
 obtain ⟨j,s,c⟩:=Zh c
 refine Wo [(2,.cells (Za d)),(7,.bool true),(11,.cells (Za j))] [(0,one (.sl (v0.map Za))),(1,oi v1),(5,oi a),(27,ob (decide (v1≤j.f_Hi)))] [] [idxL (v0.map Za) a=some (Za d),(decide (d.f_Lo≤v1))=true,idxL (v0.map Za) a=some (Za j)] ⟨(Zs _ n),e,(Zs _ s),trivial⟩ ?_
 exact ⟨(decide (v1≤j.f_Hi)),jk,c⟩ }
 {
 have c:=Zj c e
 refine Wo [(2,.cells (Za d)),(7,.bool false)] [(0,one (.sl (v0.map Za))),(1,oi v1),(5,oi a),(27,ob false)] [] [idxL (v0.map Za) a=some (Za d),(decide (d.f_Lo≤v1))=false] ⟨(Zs _ n),e,trivial⟩ ?_
 exact ⟨false,jk,c⟩ } } }
  {
 have c:=Zj c f
 refine WA.exit ?_
 refine Ws [] [(4,ob false)] [] ?_
 refine WA.ret ?_
 obtain rfl:=zj_ c
 exact Zo (ob false) [] kr kr kr kr nd rfl rfl }
def ZiL (a:(List Bool)→Bool→Int→Option (Bool×(List Bool))) (b:Int) (c:List Bool) (d:Bool):Option (Bool×(List Bool)):=
  a c d (w64 (b+1))
def ZdE (c:(List Bool)→Bool→Int→Option (Bool×(List Bool))) (v1:List Bool) (b:List Bool) (a:Int) (d:Bool):Option (Bool×(List Bool)):=
  if (0:Int)≤a∧a<(b.length:Int) then (idxL b a).bind fun e=>cond e (if (0:Int)≤a∧a<(b.length:Int) then (idxL b a).bind fun g=>(ZiL c a (b.set (Int.toNat a) true) d) else none) ((idxL v1 a).bind fun f=>if (0:Int)≤a∧a<(b.length:Int) then (idxL b a).bind fun h=>(ZiL c a (b.set (Int.toNat a) f) d) else none) else none
def ZiK (c:(List Bool)→Bool→Int→Option (Bool×(List Bool))) (v1:List Bool) (b:List Bool) (d:Bool) (a:Int):Option (Bool×(List Bool)):=
  (cond (decide (a<(b.length:Int))) ((cond d ((ZdE c v1 b a true)) ((idxL v1 a).bind fun e=>cond e (if (0:Int)≤a∧a<(b.length:Int) then (idxL b a).bind fun f=>(ZdE c v1 b a (!f)) else none) ((ZdE c v1 b a false))))) (((some (d,b)))))
def Zca (v1:List Bool):Nat→(List Bool)→Bool→Int→Option (Bool×(List Bool))
  | 0,_,_,_=>none
  | d+1,a,b,c=>ZiK (Zca v1 d) v1 a b c
def F69 (k:Nat) (v0:List Bool) (v1:List Bool):Option (Bool×(List Bool)):=
  (((Zca v1 k v0 false 0)))
theorem Zlv (k:Nat) (v0:List Bool) (v1:List Bool) (r:Bool×(List Bool)) (e:F69 k v0 v1=some r) {n0:Nat} (hn_n0:n0=v0.length):SM μ 69 [ar 0 n0,one (.sl (v1.map Zp))] [.arr 1 (v0.map Zp)] (ob r.1) [.arr 1 (r.2.map Zp)]:=by
 refine Zz [0] Tryz.func69 rfl kr kr ?_
 show WA _ _ 41 _ _ _
 refine Ws [] [(0,ar 0 n0),(1,one (.sl (v1.map Zp)))] [(0,.arr 1 (v0.map Zp))] ?_
 refine Ws [] [(0,ar 0 n0),(1,one (.sl (v1.map Zp))),(5,ob false)] [(0,.arr 1 (v0.map Zp))] ?_
 refine WA.seq ?_
 refine Ws [] [(0,ar 0 n0),(1,one (.sl (v1.map Zp))),(5,ob false),(6,oi 0)] [(0,.arr 1 (v0.map Zp))] ?_
 refine WA.block ?_
 refine WA.loop (fun m s_=>∃(c:List Bool) (d:Nat) (f:Bool) (a:Int),J s_ [(0,ar 0 d),(1,one (.sl (v1.map Zp))),(5,ob f),(6,oi a)] [(0,.arr 1 (c.map Zp))]∧d=(c:List _).length∧Zca v1 m c f a=some r) k ⟨v0,n0,false,0,jk,zt,e⟩ ?_
 clear e
 rintro m4 s_ ⟨c,d,f,a,y,b3,e⟩
 refine Wj y ?_
 clear y
 cases m4 with
 | zero=>cases e
 | succ m4=>
  obtain ⟨w,z⟩:∃g,g=Zca v1 m4:=⟨_,rfl⟩
  have e:ZiK w v1 c f a=some r:=by first | (rw [z];exact e) | exact e
  refine WA.seq ?_
  refine WA.seq ?_
  refine Wm ((d:Nat):Int) (c.length:Int) (fun m_=>([(0,ar 0 d),(1,one (.sl (v1.map Zp))),(5,ob f),(6,oi a),(10,ob (decide (a<m_)))],[(0,.arr 1 (c.map Zp))],[])) ((by first | (simp only [zl,Zi];done) | (simp only [zl,Zi];omega) | omega)) [] trivial ?_
  refine WA.cond (b:=(decide (a<(c.length:Int)))) rfl (fun v=>?_) (fun v=>?_)
  {
 have e:=Zk e v
 refine WA.skip ?_
 refine WA.join (fun s_=>∃(p:List Bool) (s:Nat) (t:Bool),J s_ [(0,ar 0 s),(1,one (.sl (v1.map Zp))),(5,ob t),(6,oi a)] [(0,.arr 1 (p.map Zp))]∧s=(p:List _).length∧ZiL w a p t=some r) ?_ ?_
 {
 rintro s_ ⟨p,s,t,y,b4,e⟩
 refine Wj y ?_
 clear y
 refine Wr [] [(0,ar 0 s),(1,one (.sl (v1.map Zp))),(5,ob t),(6,oi (w64 (a+1)))] [(0,.arr 1 (p.map Zp))] ?_
 exact ⟨m4,zl_ _,p,s,t,(w64 (a+1)),jk,zt,by rw [z] at e;exact e⟩ }
 {
 refine WA.block ?_
 refine WA.join (fun s_=>∃(i:Bool),J s_ [(0,ar 0 d),(1,one (.sl (v1.map Zp))),(5,ob i),(6,oi a)] [(0,.arr 1 (c.map Zp))]∧ZdE w v1 c a i=some r) ?_ ?_
 {
 rintro s_ ⟨i,y,e⟩
 refine Wj y ?_
 clear y
 obtain ⟨q,e⟩:=Zn e
 obtain ⟨l,a3,e⟩:=Zh e
 rcases zo_ l with o | o
 {
 have e:=Zk e o
 obtain ⟨a7,e⟩:=Zn e
 obtain ⟨a5,b0,e⟩:=Zh e
 have z0:a<((d:Nat):Int):=(by have h_:=q.2;(try simp only [zl,Zi] at h_ ⊢);omega)
 refine Wm (((c.map Zp).set (Int.toNat a) (Zp true)):(List (List PV))) ((c.set (Int.toNat a) true).map Zp) (fun m_=>([(0,ar 0 d),(1,one (.sl (v1.map Zp))),(5,ob i),(6,oi a)],[(0,.arr 1 m_)],[d=(c.map Zp).length,(0:Int)≤a,a<((d:Nat):Int),d=(c.map Zp).length,(c.map Zp)[Int.toNat a]?=some [.bool l],l=true,d=(c.map Zp).length,(0:Int)≤a,a<((d:Nat):Int),d=(c.map Zp).length,(c.map Zp)[Int.toNat a]?=some [.bool a5]])) (zm) [(5,.cells [.bool l]),(6,.bool true),(13,.cells [.bool a5])] ⟨zt,q.1,z0,zt,(Zr (Zs _ a3)),o,zt,a7.1,z0,zt,(Zr (Zs _ b0)),trivial⟩ ?_
 exact ⟨(c.set (Int.toNat a) true),d,i,jk,zt,e⟩ }
 {
 have e:=Zj e o
 obtain ⟨u,b1,e⟩:=Zh e
 obtain ⟨a8,e⟩:=Zn e
 obtain ⟨a6,b2,e⟩:=Zh e
 have z0:a<((d:Nat):Int):=(by have h_:=q.2;(try simp only [zl,Zi] at h_ ⊢);omega)
 refine Wm (((c.map Zp).set (Int.toNat a) (Zp u)):(List (List PV))) ((c.set (Int.toNat a) u).map Zp) (fun m_=>([(0,ar 0 d),(1,one (.sl (v1.map Zp))),(5,ob i),(6,oi a)],[(0,.arr 1 m_)],[d=(c.map Zp).length,(0:Int)≤a,a<((d:Nat):Int),d=(c.map Zp).length,(c.map Zp)[Int.toNat a]?=some [.bool l],l=false,idxL (v1.map Zp) a=some [.bool u],d=(c.map Zp).length,(0:Int)≤a,a<((d:Nat):Int),d=(c.map Zp).length,(c.map Zp)[Int.toNat a]?=some [.bool a6]])) (zm) [(5,.cells [.bool l]),(6,.bool false),(9,.cells [.bool u]),(13,.cells [.bool a6])] ⟨zt,q.1,z0,zt,(Zr (Zs _ a3)),o,(Zs _ b1),zt,a8.1,z0,zt,(Zr (Zs _ b2)),trivial⟩ ?_
 exact ⟨(c.set (Int.toNat a) u),d,i,jk,zt,e⟩ } }
 {
 rcases zo_ f with h | h
 {
 have e:=Zk e h
 refine Wo [(1,.bool true)] [(0,ar 0 d),(1,one (.sl (v1.map Zp))),(5,ob true),(6,oi a)] [(0,.arr 1 (c.map Zp))] [f=true] ⟨h,trivial⟩ ?_
 exact ⟨true,jk,e⟩ }
 {
 have e:=Zj e h
 obtain ⟨j,a2,e⟩:=Zh e
 rcases zo_ j with n | n
 {
 have e:=Zk e n
 obtain ⟨a1,e⟩:=Zn e
 obtain ⟨x,a9,e⟩:=Zh e
 refine Wo [(1,.bool false),(4,.cells [.bool j]),(6,.bool true),(10,.cells [.bool x])] [(0,ar 0 d),(1,one (.sl (v1.map Zp))),(5,ob (!x)),(6,oi a)] [(0,.arr 1 (c.map Zp))] [f=false,idxL (v1.map Zp) a=some [.bool j],j=true,d=(c.map Zp).length,(0:Int)≤a,a<((d:Nat):Int),d=(c.map Zp).length,(c.map Zp)[Int.toNat a]?=some [.bool x]] ⟨h,(Zs _ a2),n,zt,a1.1,(by have h_:=a1.2;(try simp only [zl,Zi] at h_ ⊢);omega),zt,(Zr (Zs _ a9)),trivial⟩ ?_
 exact ⟨(!x),jk,e⟩ }
 {
 have e:=Zj e n
 refine Wo [(1,.bool false),(4,.cells [.bool j]),(6,.bool false)] [(0,ar 0 d),(1,one (.sl (v1.map Zp))),(5,ob false),(6,oi a)] [(0,.arr 1 (c.map Zp))] [f=false,idxL (v1.map Zp) a=some [.bool j],j=false] ⟨h,(Zs _ a2),n,trivial⟩ ?_
 exact ⟨false,jk,e⟩ } } } } }
  {
 have e:=Zj e v
 refine WA.exit ?_
 refine Ws [] [(4,ob f)] [(0,.arr 1 (c.map Zp))] ?_
 refine WA.ret ?_
 obtain rfl:=zj_ e
 exact Zo (ob f) [.arr 1 (c.map Zp)] kr kr kr kr nd rfl rfl }
def F143 (k:Nat):Option (List Zb):=
  ((some ([(⟨0,55295⟩:Zb),(⟨57344,1114111⟩:Zb)]:List Zb)))
theorem ZjS (k:Nat) (r:List Zb) (a:F143 k=some r):SM μ 143 [] [] (one (.sl (r.map Za))) []:=by
 refine Zz [] Tryz.func143 rfl kr kr ?_
 show WA _ _ 4 _ _ _
 refine Ws [] [] [] ?_
 refine Ws [] [(0,one (.sl (([(⟨0,55295⟩:Zb),(⟨57344,1114111⟩:Zb)]:List Zb).map Za)))] [] ?_
 refine WA.ret ?_
 obtain rfl:=zj_ a
 exact Zo (one (.sl (([(⟨0,55295⟩:Zb),(⟨57344,1114111⟩:Zb)]:List Zb).map Za))) [] kr kr kr kr nd rfl rfl
def Zfs (a:(List Zb)→Int→Option (List Zb)) (b:Int) (c:List Zb):Option (List Zb):=
  a c (w64 (b+1))
def Zct (self8:(List Zb)→Int→Option (List Zb)) (c:(List Zb)→Int→Option (List Zb)) (v0:List Zb) (v1:List Zb) (d:Int) (b:List Zb) (a:Int):Option (List Zb):=
  (cond (decide (a<(v1.length:Int))) ((idxL v0 d).bind fun e=>(idxL v1 a).bind fun f=>(idxL v0 d).bind fun g=>(idxL v1 a).bind fun h=>((cond (decide ((mx e.f_Lo f.f_Lo)≤(mn g.f_Hi h.f_Hi))) (if b.length+([(⟨(mx e.f_Lo f.f_Lo),(mn g.f_Hi h.f_Hi)⟩:Zb)]:List Zb).length≤1073741824 then (Zfs c a (b ++ ([(⟨(mx e.f_Lo f.f_Lo),(mn g.f_Hi h.f_Hi)⟩:Zb)]:List Zb))) else none) ((Zfs c a b))))) ((self8 b (w64 (d+1)))))
def ZbX (self8:(List Zb)→Int→Option (List Zb)) (v0:List Zb) (v1:List Zb) (a:Int):Nat→(List Zb)→Int→Option (List Zb)
  | 0,_,_=>none
  | d+1,b,c=>Zct self8 (ZbX self8 v0 v1 a d) v0 v1 a b c
def Zdm (k:Nat) (self8:(List Zb)→Int→Option (List Zb)) (v0:List Zb) (v1:List Zb) (a:List Zb) (b:Int):Option (List Zb):=
  (cond (decide (b<(v0.length:Int))) (((ZbX self8 v0 v1 b k a 0))) (((some a))))
def ZbG (k:Nat) (v0:List Zb) (v1:List Zb):Nat→(List Zb)→Int→Option (List Zb)
  | 0,_,_=>none
  | c+1,a,b=>Zdm k (ZbG k v0 v1 c) v0 v1 a b
def F190 (k:Nat) (v0:List Zb) (v1:List Zb):Option (List Zb):=
  (((ZbG k v0 v1 k ([]:List Zb) 0)))
theorem Zm2 (k:Nat) (v0:List Zb) (v1:List Zb) (r:List Zb) (c:F190 k v0 v1=some r):SM μ 190 [one (.sl (v0.map Za)),one (.sl (v1.map Za))] [] (one (.sl (r.map Za))) []:=by
 refine Zz [] Tryz.func190 rfl kr kr ?_
 show WA _ _ 54 _ _ _
 refine Ws [] [(0,one (.sl (v0.map Za))),(1,one (.sl (v1.map Za)))] [] ?_
 refine Ws [(0,.obj 105)] [(0,one (.sl (v0.map Za))),(1,one (.sl (v1.map Za))),(5,ar 105 0)] [(105,.arr 2 (([]:List Zb).map Za))] ?_
 refine WA.seq ?_
 refine Ws [] [(0,one (.sl (v0.map Za))),(1,one (.sl (v1.map Za))),(5,ar 105 0),(6,oi 0)] [(105,.arr 2 (([]:List Zb).map Za))] ?_
 refine WA.block ?_
 refine WA.loop (fun m s_=>∃(f:List Zb) (p:Nat) (a:Int),J s_ [(0,one (.sl (v0.map Za))),(1,one (.sl (v1.map Za))),(5,ar 105 p),(6,oi a)] [(105,.arr 2 (f.map Za))]∧p=(f:List _).length∧ZbG k v0 v1 m f a=some r) k ⟨([]:List Zb),0,0,jk,zt,c⟩ ?_
 clear c
 rintro m8 s_ ⟨f,p,a,y,a8,c⟩
 refine Wj y ?_
 clear y
 cases m8 with
 | zero=>cases c
 | succ m8=>
  obtain ⟨self8,z⟩:∃g,g=ZbG k v0 v1 m8:=⟨_,rfl⟩
  have c:Zdm k self8 v0 v1 f a=some r:=by first | (rw [z];exact c) | exact c
  refine WA.seq ?_
  refine WA.seq ?_
  refine Wm ((v0.map Za).length:Int) (v0.length:Int) (fun m_=>([(0,one (.sl (v0.map Za))),(1,one (.sl (v1.map Za))),(5,ar 105 p),(6,oi a),(13,ob (decide (a<m_)))],[(105,.arr 2 (f.map Za))],[])) ((by first | (simp only [zl,Zi];done) | (simp only [zl,Zi];omega) | omega)) [] trivial ?_
  refine WA.cond (b:=(decide (a<(v0.length:Int)))) rfl (fun v=>?_) (fun v=>?_)
  {
 have c:=Zk c v
 refine WA.skip ?_
 refine WA.seq ?_
 refine WA.block ?_
 refine Ws [] [(0,one (.sl (v0.map Za))),(1,one (.sl (v1.map Za))),(5,ar 105 p),(6,oi a),(7,oi 0)] [(105,.arr 2 (f.map Za))] ?_
 refine WA.block ?_
 refine WA.loop (fun m s_=>∃(d:List Zb) (h:Nat) (e:Int),J s_ [(0,one (.sl (v0.map Za))),(1,one (.sl (v1.map Za))),(5,ar 105 h),(6,oi a),(7,oi e)] [(105,.arr 2 (d.map Za))]∧h=(d:List _).length∧ZbX self8 v0 v1 a m d e=some r) k ⟨f,p,0,jk,zt,c⟩ ?_
 clear c
 rintro m11 s_ ⟨d,h,e,y,a9,c⟩
 refine Wj y ?_
 clear y
 cases m11 with
 | zero=>cases c
 | succ m11=>
  obtain ⟨a1,u⟩:∃g,g=ZbX self8 v0 v1 a m11:=⟨_,rfl⟩
  have c:Zct self8 a1 v0 v1 a d e=some r:=by first | (rw [u];exact c) | exact c
  refine WA.seq ?_
  refine WA.seq ?_
  refine Wm ((v1.map Za).length:Int) (v1.length:Int) (fun m_=>([(0,one (.sl (v0.map Za))),(1,one (.sl (v1.map Za))),(5,ar 105 h),(6,oi a),(7,oi e),(19,ob (decide (e<m_)))],[(105,.arr 2 (d.map Za))],[])) ((by first | (simp only [zl,Zi];done) | (simp only [zl,Zi];omega) | omega)) [] trivial ?_
  refine WA.cond (b:=(decide (e<(v1.length:Int)))) rfl (fun w=>?_) (fun w=>?_)
  {
 have c:=Zk c w
 refine WA.skip ?_
 refine WA.join (fun s_=>∃(q:List Zb) (t:Nat),J s_ [(0,one (.sl (v0.map Za))),(1,one (.sl (v1.map Za))),(5,ar 105 t),(6,oi a),(7,oi e)] [(105,.arr 2 (q.map Za))]∧t=(q:List _).length∧Zfs a1 e q=some r) ?_ ?_
 {
 rintro s_ ⟨q,t,y,b0,c⟩
 refine Wj y ?_
 clear y
 refine Wr [] [(0,one (.sl (v0.map Za))),(1,one (.sl (v1.map Za))),(5,ar 105 t),(6,oi a),(7,oi (w64 (e+1)))] [(105,.arr 2 (q.map Za))] ?_
 exact ⟨m11,zl_ _,q,t,(w64 (e+1)),jk,zt,by rw [u] at c;exact c⟩ }
 {
 refine WA.block ?_
 refine WA.seq ?_
 obtain ⟨i,a4,c⟩:=Zh c
 obtain ⟨j,a5,c⟩:=Zh c
 obtain ⟨l,a6,c⟩:=Zh c
 obtain ⟨o,a7,c⟩:=Zh c
 refine Wd [(2,.cells (Za i)),(7,.cells (Za j)),(13,.cells (Za l)),(18,.cells (Za o))] [(0,one (.sl (v0.map Za))),(1,one (.sl (v1.map Za))),(5,ar 105 h),(6,oi a),(7,oi e),(8,oi (mx i.f_Lo j.f_Lo)),(9,oi (mn l.f_Hi o.f_Hi))] [(105,.arr 2 (d.map Za))] [idxL (v0.map Za) a=some (Za i),idxL (v1.map Za) e=some (Za j),idxL (v0.map Za) a=some (Za l),idxL (v1.map Za) e=some (Za o)] ⟨(Zs _ a4),(Zs _ a5),(Zs _ a6),(Zs _ a7),trivial⟩ ?_
 refine Ws [] [(0,one (.sl (v0.map Za))),(1,one (.sl (v1.map Za))),(5,ar 105 h),(6,oi a),(7,oi e),(8,oi (mx i.f_Lo j.f_Lo)),(9,oi (mn l.f_Hi o.f_Hi)),(46,ob (decide ((mx i.f_Lo j.f_Lo)≤(mn l.f_Hi o.f_Hi))))] [(105,.arr 2 (d.map Za))] ?_
 refine WA.cond (b:=(decide ((mx i.f_Lo j.f_Lo)≤(mn l.f_Hi o.f_Hi)))) rfl (fun x=>?_) (fun x=>?_)
 {
 have c:=Zk c x
 obtain ⟨a2,c⟩:=Zn c
 refine Wm (((d.map Za) ++ (([(⟨(mx i.f_Lo j.f_Lo),(mn l.f_Hi o.f_Hi)⟩:Zb)]:List Zb).map Za)):(List (List PV))) ((d ++ ([(⟨(mx i.f_Lo j.f_Lo),(mn l.f_Hi o.f_Hi)⟩:Zb)]:List Zb)).map Za) (fun m_=>([(0,one (.sl (v0.map Za))),(1,one (.sl (v1.map Za))),(5,ar 105 (h+1)),(6,oi a),(7,oi e)],[(105,.arr 2 m_)],[h=(d.map Za).length,(d.map Za).length+(([(⟨(mx i.f_Lo j.f_Lo),(mn l.f_Hi o.f_Hi)⟩:Zb)]:List Zb).map Za).length≤1073741824,∀es,es∈(([(⟨(mx i.f_Lo j.f_Lo),(mn l.f_Hi o.f_Hi)⟩:Zb)]:List Zb).map Za)→es.length=2])) (zm) [] ⟨zt,(by first | exact a2 | (simp only [List.length_map,Zi];exact a2)),(ZT ([(⟨(mx i.f_Lo j.f_Lo),(mn l.f_Hi o.f_Hi)⟩:Zb)]:List Zb)),trivial⟩ ?_
 exact ⟨(d ++ ([(⟨(mx i.f_Lo j.f_Lo),(mn l.f_Hi o.f_Hi)⟩:Zb)]:List Zb)),(h+1),jk,zt,c⟩ }
 {
 have c:=Zj c x
 refine WA.skip ?_
 exact ⟨d,h,jk,zt,c⟩ } } }
  {
 have c:=Zj c w
 refine WA.exit ?_
 refine Wr [] [(0,one (.sl (v0.map Za))),(1,one (.sl (v1.map Za))),(5,ar 105 h),(6,oi (w64 (a+1)))] [(105,.arr 2 (d.map Za))] ?_
 exact ⟨m8,zl_ _,d,h,(w64 (a+1)),jk,zt,by rw [z] at c;exact c⟩ } }
  {
 have c:=Zj c v
 refine WA.exit ?_
 refine Ws [] [(4,ar 105 p)] [(105,.arr 2 (f.map Za))] ?_
 refine WA.freeze 105 4 (s:=2) (n:=p) (els:=(f.map Za)) rfl rfl zt ?_
 refine Wk [(4,one (.sl (f.map Za)))] [] ?_
 refine WA.ret ?_
 obtain rfl:=zj_ c
 exact Zo (one (.sl (f.map Za))) [] kr kr kr kr nd rfl rfl }
def Zhe (b:(List Zb)→Int→Int→Option (List Zb)) (v0:List Zb) (a:Int) (c:List Zb):Option (List Zb):=
  (idxL v0 a).bind fun d=>(b c (w64 (d.f_Hi+1)) (w64 (a+1)))
def Zev (k:Nat) (a:List Zb):Option (List Zb):=
  (F143 k).bind fun b=>(F190 k a b).bind fun c=>(some c)
def Zdk (k:Nat) (d:(List Zb)→Int→Int→Option (List Zb)) (v0:List Zb) (a:List Zb) (b:Int) (c:Int):Option (List Zb):=
  (cond (decide (c<(v0.length:Int))) ((idxL v0 c).bind fun f=>(cond (decide (b<f.f_Lo)) ((idxL v0 c).bind fun e=>if a.length+([(⟨b,(w64 (e.f_Lo-1))⟩:Zb)]:List Zb).length≤1073741824 then (Zhe d v0 c (a ++ ([(⟨b,(w64 (e.f_Lo-1))⟩:Zb)]:List Zb))) else none) ((Zhe d v0 c a)))) (((cond (decide (b≤1114111)) (if a.length+([(⟨b,1114111⟩:Zb)]:List Zb).length≤1073741824 then (Zev k (a ++ ([(⟨b,1114111⟩:Zb)]:List Zb))) else none) ((Zev k a))))))
def Zdl (k:Nat) (v0:List Zb):Nat→(List Zb)→Int→Int→Option (List Zb)
  | 0,_,_,_=>none
  | d+1,a,b,c=>Zdk k (Zdl k v0 d) v0 a b c
def F175 (k:Nat) (v0:List Zb):Option (List Zb):=
  ((((Zdl k v0 k ([]:List Zb) 0 0))))
theorem ZqR (k:Nat) (v0:List Zb) (r:List Zb) (c:F175 k v0=some r):SM μ 175 [one (.sl (v0.map Za))] [] (one (.sl (r.map Za))) []:=by
 refine Zz [] Tryz.func175 rfl kr kr ?_
 show WA _ _ 46 _ _ _
 refine Ws [] [(0,one (.sl (v0.map Za)))] [] ?_
 refine Ws [(0,.obj 103)] [(0,one (.sl (v0.map Za))),(3,ar 103 0)] [(103,.arr 2 (([]:List Zb).map Za))] ?_
 refine Ws [] [(0,one (.sl (v0.map Za))),(3,ar 103 0),(4,oi 0)] [(103,.arr 2 (([]:List Zb).map Za))] ?_
 refine WA.seq ?_
 refine Ws [] [(0,one (.sl (v0.map Za))),(3,ar 103 0),(4,oi 0),(5,oi 0)] [(103,.arr 2 (([]:List Zb).map Za))] ?_
 refine WA.block ?_
 refine WA.loop (fun m z=>∃(d:List Zb) (f:Nat) (a:Int) (e:Int),J z [(0,one (.sl (v0.map Za))),(3,ar 103 f),(4,oi a),(5,oi e)] [(103,.arr 2 (d.map Za))]∧f=(d:List _).length∧Zdl k v0 m d a e=some r) k ⟨([]:List Zb),0,0,0,jk,zt,c⟩ ?_
 clear c
 rintro m2 z ⟨d,f,a,e,x,b0,c⟩
 refine Wj x ?_
 clear x
 cases m2 with
 | zero=>cases c
 | succ m2=>
  obtain ⟨a3,y⟩:∃g,g=Zdl k v0 m2:=⟨_,rfl⟩
  have c:Zdk k a3 v0 d a e=some r:=by first | (rw [y];exact c) | exact c
  refine WA.seq ?_
  refine WA.seq ?_
  refine Wm ((v0.map Za).length:Int) (v0.length:Int) (fun m_=>([(0,one (.sl (v0.map Za))),(3,ar 103 f),(4,oi a),(5,oi e),(9,ob (decide (e<m_)))],[(103,.arr 2 (d.map Za))],[])) ((by first | (simp only [zl,Zi];done) | (simp only [zl,Zi];omega) | omega)) [] trivial ?_
  refine WA.cond (b:=(decide (e<(v0.length:Int)))) rfl (fun p=>?_) (fun p=>?_)
  {
 have c:=Zk c p
 refine WA.skip ?_
 refine WA.seq ?_
 refine WA.block ?_
 refine WA.join (fun z=>∃(i:List Zb) (l:Nat),J z [(0,one (.sl (v0.map Za))),(3,ar 103 l),(5,oi e)] [(103,.arr 2 (i.map Za))]∧l=(i:List _).length∧Zhe a3 v0 e i=some r) ?_ ?_
 {
 rintro z ⟨i,l,x,b1,c⟩
 refine Wj x ?_
 clear x
 obtain ⟨o,a7,c⟩:=Zh c
 refine Wo [(2,.cells (Za o))] [(0,one (.sl (v0.map Za))),(3,ar 103 l),(4,oi (w64 (o.f_Hi+1))),(5,oi e)] [(103,.arr 2 (i.map Za))] [idxL (v0.map Za) e=some (Za o)] ⟨(Zs _ a7),trivial⟩ ?_
 refine Wr [] [(0,one (.sl (v0.map Za))),(3,ar 103 l),(4,oi (w64 (o.f_Hi+1))),(5,oi (w64 (e+1)))] [(103,.arr 2 (i.map Za))] ?_
 exact ⟨m2,zl_ _,i,l,(w64 (o.f_Hi+1)),(w64 (e+1)),jk,zt,by rw [y] at c;exact c⟩ }
 {
 obtain ⟨v,a5,c⟩:=Zh c
 refine Wos [(3,.cells (Za v))] [(0,one (.sl (v0.map Za))),(3,ar 103 f),(4,oi a),(5,oi e),(18,ob (decide (a<v.f_Lo)))] [(103,.arr 2 (d.map Za))] [idxL (v0.map Za) e=some (Za v)] ⟨(Zs _ a5),trivial⟩ ?_
 refine WA.cond (b:=(decide (a<v.f_Lo))) rfl (fun q=>?_) (fun q=>?_)
 {
 have c:=Zk c q
 obtain ⟨h,a6,c⟩:=Zh c
 obtain ⟨a1,c⟩:=Zn c
 refine Wm (((d.map Za) ++ (([(⟨a,(w64 (h.f_Lo-1))⟩:Zb)]:List Zb).map Za)):(List (List PV))) ((d ++ ([(⟨a,(w64 (h.f_Lo-1))⟩:Zb)]:List Zb)).map Za) (fun m_=>([(0,one (.sl (v0.map Za))),(3,ar 103 (f+1)),(5,oi e)],[(103,.arr 2 m_)],[idxL (v0.map Za) e=some (Za h),f=(d.map Za).length,(d.map Za).length+(([(⟨a,(w64 (h.f_Lo-1))⟩:Zb)]:List Zb).map Za).length≤1073741824,∀es,es∈(([(⟨a,(w64 (h.f_Lo-1))⟩:Zb)]:List Zb).map Za)→es.length=2])) (zm) [(4,.cells (Za h))] ⟨(Zs _ a6),zt,(by first | exact a1 | (simp only [List.length_map,Zi];exact a1)),(ZT ([(⟨a,(w64 (h.f_Lo-1))⟩:Zb)]:List Zb)),trivial⟩ ?_
 exact ⟨(d ++ ([(⟨a,(w64 (h.f_Lo-1))⟩:Zb)]:List Zb)),(f+1),jk,zt,c⟩ }
 {
 have c:=Zj c q
 refine WA.skip ?_
 exact ⟨d,f,jk,zt,c⟩ } } }
  {
 have c:=Zj c p
 refine WA.exit ?_
 refine WA.join (fun z=>∃(j:List Zb) (u:Nat),J z [(3,ar 103 u)] [(103,.arr 2 (j.map Za))]∧u=(j:List _).length∧Zev k j=some r) ?_ ?_
 {
 rintro z ⟨j,u,x,b2,c⟩
 refine Wj x ?_
 clear x
 refine WA.seq ?_
 refine WA.freeze 103 3 (s:=2) (n:=u) (els:=(j.map Za)) rfl rfl zt ?_
 refine Wk [(3,one (.sl (j.map Za)))] [] ?_
 obtain ⟨a0,a8,c⟩:=Zh c
 obtain ⟨w,a9,c⟩:=Zh c
 refine Wo [(1,.callR [] (one (.sl (a0.map Za)))),(2,.callR [] (one (.sl (w.map Za))))] [(2,one (.sl (w.map Za)))] [] [SM μ 143 [] [] (one (.sl (a0.map Za))) [],([]:List Nat).Nodup,SM μ 190 [one (.sl (j.map Za)),one (.sl (a0.map Za))] [] (one (.sl (w.map Za))) [],([]:List Nat).Nodup] ⟨(ZjS k _ a8),nd,(Zm2 k _ _ _ a9),nd,trivial⟩ ?_
 refine WA.ret ?_
 obtain rfl:=zj_ c
 exact Zo (one (.sl (w.map Za))) [] kr kr kr kr nd rfl rfl }
 {
 refine Ws [] [(3,ar 103 f),(4,oi a),(37,ob (decide (a≤1114111)))] [(103,.arr 2 (d.map Za))] ?_
 refine WA.cond (b:=(decide (a≤1114111))) rfl (fun t=>?_) (fun t=>?_)
 {
 have c:=Zk c t
 obtain ⟨a2,c⟩:=Zn c
 refine Wm (((d.map Za) ++ (([(⟨a,1114111⟩:Zb)]:List Zb).map Za)):(List (List PV))) ((d ++ ([(⟨a,1114111⟩:Zb)]:List Zb)).map Za) (fun m_=>([(3,ar 103 (f+1))],[(103,.arr 2 m_)],[f=(d.map Za).length,(d.map Za).length+(([(⟨a,1114111⟩:Zb)]:List Zb).map Za).length≤1073741824,∀es,es∈(([(⟨a,1114111⟩:Zb)]:List Zb).map Za)→es.length=2])) (zm) [] ⟨zt,(by first | exact a2 | (simp only [List.length_map,Zi];exact a2)),(ZT ([(⟨a,1114111⟩:Zb)]:List Zb)),trivial⟩ ?_
 exact ⟨(d ++ ([(⟨a,1114111⟩:Zb)]:List Zb)),(f+1),jk,zt,c⟩ }
 {
 have c:=Zj c t
 refine WA.skip ?_
 exact ⟨d,f,jk,zt,c⟩ } } }
def F145 (k:Nat) (v0:Int):Option Zd:=
  ((some (⟨1,([(⟨v0,v0⟩:Zb)]:List Zb),([]:List Zd),0,0⟩:Zd)))
theorem Zg2 (k:Nat) (v0:Int) (r:Zd) (a:F145 k v0=some r):SM μ 145 [oi v0] [] (tv (Zc r)) []:=by
 refine Zz [] Tryz.func145 rfl kr kr ?_
 show WA _ _ 8 _ _ _
 refine Ws [(0,.obj 102)] [(0,oi v0),(2,pt 102)] [(102,bx (Zc (⟨0,([]:List Zb),([]:List Zd),0,0⟩:Zd)))] ?_
 refine Ws [] [(2,pt 102)] [(102,bx (Zc (⟨1,([(⟨v0,v0⟩:Zb)]:List Zb),([]:List Zd),0,0⟩:Zd)))] ?_
 refine WA.ret ?_
 obtain rfl:=zj_ a
 exact Zo (tv (Zc (⟨1,([(⟨v0,v0⟩:Zb)]:List Zb),([]:List Zd),0,0⟩:Zd))) [] kr kr kr kr nd rfl rfl
def Zc8 (b:Int→Option Bool) (v0:List UInt8) (v1:Int) (a:Int):Option Bool:=
  (cond (decide (a<(v0.length:Int))) ((idxL v0 a).bind fun c=>(cond ((c.toNat:Int) == v1) ((some true)) ((b (w64 (a+1)))))) (((some false))))
def Zc9 (v0:List UInt8) (v1:Int):Nat→Int→Option Bool
  | 0,_=>none
  | b+1,a=>Zc8 (Zc9 v0 v1 b) v0 v1 a
def F146 (k:Nat) (v0:List UInt8) (v1:Int):Option Bool:=
  ((Zc9 v0 v1 k 0))
theorem Zg3 (k:Nat) (v0:List UInt8) (v1:Int) (r:Bool) (c:F146 k v0 v1=some r):SM μ 146 [one (.str v0),one (.int .u8 v1)] [] (ob r) []:=by
 refine Zz [] Tryz.func146 rfl kr kr ?_
 show WA _ _ 17 _ _ _
 refine Ws [] [(0,one (.str v0)),(1,one (.int .u8 v1))] [] ?_
 refine WA.seq ?_
 refine Ws [] [(0,one (.str v0)),(1,one (.int .u8 v1)),(5,oi 0)] [] ?_
 refine WA.block ?_
 refine WA.loop (fun m n=>∃(a:Int),J n [(0,one (.str v0)),(1,one (.int .u8 v1)),(5,oi a)] []∧Zc9 v0 v1 m a=some r) k ⟨0,jk,c⟩ ?_
 clear c
 rintro m0 n ⟨a,l,c⟩
 refine Wj l ?_
 clear l
 cases m0 with
 | zero=>cases c
 | succ m0=>
  obtain ⟨j,h⟩:∃g,g=Zc9 v0 v1 m0:=⟨_,rfl⟩
  have c:Zc8 j v0 v1 a=some r:=by first | (rw [h];exact c) | exact c
  refine WA.seq ?_
  refine Ws [] [(0,one (.str v0)),(1,one (.int .u8 v1)),(5,oi a),(9,ob (decide (a<(v0.length:Int))))] [] ?_
  refine WA.cond (b:=(decide (a<(v0.length:Int)))) rfl (fun d=>?_) (fun d=>?_)
  {
 have c:=Zk c d
 refine WA.skip ?_
 refine WA.seq ?_
 refine WA.block ?_
 obtain ⟨f,i,c⟩:=Zh c
 refine Wos [(2,.num (f.toNat:Int))] [(0,one (.str v0)),(1,one (.int .u8 v1)),(5,oi a),(16,ob ((f.toNat:Int) == v1))] [] [(idxL v0 a).map (fun b=>(b.toNat:Int))=some (f.toNat:Int)] ⟨(by rw [i];rfl),trivial⟩ ?_
 refine WA.cond (b:=((f.toNat:Int) == v1)) rfl (fun e=>?_) (fun e=>?_)
 {
 have c:=Zk c e
 refine Ws [] [(4,ob true)] [] ?_
 refine WA.ret ?_
 obtain rfl:=zj_ c
 exact Zo (ob true) [] kr kr kr kr nd rfl rfl }
 {
 have c:=Zj c e
 refine WA.skip ?_
 refine Wr [] [(0,one (.str v0)),(1,one (.int .u8 v1)),(5,oi (w64 (a+1)))] [] ?_
 exact ⟨m0,zl_ _,(w64 (a+1)),jk,by rw [h] at c;exact c⟩ } }
  {
 have c:=Zj c d
 refine WA.exit ?_
 refine Ws [] [(4,ob false)] [] ?_
 refine WA.ret ?_
 obtain rfl:=zj_ c
 exact Zo (ob false) [] kr kr kr kr nd rfl rfl }
def Ziu (k:Nat) (d:(List Int)→Int→Option (List Int)) (v0:List UInt8) (a:List Int) (b:Int):Option (List Int):=
  (cond (decide (b<(v0.length:Int))) ((F46 k v0 b).bind fun c=>(if a.length+([c.1]:List Int).length≤1073741824 then (d (a ++ ([c.1]:List Int)) (w64 (b+c.2))) else none)) (((some a))))
def ZeG (k:Nat) (v0:List UInt8):Nat→(List Int)→Int→Option (List Int)
  | 0,_,_=>none
  | c+1,a,b=>Ziu k (ZeG k v0 c) v0 a b
def F44 (k:Nat) (v0:List UInt8):Option (List Int):=
  (((ZeG k v0 k ([]:List Int) 0)))
theorem ZrA (k:Nat) (v0:List UInt8) (r:List Int) (f:F44 k v0=some r):SM μ 44 [one (.str v0)] [] (one (.sl (r.map (eInt .i64)))) []:=by
 refine Zz [] Tryz.func44 rfl kr kr ?_
 show WA _ _ 25 _ _ _
 refine Ws [] [(0,one (.str v0))] [] ?_
 refine Ws [(0,.obj 103)] [(0,one (.str v0)),(3,ar 103 0)] [(103,.arr 1 (([]:List Int).map (eInt .i64)))] ?_
 refine WA.seq ?_
 refine Ws [] [(0,one (.str v0)),(3,ar 103 0),(4,oi 0)] [(103,.arr 1 (([]:List Int).map (eInt .i64)))] ?_
 refine WA.block ?_
 refine WA.loop (fun m t=>∃(a:List Int) (e:Nat) (d:Int),J t [(0,one (.str v0)),(3,ar 103 e),(4,oi d)] [(103,.arr 1 (a.map (eInt .i64)))]∧e=(a:List _).length∧ZeG k v0 m a d=some r) k ⟨([]:List Int),0,0,jk,zt,f⟩ ?_
 clear f
 rintro m0 t ⟨a,e,d,q,p,f⟩
 refine Wj q ?_
 clear q
 cases m0 with
 | zero=>cases f
 | succ m0=>
  obtain ⟨o,i⟩:∃g,g=ZeG k v0 m0:=⟨_,rfl⟩
  have f:Ziu k o v0 a d=some r:=by first | (rw [i];exact f) | exact f
  refine WA.seq ?_
  refine Ws [] [(0,one (.str v0)),(3,ar 103 e),(4,oi d),(10,ob (decide (d<(v0.length:Int))))] [(103,.arr 1 (a.map (eInt .i64)))] ?_
  refine WA.cond (b:=(decide (d<(v0.length:Int)))) rfl (fun h=>?_) (fun h=>?_)
  {
 have f:=Zk f h
 refine WA.skip ?_
 refine WA.block ?_
 obtain ⟨c,l,f⟩:=Zh f
 refine Wos [(2,.callR [] (.tup [(false,[.pv (.int .i64 c.1)]),(false,[.pv (.int .i64 c.2)])]))] [(0,one (.str v0)),(3,ar 103 e),(4,oi d),(5,oi c.1),(6,oi c.2)] [(103,.arr 1 (a.map (eInt .i64)))] [SM μ 46 [one (.str v0),oi d] [] (.tup [(false,[.pv (.int .i64 c.1)]),(false,[.pv (.int .i64 c.2)])]) [],([]:List Nat).Nodup] ⟨(Zlm k _ _ _ l),nd,trivial⟩ ?_
 refine WA.seq ?_
 obtain ⟨j,f⟩:=Zn f
 refine Wm (((a.map (eInt .i64)) ++ (([c.1]:List Int).map (eInt .i64))):(List (List PV))) ((a ++ ([c.1]:List Int)).map (eInt .i64)) (fun u=>([(0,one (.str v0)),(3,ar 103 (e+1)),(4,oi d),(6,oi c.2)],[(103,.arr 1 u)],[e=(a.map (eInt .i64)).length,(a.map (eInt .i64)).length+(([c.1]:List Int).map (eInt .i64)).length≤1073741824,∀es,es∈(([c.1]:List Int).map (eInt .i64))→es.length=1])) (zm) [] ⟨zt,(by first | exact j | (simp only [List.length_map,Zi];exact j)),(Zb2 _ _ _ (fun _=>rfl)),trivial⟩ ?_
 refine Wr [] [(0,one (.str v0)),(3,ar 103 (e+1)),(4,oi (w64 (d+c.2)))] [(103,.arr 1 ((a ++ ([c.1]:List Int)).map (eInt .i64)))] ?_
 exact ⟨m0,zl_ _,(a ++ ([c.1]:List Int)),(e+1),(w64 (d+c.2)),jk,zt,by rw [i] at f;exact f⟩ }
  {
 have f:=Zj f h
 refine WA.exit ?_
 refine Ws [] [(2,ar 103 e)] [(103,.arr 1 (a.map (eInt .i64)))] ?_
 refine WA.freeze 103 2 (s:=1) (n:=e) (els:=(a.map (eInt .i64))) rfl rfl zt ?_
 refine Wk [(2,one (.sl (a.map (eInt .i64))))] [] ?_
 refine WA.ret ?_
 obtain rfl:=zj_ f
 exact Zo (one (.sl (a.map (eInt .i64)))) [] kr kr kr kr nd rfl rfl }
end Go.Proofs.YthilboheomikjaaGreatDoor
end
section
namespace Go.Proofs.YthilboheomikjaaGreatDoor
open Go.AL Go.Lib
set_option maxRecDepth 100000
mutual
def fs:Zd→Nat
  | ⟨k,st,l,a,b⟩=>1+max (l.length+4*st.length+40) (fsL l)
def fsL:List Zd→Nat
  | []=>0
  | x :: l=>max (fs x) (fsL l)
end
mutual
def sz:Zd→Int
  | ⟨k,st,l,a,b⟩=>if k=1 then 1 else if k=2∨k=3 then mn (szL l+1) 1000 else if k=4 then mn (szH l*mn (mx (if b<0 then w64 (a+1) else b) 1) 1000+1) 1000 else 1
def szL:List Zd→Int
  | []=>0
  | x :: l=>sz x+szL l
def szH:List Zd→Int
  | []=>0
  | x :: _=>sz x
end
mutual
def dp:Zd→Nat
  | ⟨k,st,l,a,b⟩=>1+dpL l
def dpL:List Zd→Nat
  | []=>0
  | x :: l=>max (dp x) (dpL l)
end
def OK0 (r:Zd):Prop:=(r.f_Kind=1∧(r.f_Min=0∧r.f_Max=0)∧r.f_L=[]∧Zaj r.f_Set)∨(r.f_Kind=2∧(r.f_Min=0∧r.f_Max=0)∧r.f_L.length≠1∧r.f_Set=[])∨
  (r.f_Kind=3∧(r.f_Min=0∧r.f_Max=0)∧1<r.f_L.length∧r.f_Set=[])∨(r.f_Kind=4∧r.f_L.length=1∧r.f_Set=[]∧0≤r.f_Min∧r.f_Min≤20∧r.f_Max≤20∧(r.f_Max = -1∨r.f_Min≤r.f_Max))
mutual
def OK:Zd→Prop
  | ⟨k,st,l,a,b⟩=>OK0 ⟨k,st,l,a,b⟩∧OKL l
def OKL:List Zd→Prop
  | []=>True
  | x :: l=>OK x∧OKL l
end
theorem ZaP {l:List Zd} {x:Zd} (h:x∈l):fs x≤fsL l:=by
  induction l with
  | nil=>cases h
  | cons y l ih=>
    simp only [fsL]
    rcases List.mem_cons.1 h with rfl | h
    · omega
    · have:=ih h;omega
theorem ZbH {l:List Zd}:OKL l↔∀x∈l,OK x:=by
  induction l with
  | nil=>simp [OKL]
  | cons y l ih=>simp only [OKL,ih,List.forall_mem_cons]
theorem Zbw {l:List Zd} {n:Nat}:dpL l≤n↔∀x∈l,dp x≤n:=by
  induction l with
  | nil=>simp [dpL]
  | cons y l ih=>simp only [dpL,List.forall_mem_cons,←ih];omega
theorem Zi9 (r:Zd):1≤dp r:=by cases r;simp only [dp];omega
theorem Znn {x:Int} (h:0≤x):1≤mn (x+1) 1000∧mn (x+1) 1000≤1000:=by unfold mn;split <;> omega
mutual
theorem Zar:∀r:Zd,1≤sz r∧sz r≤1000
  | ⟨k,st,l,a,b⟩=>by
    have h1:=Zax l
    have h2:=Zrs l
    have h3:0≤szH l*mn (mx (if b<0 then w64 (a+1) else b) 1) 1000:=Int.mul_nonneg h2.1 (by unfold mn mx;split <;> split <;> omega)
    simp only [sz]
    split
    · omega
    · split
      · exact Znn h1
      · split
        · exact Znn h3
        · omega
theorem Zax:∀l:List Zd,0≤szL l
  | []=>by simp [szL]
  | x :: l=>by
    have:=Zar x
    have:=Zax l
    simp only [szL];omega
theorem Zrs:∀l:List Zd,0≤szH l∧szH l≤1000
  | []=>by simp [szH]
  | x :: l=>by
    have:=Zar x
    simp only [szH];omega
end
theorem Zmx {R:Zd→Option Int} {v:Zd} (hk:v.f_Kind=2∨v.f_Kind=3) (hl:v.f_L.length≤1048576) (hR:∀x∈v.f_L,R x=some (sz x)):∀(l:List Zd) (n:Int) (i m:Nat),v.f_L.drop i=l→l.length<m→i≤v.f_L.length→0≤n→n≤1000→
    ZaK R v m n (i:Int)=some (mn (mn (n+szL l) 1000+1) 1000)
  | [],n,i,m,hd,hm,hi,h0,h1=>by
    obtain ⟨m,rfl⟩:∃q,m=q+1:=⟨m-1,by simp at hm;omega⟩
    have:=ZP hd
    show ZaR _ _ _ _ _=_
    unfold ZaR
    rw [df (by omega),zf_,ZF (by omega),zf_,ZF (by omega),zf_,Zv (by omega) (by omega)]
    simp only [szL,Int.add_zero]
    congr 2
    unfold mn;split <;> omega
  | x :: l,n,i,m,hd,hm,hi,h0,h1=>by
    obtain ⟨m,rfl⟩:∃q,m=q+1:=⟨m-1,by omega⟩
    obtain ⟨g1,g2,g3⟩:=ZA hd
    rw [List.length_cons] at hm
    have hx:=hR x (List.mem_of_getElem? g2)
    have hs:=Zar x
    have hsl:=Zax l
    have e5:ZbK R (ZaK R v m) n (i:Int) x true=some (mn (mn (n+szL (x :: l)) 1000+1) 1000):=by
      unfold ZbK
      rw [zt_,hx,zb_]
      unfold ZeA
      have hb:0≤mn (n+sz x) 1000∧mn (n+sz x) 1000≤1000:=by unfold mn;split <;> omega
      rw [ZR (by omega),Zv (x:=n+sz x) (by omega) (by omega),Zmx hk hl hR l _ (i+1) m g3 (by omega) (by omega) hb.1 hb.2]
      have:mn (mn (n+sz x) 1000+szL l) 1000=mn (n+szL (x :: l)) 1000:=by
        simp only [szL]
        unfold mn
        split <;> split <;> (try split) <;> omega
      rw [this]
    show ZaR R (ZaK R v m) v n (i:Int)=_
    unfold ZaR
    rw [dt (by omega),zt_,Zx,g2,zb_]
    rcases hk with hk | hk
    · rw [hk];exact e5
    · rw [hk];exact e5
theorem ZgJ {R:Zd→Option Int} {v:Zd} (h2:v.f_Kind≠2) (h3:v.f_Kind≠3) (hl:v.f_L.length≤1048576):∀(l:List Zd) (n:Int) (i m:Nat),(v.f_Kind=4→0<i)→v.f_L.drop i=l→l.length<m→i≤v.f_L.length→
    ZaK R v m n (i:Int)=cond (v.f_Kind == 1) (some 1) (cond (v.f_Kind == 4) (cond (decide (v.f_Max<0)) (Zb6 n (w64 (v.f_Min+1))) (Zb6 n v.f_Max)) (some (mn (w64 (n+1)) 1000)))
  | [],n,i,m,h4,hd,hm,hi=>by
    obtain ⟨m,rfl⟩:∃q,m=q+1:=⟨m-1,by simp at hm;omega⟩
    have:=ZP hd
    show ZaR _ _ _ _ _=_
    unfold ZaR
    rw [df (by omega),zf_]
  | x :: l,n,i,m,h4,hd,hm,hi=>by
    obtain ⟨m,rfl⟩:∃q,m=q+1:=⟨m-1,by omega⟩
    obtain ⟨g1,g2,g3⟩:=ZA hd
    rw [List.length_cons] at hm
    have e5:ZbK R (ZaK R v m) n (i:Int) x false=ZaK R v m n ((i+1:Nat):Int):=by
      unfold ZbK ZeA
      rw [zf_,ZR (by omega)]
    have e6:=ZgJ h2 h3 hl (R:=R) l n (i+1) m (fun _=>by omega) g3 (by omega) (by omega)
    show ZaR R (ZaK R v m) v n (i:Int)=_
    unfold ZaR
    rw [dt (by omega),zt_,Zx,g2,zb_,ZF h2,zf_,ZF h3,zf_]
    by_cases hk:v.f_Kind=4
    · have:=h4 hk
      rw [ZV hk,zt_,ZF (show ¬(i:Int)=0 by omega),e5,e6,ZV hk]
    · rw [ZF hk,zf_,e5,e6,ZF hk]
theorem Zl5 {x y:Int} (h0:0≤x) (h1:x≤1000) (h2:1≤y) (h3:y≤1000):0≤x*y∧x*y≤1000000:=
  ⟨Int.mul_nonneg h0 (by omega),by have:=Int.mul_le_mul h1 h3 (by omega) (by omega:(0:Int)≤1000);omega⟩
theorem mnmx (t:Int):1≤mn (mx t 1) 1000∧mn (mx t 1) 1000≤1000:=by unfold mn mx;split <;> split <;> omega
theorem Zqq {n t:Int} (h0:0≤n) (h1:n≤1000):Zb6 n t=some (mn (n*mn (mx t 1) 1000+1) 1000):=by
  have h2:=mnmx t
  have h3:=Zl5 h0 h1 h2.1 h2.2
  unfold Zb6
  rw [Zv (x:=n*_) (by omega) (by omega),Zv (by omega) (by omega)]
theorem ZnE:∀(k:Nat) (r:Zd),k≤1048576→fs r≤k→F32 k r=some (sz r)
  | 0,⟨kd,st,l,a,b⟩,_,hf=>by simp only [fs] at hf;omega
  | k+1,⟨kd,st,l,a,b⟩,hk,hf=>by
    simp only [fs] at hf
    have hR:∀x∈l,F32 k x=some (sz x):=fun x hx=>ZnE k x (by omega) (by have:=ZaP hx;omega)
    show ZaK (F32 k) ⟨kd,st,l,a,b⟩ k 0 0=_
    simp only [sz]
    by_cases h23:kd=2∨kd=3
    · have e:=Zmx (R:=F32 k) (v:=⟨kd,st,l,a,b⟩) h23 (by show l.length≤_;omega) hR l 0 0 k rfl (by omega) (Nat.zero_le _) (by omega) (by omega)
      have e':ZaK (F32 k) ⟨kd,st,l,a,b⟩ k 0 0=_:=e
      have:=Zax l
      rw [e',if_neg (by omega),if_pos h23]
      congr 1
      unfold mn
      split <;> split <;> (try split) <;> omega
    · rw [if_neg h23]
      by_cases h4:kd=4
      · subst h4
        rw [if_neg (by omega),if_pos rfl]
        have fin:∀n:Int,0≤n→n≤1000→cond ((4:Int) == 1) (some 1) (cond ((4:Int) == 4) (cond (decide (b<0)) (Zb6 n (w64 (a+1))) (Zb6 n b)) (some (mn (w64 (n+1)) 1000)))=some (mn (n*mn (mx (if b<0 then w64 (a+1) else b) 1) 1000+1) 1000):=fun n h0 h1=>by
          rw [ZF (by omega),zf_,ZV rfl,zt_]
          by_cases hb:b<0
          · rw [dt hb,zt_,Zqq h0 h1,if_pos hb]
          · rw [df hb,zf_,Zqq h0 h1,if_neg hb]
        cases l with
        | nil=>
          obtain ⟨m,rfl⟩:∃q,k=q+1:=⟨k-1,by omega⟩
          show ZaR _ _ _ _ _=_
          unfold ZaR
          rw [df (by simp),zf_]
          exact fin 0 (by omega) (by omega)
        | cons x l=>
          obtain ⟨m,rfl⟩:∃q,k=q+1:=⟨k-1,by omega⟩
          have hx:=hR x List.mem_cons_self
          have hs:=Zar x
          rw [List.length_cons] at hf
          have e:=ZgJ (R:=F32 (m+1)) (v:=⟨4,st,x :: l,a,b⟩) (by show (4:Int)≠2;omega) (by show (4:Int)≠3;omega) (by show (x :: l).length≤_;rw [List.length_cons];omega) l (mn (sz x) 1000) 1 m (fun _=>by omega) rfl (by omega) (by simp)
          show ZaR (F32 (m+1)) (ZaK (F32 (m+1)) ⟨4,st,x :: l,a,b⟩ m) ⟨4,st,x :: l,a,b⟩ 0 0=_
          unfold ZaR
          have e1:w64 ((0:Int)+1)=((1:Nat):Int):=by rw [Zv (by omega) (by omega)];rfl
          rw [dt (by simp),zt_,Zk7,zb_]
          simp only [show ((4:Int) == 2)=false from rfl,show ((4:Int) == 3)=false from rfl,show ((4:Int) == 4)=true from rfl,show ((0:Int) == 0)=true from rfl,zt_,zf_]
          unfold ZbK ZeA
          rw [zt_,hx,zb_,e1,Int.zero_add,Zv (x:=sz x) (by omega) (by omega),e]
          have e2:mn (sz x) 1000=sz x:=mn_l (by omega)
          rw [e2]
          exact fin _ (by omega) (by omega)
      · have e:=ZgJ (R:=F32 k) (v:=⟨kd,st,l,a,b⟩) (by show kd≠2;omega) (by show kd≠3;omega) (by show l.length≤_;omega) l 0 0 k (fun h=>absurd h h4) rfl (by omega) (Nat.zero_le _)
        have e':ZaK (F32 k) ⟨kd,st,l,a,b⟩ k 0 0=_:=e
        rw [e',if_neg h4]
        show cond (kd == 1) _ (cond (kd == 4) _ _)=_
        rw [ZF h4,zf_]
        by_cases h1:kd=1
        · rw [ZV h1,zt_,if_pos h1]
        · rw [ZF h1,zf_,if_neg h1,Zv (by omega) (by omega)];rfl
theorem ZkT {R:Zd→Option Int} {v:Zd} (hl:v.f_L.length≤1048576) (hR:∀x∈v.f_L,R x=some (sz x)):∀(l:List Zd) (n:Int) (i m:Nat),v.f_L.drop i=l→l.length<m→i≤v.f_L.length→0≤n→n≤1000*i→
    ZdB R v m n (i:Int)=some (mn (n+szL l+1) 1000)
  | [],n,i,m,hd,hm,hi,h0,h1=>by
    obtain ⟨m,rfl⟩:∃q,m=q+1:=⟨m-1,by simp at hm;omega⟩
    have:=ZP hd
    show Zey _ _ _ _ _=_
    unfold Zey ZcE
    rw [df (by omega),zf_,Zv (by omega) (by omega)]
    simp only [szL,Int.add_zero]
  | x :: l,n,i,m,hd,hm,hi,h0,h1=>by
    obtain ⟨m,rfl⟩:∃q,m=q+1:=⟨m-1,by omega⟩
    obtain ⟨g1,g2,g3⟩:=ZA hd
    rw [List.length_cons] at hm
    have hx:=hR x (List.mem_of_getElem? g2)
    have hs:=Zar x
    show Zey R (ZdB R v m) v n (i:Int)=_
    unfold Zey
    rw [dt (by omega),zt_,Zx,g2,zb_,hx,zb_,ZR (by omega),Zv (x:=n+sz x) (by omega) (by omega),ZkT hl hR l _ (i+1) m g3 (by omega) (by omega) (by omega) (by omega)]
    simp only [szL]
    rw [Int.add_assoc n]
theorem Zid:∀(k:Nat) (r:Zd),k≤1048576→fs r≤k→F20 k r=some (sz r)
  | 0,⟨kd,st,l,a,b⟩,_,hf=>by simp only [fs] at hf;omega
  | k+1,⟨kd,st,l,a,b⟩,hk,hf=>by
    simp only [fs] at hf
    have hR:∀x∈l,F20 k x=some (sz x):=fun x hx=>Zid k x (by omega) (by have:=ZaP hx;omega)
    have e:=ZkT (R:=F20 k) (v:=⟨kd,st,l,a,b⟩) (by show l.length≤_;omega) hR l 0 0 k rfl (by omega) (Nat.zero_le _) (by omega) (by omega)
    have e':ZdB (F20 k) ⟨kd,st,l,a,b⟩ k 0 0=some (mn (0+szL l+1) 1000):=e
    rw [Int.zero_add] at e'
    show ZkZ (F20 k) k ⟨kd,st,l,a,b⟩=_
    unfold ZkZ Zik
    simp only [sz]
    by_cases k1:kd=1
    · rw [ZV k1,zt_,if_pos k1]
    rw [ZF k1,zf_,if_neg k1]
    by_cases k2:kd=2
    · rw [ZV k2,zt_,zt_,if_pos (.inl k2)];exact e'
    rw [ZF k2,zf_]
    by_cases k3:kd=3
    · rw [ZV k3,zt_,if_pos (.inr k3)];exact e'
    rw [ZF k3,zf_,if_neg (by omega)]
    have j3:ZcE 0=some 1:=rfl
    by_cases k4:kd=4
    · rw [ZV k4,zt_,if_pos k4]
      cases l with
      | nil=>
        rw [df (by simp),zf_,j3]
        simp only [szH,Int.zero_mul];rfl
      | cons x l=>
        have hx:=hR x List.mem_cons_self
        have hs:=Zar x
        have fin:∀t,ZfS (F20 k) ⟨kd,st,x :: l,a,b⟩ t=some (mn (szH (x :: l)*mn (mx t 1) 1000+1) 1000):=fun t=>by
          have h2:=mnmx t
          have h3:=Zl5 (show 0≤sz x by omega) hs.2 h2.1 h2.2
          unfold ZfS ZcE
          simp only
          rw [Zk7,zb_,hx,zb_,Zv (x:=sz x*_) (by omega) (by omega),Zv (by omega) (by omega)]
          rfl
        rw [dt (by simp),zt_,fin,fin]
        by_cases hb:b<0
        · rw [dt hb,zt_,if_pos hb]
        · rw [df hb,zf_,if_neg hb]
    · rw [ZF k4,zf_,if_neg k4];rfl
end Go.Proofs.YthilboheomikjaaGreatDoor
end
section
namespace Go.Proofs.YthilboheomikjaaGreatDoor
open Go.AL Go.Lib
set_option maxRecDepth 100000
theorem Zqr {d:Nat} (h:1≤d) (h2:d≤1000):w64 ((d:Int)-1)=((d-1:Nat):Int):=by rw [Zv (by omega) (by omega)];omega
theorem Zky {R:Zd→Int→Option Bool} {k d:Nat} {v:Zd} {P:Zd→Prop} (hd1:1≤d) (hd2:d≤1000) (hl:v.f_L.length≤1048576) (hR:∀x∈v.f_L,∃t,R x ((d-1:Nat):Int)=some t∧(t=true↔P x)) {t0:Bool} {Q:Prop}
    (h0:cond (v.f_Min == 0) (Zbu k v (v.f_Max == 0)) (Zbu k v false)=some t0) (hQ:t0=true↔Q):∀(l:List Zd) (i m:Nat),v.f_L.drop i=l→l.length<m→i≤v.f_L.length→
    ∃t,ZeR R k v (d:Int) m (i:Int)=some t∧(t=true↔Q∧∀x∈l,P x)
  | [],i,m,hd,hm,hi=>by
    obtain ⟨m,rfl⟩:∃q,m=q+1:=⟨m-1,by simp at hm;omega⟩
    have:=ZP hd
    refine ⟨t0,?_,by rw [hQ];simp⟩
    show ZeQ _ _ _ _ _ _=_
    unfold ZeQ
    rw [df (by omega),zf_,h0]
  | x :: l,i,m,hd,hm,hi=>by
    obtain ⟨m,rfl⟩:∃q,m=q+1:=⟨m-1,by omega⟩
    obtain ⟨g1,g2,g3⟩:=ZA hd
    rw [List.length_cons] at hm
    obtain ⟨t1,e1,p1⟩:=hR x (List.mem_of_getElem? g2)
    obtain ⟨t2,e2,p2⟩:=Zky hd1 hd2 hl hR h0 hQ l (i+1) m g3 (by omega) (by omega)
    show ∃t,ZeQ R k (ZeR R k v (d:Int) m) v (d:Int) (i:Int)=_∧_
    unfold ZeQ
    rw [dt (by omega),zt_,Zx,g2,zb_,Zqr hd1 hd2,e1,zb_,ZR (by omega),e2,List.forall_mem_cons]
    cases t1
    · exact ⟨false,rfl,by simp;intro _ h;exact absurd (p1.2 h) (by simp)⟩
    · exact ⟨t2,rfl,by rw [p2];exact ⟨fun h=>⟨h.1,p1.1 rfl,h.2⟩,fun h=>⟨h.1,h.2.2⟩⟩⟩
theorem len0 {α:Type} (l:List α):((l.length:Int) == 0)=decide (l=[]):=by cases l <;> simp;omega
theorem ZpP {k:Nat} {v:Zd} (hs:v.f_Set.length≤262144) (hk:4*v.f_Set.length+40≤k):∃t,cond (v.f_Min == 0) (Zbu k v (v.f_Max == 0)) (Zbu k v false)=some t∧(t=true↔OK0 v):=by
  have eb:cond (v.f_Min == 0) (Zbu k v (v.f_Max == 0)) (Zbu k v false)=Zbu k v (decide (v.f_Min=0∧v.f_Max=0)):=by
    by_cases h:v.f_Min=0
    · rw [ZV h,zt_]
      by_cases h2:v.f_Max=0
      · rw [ZV h2,dt ⟨h,h2⟩]
      · rw [ZF h2,df (fun c=>h2 c.2)]
    · rw [ZF h,zf_,df (fun c=>h c.1)]
  rw [eb]
  unfold Zbu Zf3 Zf4 Zf5 Zb9 OK0
  by_cases k1:v.f_Kind=1
  · rw [ZV k1,zt_]
    have eq0:∀t:Bool,(t=true↔((v.f_Min=0∧v.f_Max=0)∧v.f_L=[]∧Zaj v.f_Set))→(t=true↔OK0 v):=fun t h=>by rw [h];unfold OK0;simp [k1]
    unfold OK0 at eq0
    by_cases hb:v.f_Min=0∧v.f_Max=0
    · rw [dt hb,zt_,len0]
      by_cases hl:v.f_L=[]
      · rw [dt hl,zt_]
        obtain ⟨l1,e1,p1,_⟩:=Zl7 (k:=k) (l:=v.f_Set) (by omega) (by omega)
        have hn:=Zh6 l1
        have hp:=p1.length_eq
        obtain ⟨l2,e2,c2,i2,n2⟩:=Znm (k:=k) (a:=mrgs l1) (by omega) (by omega)
        obtain ⟨t,e3,p3⟩:=ZpJ (k:=k) (a:=l2) (b:=v.f_Set) (by omega) (by omega)
        rw [e1,zb_,Zlt,zb_,e2,zb_,e3,zb_]
        refine ⟨t,rfl,eq0 t (p3.trans ⟨fun h=>⟨hb,hl,h ▸ c2⟩,fun h=>?_⟩)⟩
        have hc:=h.2.2
        have e4:=ZkE (k:=k) (by omega) (by omega) hc.bd hc.1
        rw [e1] at e4
        have e5:=zj_ e4
        exact ZdI c2 hc fun c=>by rw [i2,e5];exact ⟨fun h=>h.1,fun h=>⟨h,hc.2 c h⟩⟩
      · rw [df hl,zf_]
        exact ⟨false,rfl,eq0 _ (by simp [hl])⟩
    · rw [df hb,zf_]
      exact ⟨false,rfl,eq0 _ (by simp [hb])⟩
  rw [ZF k1,zf_]
  by_cases k2:v.f_Kind=2
  · rw [ZV k2,zt_]
    by_cases hb:v.f_Min=0∧v.f_Max=0
    · rw [dt hb,zt_]
      by_cases hl:v.f_L.length=1
      · rw [show ((v.f_L.length:Int) != 1)=false by simp [hl],zf_]
        exact ⟨false,rfl,by simp [k1,k2,hl]⟩
      · rw [show ((v.f_L.length:Int) != 1)=true by simp;omega,zt_,len0]
        exact ⟨_,rfl,by simp [k1,k2,hl,hb.1,hb.2]⟩
    · rw [df hb,zf_]
      exact ⟨false,rfl,by simp [k1,k2,hb]⟩
  rw [ZF k2,zf_]
  by_cases k3:v.f_Kind=3
  · rw [ZV k3,zt_]
    by_cases hb:v.f_Min=0∧v.f_Max=0
    · rw [dt hb,zt_]
      by_cases hl:1<v.f_L.length
      · rw [dt (by omega),zt_,len0]
        exact ⟨_,rfl,by simp [k1,k2,k3,hl,hb.1,hb.2]⟩
      · rw [df (by omega),zf_]
        exact ⟨false,rfl,by simp [k1,k2,k3,hl]⟩
    · rw [df hb,zf_]
      exact ⟨false,rfl,by simp [k1,k2,k3,hb]⟩
  rw [ZF k3,zf_]
  by_cases k4:v.f_Kind=4
  · rw [ZV k4,zt_]
    by_cases hl:v.f_L.length=1
    · rw [show ((v.f_L.length:Int) == 1)=true by simp [hl],zt_,len0]
      by_cases hs0:v.f_Set=[]
      · rw [dt hs0,zt_]
        by_cases a1:0≤v.f_Min
        · rw [dt a1,zt_]
          by_cases a2:v.f_Min≤20
          · rw [dt a2,zt_]
            by_cases a3:v.f_Max≤20
            · rw [dt a3,zt_]
              by_cases a4:v.f_Max = -1
              · rw [ZV a4,zt_]
                exact ⟨true,rfl,by simp [k4,hl,hs0,a1,a2,a3,a4]⟩
              · rw [ZF a4,zf_]
                exact ⟨_,rfl,by simp [k1,k2,k3,k4,hl,hs0,a1,a2,a3,a4]⟩
            · rw [df a3,zf_];exact ⟨false,rfl,by simp [k1,k2,k3,a3]⟩
          · rw [df a2,zf_];exact ⟨false,rfl,by simp [k1,k2,k3,a2]⟩
        · rw [df a1,zf_];exact ⟨false,rfl,by simp [k1,k2,k3,a1]⟩
      · rw [df hs0,zf_];exact ⟨false,rfl,by simp [k1,k2,k3,hs0]⟩
    · rw [show ((v.f_L.length:Int) == 1)=false by simp;omega,zf_];exact ⟨false,rfl,by simp [k1,k2,k3,hl]⟩
  rw [ZF k4,zf_]
  exact ⟨false,rfl,by simp [k1,k2,k3,k4]⟩
theorem ZoT:∀(k:Nat) (r:Zd) (d:Nat),k≤1048576→fs r≤k→d≤1000→∃t,F52 k r (d:Int)=some t∧(t=true↔OK r∧dp r≤d)
  | 0,⟨kd,st,l,a,b⟩,d,_,hf,_=>by simp only [fs] at hf;omega
  | k+1,⟨kd,st,l,a,b⟩,d,hk,hf,hd=>by
    simp only [fs] at hf
    show ∃t,Zk4 (F52 k) k ⟨kd,st,l,a,b⟩ (d:Int)=_∧_
    unfold Zk4
    by_cases h0:d=0
    · subst h0
      refine ⟨false,rfl,by simp;intro _;have:=Zi9 ⟨kd,st,l,a,b⟩;omega⟩
    · rw [ZF (by omega),zf_]
      obtain ⟨t0,e0,p0⟩:=ZpP (k:=k) (v:=⟨kd,st,l,a,b⟩) (by show st.length≤_;omega) (by show 4*st.length+40≤k;omega)
      obtain ⟨t,e,p⟩:=Zky (R:=F52 k) (k:=k) (d:=d) (v:=⟨kd,st,l,a,b⟩) (P:=fun x=>OK x∧dp x≤d-1) (by omega) hd (by show l.length≤_;omega) (fun x hx=>ZoT k x (d-1) (by omega) (by have:=ZaP (show x∈l from hx);omega) (by omega)) e0 p0 l 0 k rfl (by omega) (Nat.zero_le _)
      refine ⟨t,e,p.trans ?_⟩
      simp only [OK,dp,ZbH]
      constructor
      · rintro ⟨h1,h2⟩
        have:dpL l≤d-1:=Zbw.2 fun x hx=>(h2 x hx).2
        exact ⟨⟨h1,fun x hx=>(h2 x hx).1⟩,by omega⟩
      · rintro ⟨⟨h1,h2⟩,h3⟩
        have:=Zbw.1 (show dpL l≤d-1 by omega)
        exact ⟨h1,fun x hx=>⟨h2 x hx,this x hx⟩⟩
theorem ZrN {k:Nat} {r:Zd} (hk:k≤1048576) (hf:fs r≤k):∃t,F30 k r=some t∧(t=true↔(OK r∧dp r≤16)∧sz r≤200):=by
  obtain ⟨t,e,p⟩:=ZoT k r 16 hk hf (by omega)
  have e':F52 k r 16=some t:=e
  unfold F30 Zip
  rw [e',zb_,ZnE k r hk hf,zb_]
  cases t
  · exact ⟨false,rfl,by simp;intro h1 h2;exact absurd (p.2 ⟨h1,h2⟩) (by simp)⟩
  · exact ⟨_,rfl,by simp [p.1 rfl]⟩
theorem Zkt {R:Zd→Int→Option Int} {n:Nat} {v:Zd} (hl:v.f_L.length≤1048576) (hn:n≤16) (hR:∀x∈v.f_L,∃t,R x ((n+1:Nat):Int)=some t∧((n+1:Nat):Int)≤t∧t≤17∧(t≤16↔n+1+dp x≤17)) :
    ∀(l:List Zd) (c:Int) (i m:Nat),v.f_L.drop i=l→l.length<m→i≤v.f_L.length→(n:Int)≤c→c≤17→∃t,ZcF R v (n:Int) m c (i:Int)=some t∧(n:Int)≤t∧t≤17∧(t≤16↔c≤16∧∀x∈l,n+1+dp x≤17)
  | [],c,i,m,hd,hm,hi,h0,h1=>by
    obtain ⟨m,rfl⟩:∃q,m=q+1:=⟨m-1,by simp at hm;omega⟩
    have:=ZP hd
    refine ⟨c,?_,h0,h1,by simp⟩
    show ZbL _ _ _ _ _ _=_
    unfold ZbL
    rw [df (by omega),zf_]
  | x :: l,c,i,m,hd,hm,hi,h0,h1=>by
    obtain ⟨m,rfl⟩:∃q,m=q+1:=⟨m-1,by omega⟩
    obtain ⟨g1,g2,g3⟩:=ZA hd
    rw [List.length_cons] at hm
    obtain ⟨t1,e1,a1,b1,p1⟩:=hR x (List.mem_of_getElem? g2)
    have hm1:(n:Int)≤mx c t1∧mx c t1≤17∧(mx c t1≤16↔c≤16∧t1≤16):=by unfold mx;split <;> omega
    obtain ⟨t2,e2,a2,b2,p2⟩:=Zkt hl hn hR l (mx c t1) (i+1) m g3 (by omega) (by omega) hm1.1 hm1.2.1
    refine ⟨t2,?_,a2,b2,by rw [p2,hm1.2.2,List.forall_mem_cons,p1,and_assoc]⟩
    show ZbL R (ZcF R v (n:Int) m) v (n:Int) c (i:Int)=_
    unfold ZbL
    rw [dt (by omega),zt_,Zx,g2,zb_,ZR (by omega),e1,zb_,ZR (by omega),e2]
theorem Znb:∀(k:Nat) (r:Zd) (n:Nat),k≤1048576→fs r≤k→n≤17→∃t,F42 k r (n:Int)=some t∧(n:Int)≤t∧t≤17∧(t≤16↔n+dp r≤17)
  | 0,⟨kd,st,l,a,b⟩,n,_,hf,_=>by simp only [fs] at hf;omega
  | k+1,⟨kd,st,l,a,b⟩,n,hk,hf,hn=>by
    simp only [fs] at hf
    show ∃t,Zhg (F42 k) k ⟨kd,st,l,a,b⟩ (n:Int)=_∧_
    unfold Zhg
    by_cases h17:n=17
    · subst h17
      exact ⟨17,rfl,by omega,by omega,by have:=Zi9 ⟨kd,st,l,a,b⟩;omega⟩
    · rw [df (by omega),zf_]
      obtain ⟨t,e,a1,b1,p⟩:=Zkt (R:=F42 k) (n:=n) (v:=⟨kd,st,l,a,b⟩) (by show l.length≤_;omega) (by omega) (fun x hx=>by
        obtain ⟨t,e,a1,b1,p⟩:=Znb k x (n+1) (by omega) (by have:=ZaP (show x∈l from hx);omega) (by omega)
        exact ⟨t,e,a1,b1,p⟩) l (n:Int) 0 k rfl (by omega) (Nat.zero_le _) (by omega) (by omega)
      refine ⟨t,e,a1,b1,p.trans ?_⟩
      simp only [dp]
      constructor
      · rintro ⟨_,h⟩
        have:dpL l≤16-n:=Zbw.2 fun x hx=>by have:=h x hx;omega
        omega
      · intro h
        exact ⟨by omega,fun x hx=>by have:=Zbw.1 (Nat.le_refl (dpL l)) x hx;omega⟩
def Chk:Int→List Zb→Prop
  | _,[]=>True
  | b,r :: l=>ZC r.f_Lo∧ZC r.f_Hi∧r.f_Lo≤r.f_Hi∧¬(r.f_Lo<55296∧57343<r.f_Hi)∧b≤r.f_Lo∧Chk (r.f_Hi+2) l
theorem Zm8:∀{l:List Zb} {b:Int},Chk b l↔Z7 b l∧∀c,inR l c→ZC c
  | [],b=>⟨fun _=>⟨trivial,fun c h=>absurd h Zai⟩,fun _=>trivial⟩
  | r :: l,b=>by
    unfold Chk Z7
    rw [Zm8 (l:=l)]
    unfold ZC
    constructor
    · rintro ⟨h1,h2,h3,h4,h5,h6,h7⟩
      refine ⟨⟨h5,h3,h6⟩,fun c hc=>?_⟩
      rcases ZM.1 hc with hc | hc
      · omega
      · exact h7 c hc
    · rintro ⟨⟨h5,h3,h6⟩,h7⟩
      have h1:=h7 r.f_Lo (ZM.2 (.inl ⟨Int.le_refl _,h3⟩))
      have h2:=h7 r.f_Hi (ZM.2 (.inl ⟨h3,Int.le_refl _⟩))
      refine ⟨h1,h2,h3,fun h=>?_,h5,h6,fun c hc=>h7 c (ZM.2 (.inr hc))⟩
      have:=h7 55296 (ZM.2 (.inl ⟨by omega,by omega⟩))
      omega
instance (c:Int):Decidable (ZC c):=by unfold ZC;infer_instance
theorem Zmv {k:Nat} {v:Zd} (hs:v.f_Set.length≤1048576):∀(l:List Zb) (b:Int) (i m:Nat),v.f_Set.drop i=l→l.length<m→i≤v.f_Set.length→(i=0→b=0)→(0<i→∃p,v.f_Set[i-1]?=some p∧ZC p.f_Hi∧b=p.f_Hi+2)→
    ∃t,Zb7 k v m (i:Int)=some t∧(t=true↔Chk b l∧v.f_L=[])
  | [],b,i,m,hd,hm,hi,hb0,hb=>by
    obtain ⟨m,rfl⟩:∃q,m=q+1:=⟨m-1,by simp at hm;omega⟩
    have:=ZP hd
    refine ⟨decide (v.f_L=[]),?_,by simp [Chk]⟩
    show ZeD _ _ _ _=_
    unfold ZeD
    rw [df (by omega),zf_,len0]
  | r :: l,b,i,m,hd,hm,hi,hb0,hb=>by
    obtain ⟨m,rfl⟩:∃q,m=q+1:=⟨m-1,by omega⟩
    obtain ⟨g1,g2,g3⟩:=ZA hd
    rw [List.length_cons] at hm
    show ∃t,ZeD k (Zb7 k v m) v (i:Int)=_∧_
    unfold ZeD ZbM Chk
    rw [dt (by omega),zt_,Zx,g2,zb_,Zlu,zb_]
    by_cases p1:ZC r.f_Lo
    · rw [dt p1,Bool.not_true,zf_,Zlu,zb_]
      by_cases p2:ZC r.f_Hi
      · rw [dt p2,Bool.not_true,zf_]
        by_cases p3:r.f_Lo≤r.f_Hi
        · rw [df (by omega),zf_]
          obtain ⟨t,e,ht⟩:=Zmv (k:=k) hs l (r.f_Hi+2) (i+1) m g3 (by omega) (by omega) (by omega) (fun _=>⟨r,g2,p2,rfl⟩)
          have fin:¬(r.f_Lo<55296∧57343<r.f_Hi)→∃t,cond (decide ((i:Int) > 0)) ((idxL v.f_Set (w64 ((i:Int)-1))).bind fun y152=>cond (decide (r.f_Lo≤(w64 (y152.f_Hi+1)))) (some false) (Zb7 k v m (w64 ((i:Int)+1)))) (cond false (some false) (Zb7 k v m (w64 ((i:Int)+1))))=some t∧
              (t=true↔(ZC r.f_Lo∧ZC r.f_Hi∧r.f_Lo≤r.f_Hi∧¬(r.f_Lo<55296∧57343<r.f_Hi)∧b≤r.f_Lo∧Chk (r.f_Hi+2) l)∧v.f_L=[]):=fun hx=>by
            rw [ZR (by omega)]
            by_cases hi0:i=0
            · have:=hb0 hi0
              rw [df (by omega),zf_,zf_]
              exact ⟨t,e,by rw [ht];exact ⟨fun h=>⟨⟨p1,p2,p3,hx,by have:=p1.1;omega,h.1⟩,h.2⟩,fun h=>⟨h.1.2.2.2.2.2,h.2⟩⟩⟩
            · obtain ⟨p,q1,q2,q3⟩:=hb (by omega)
              have q4:=q2.1
              have q5:=q2.2.1
              rw [dt (by omega),zt_,Zv (by omega) (by omega),show (i:Int)-1=((i-1:Nat):Int) by omega,Zx,q1,zb_,Zv (x:=p.f_Hi+1) (by omega) (by omega)]
              by_cases hle:r.f_Lo≤p.f_Hi+1
              · rw [dt hle,zt_]
                exact ⟨false,rfl,by simp;intro _ _ _ _ h;omega⟩
              · rw [df hle,zf_]
                exact ⟨t,e,by rw [ht];exact ⟨fun h=>⟨⟨p1,p2,p3,hx,by omega,h.1⟩,h.2⟩,fun h=>⟨h.1.2.2.2.2.2,h.2⟩⟩⟩
          by_cases p4:r.f_Lo<55296
          · rw [dt p4,zt_]
            by_cases p5:r.f_Hi > 57343
            · rw [dt p5,zt_,zt_]
              exact ⟨false,rfl,by simp;intro _ _ _ h;exact absurd (h p4) (by omega)⟩
            · rw [df p5,zf_]
              exact fin (by omega)
          · rw [df p4,zf_]
            exact fin (by omega)
        · rw [dt (by omega),zt_,zt_]
          exact ⟨false,rfl,by simp;intro _ _ h;omega⟩
      · rw [df p2,Bool.not_false,zt_,zt_]
        exact ⟨false,rfl,by simp [p2]⟩
    · rw [df p1,Bool.not_false,zt_,zt_]
      exact ⟨false,rfl,by simp [p1]⟩
theorem Zjw {R:Zd→Option Bool} {v:Zd} {P:Zd→Prop} (hl:v.f_L.length≤1048576) (hR:∀x∈v.f_L,∃t,R x=some t∧(t=true↔P x)):∀(l:List Zd) (i m:Nat),v.f_L.drop i=l→l.length<m→i≤v.f_L.length→
    ∃t,ZeF R v m (i:Int)=some t∧(t=true↔∀x∈l,P x)
  | [],i,m,hd,hm,hi=>by
    obtain ⟨m,rfl⟩:∃q,m=q+1:=⟨m-1,by simp at hm;omega⟩
    have:=ZP hd
    refine ⟨true,?_,by simp⟩
    show ZeE _ _ _ _=_
    unfold ZeE
    rw [df (by omega),zf_]
  | x :: l,i,m,hd,hm,hi=>by
    obtain ⟨m,rfl⟩:∃q,m=q+1:=⟨m-1,by omega⟩
    obtain ⟨g1,g2,g3⟩:=ZA hd
    rw [List.length_cons] at hm
    obtain ⟨t1,e1,p1⟩:=hR x (List.mem_of_getElem? g2)
    obtain ⟨t2,e2,p2⟩:=Zjw hl hR l (i+1) m g3 (by omega) (by omega)
    show ∃t,ZeE R (ZeF R v m) v (i:Int)=_∧_
    unfold ZeE
    rw [dt (by omega),zt_,Zx,g2,zb_,e1,zb_,ZR (by omega),e2,List.forall_mem_cons]
    cases t1
    · exact ⟨false,rfl,by simp;intro h;exact absurd (p1.2 h) (by simp)⟩
    · exact ⟨t2,rfl,by rw [p2];exact ⟨fun h=>⟨p1.1 rfl,h⟩,fun h=>h.2⟩⟩
theorem Zmq:∀(k:Nat) (r:Zd),k≤1048576→fs r≤k→∃t,F43 k r=some t∧(t=true↔OK r)
  | 0,⟨kd,st,l,a,b⟩,_,hf=>by simp only [fs] at hf;omega
  | k+1,⟨kd,st,l,a,b⟩,hk,hf=>by
    simp only [fs] at hf
    obtain ⟨t,e,p⟩:=Zjw (R:=F43 k) (v:=⟨kd,st,l,a,b⟩) (P:=OK) (by show l.length≤_;omega) (fun x hx=>Zmq k x (by omega) (by have:=ZaP (show x∈l from hx);omega)) l 0 k rfl (by omega) (Nat.zero_le _)
    have e':ZfZ (F43 k) k ⟨kd,st,l,a,b⟩=some t:=e
    have pl:t=true↔OKL l:=p.trans ZbH.symm
    obtain ⟨ts,es,ps⟩:=Zmv (k:=k) (v:=⟨kd,st,l,a,b⟩) (by show st.length≤_;omega) st 0 0 k rfl (by omega) (Nat.zero_le _) (fun _=>rfl) (fun h=>absurd h (by omega))
    have es':Zb7 k ⟨kd,st,l,a,b⟩ k 0=some ts:=es
    have hcan:Chk 0 st↔Zaj st:=Zm8
    simp only [] at ps
    rw [hcan] at ps
    show ∃t,Zk1 (F43 k) k ⟨kd,st,l,a,b⟩=_∧_
    have j0f:∀c:Bool,c=true→(¬OK ⟨kd,st,l,a,b⟩)→∃t,Zbf (F43 k) k ⟨kd,st,l,a,b⟩ c=some t∧(t=true↔OK ⟨kd,st,l,a,b⟩):=fun c hc hn=>by
      subst hc
      exact ⟨false,rfl,by simp [hn]⟩
    unfold Zk1
    by_cases k1:kd=1
    · subst k1
      simp only [show ((1:Int) != 1)=false from rfl,show ((1:Int) != 4)=true from rfl,zt_,zf_]
      by_cases ha:a=0
      · by_cases hb:b=0
        · rw [show (a != 0)=false by simp [ha],show (b != 0)=false by simp [hb],zf_]
          unfold Zbf
          simp only [show ((1:Int) == 1)=true from rfl,zt_,zf_]
          refine ⟨ts,es',ps.trans ?_⟩
          simp only [OK,OK0]
          constructor
          · rintro ⟨h1,h2⟩;exact ⟨.inl ⟨trivial,⟨ha,hb⟩,h2,h1⟩,by rw [h2];trivial⟩
          · rintro ⟨h | h | h | h,_⟩
            · exact ⟨h.2.2.2,h.2.2.1⟩
            all_goals exact absurd h.1 (by omega)
        · rw [show (a != 0)=false by simp [ha],zf_]
          exact j0f _ (by simp [hb]) (by simp [OK,OK0,hb])
      · rw [show (a != 0)=true by simp [ha],zt_]
        exact j0f _ rfl (by simp [OK,OK0,ha])
    · rw [show (kd != 1)=true by simp [k1],zt_]
      by_cases hst:st=[]
      · subst hst
        rw [df (by simp),zf_]
        by_cases k4:kd=4
        · subst k4
          simp only [show ((4:Int) != 4)=false from rfl,zf_]
          unfold Zbf ZcG
          simp only [show ((4:Int) == 1)=false from rfl,show ((4:Int) == 2)=false from rfl,show ((4:Int) == 3)=false from rfl,show ((4:Int) == 4)=true from rfl,zt_,zf_]
          have eq4:OK ⟨4,[],l,a,b⟩↔(l.length=1∧0≤a∧a≤20∧b≤20∧(b = -1∨a≤b))∧OKL l:=by simp [OK,OK0]
          rw [eq4]
          by_cases c1:l.length=1
          · rw [show ((l.length:Int) != 1)=false by simp [c1],zf_]
            by_cases c2:a<0
            · rw [dt c2,zt_];exact ⟨false,rfl,by simp;omega⟩
            · rw [df c2,zf_]
              by_cases c3:a > 20
              · rw [dt c3,zt_];exact ⟨false,rfl,by simp;omega⟩
              · rw [df c3,zf_]
                by_cases c4:b = -1
                · rw [show (b != -1)=false by simp [c4],zf_]
                  exact ⟨t,e',pl.trans ⟨fun h=>⟨⟨c1,by omega,by omega,by omega,.inl c4⟩,h⟩,fun h=>h.2⟩⟩
                · rw [show (b != -1)=true by simp [c4],zt_]
                  by_cases c5:b<a
                  · rw [dt c5,zt_];exact ⟨false,rfl,by simp;omega⟩
                  · rw [df c5,zf_]
                    by_cases c6:b > 20
                    · rw [dt c6,zt_];exact ⟨false,rfl,by simp;omega⟩
                    · rw [df c6,zf_]
                      exact ⟨t,e',pl.trans ⟨fun h=>⟨⟨c1,by omega,by omega,by omega,.inr (by omega)⟩,h⟩,fun h=>h.2⟩⟩
          · rw [show ((l.length:Int) != 1)=true by simp;omega,zt_]
            exact ⟨false,rfl,by simp [c1]⟩
        · rw [show (kd != 4)=true by simp [k4],zt_]
          by_cases ha:a=0
          · by_cases hb:b=0
            · subst ha;subst hb
              rw [show ((0:Int) != 0)=false from rfl,zf_]
              unfold Zbf
              rw [zf_,ZF k1,zf_]
              by_cases k2:kd=2
              · subst k2
                have eq2:OK ⟨2,[],l,0,0⟩↔l.length≠1∧OKL l:=by simp [OK,OK0]
                rw [eq2,ZV rfl,zt_]
                by_cases c1:l.length=1
                · rw [ZV (by simp [c1]),zt_];exact ⟨false,rfl,by simp [c1]⟩
                · rw [ZF (by simp;omega),zf_];exact ⟨t,e',pl.trans ⟨fun h=>⟨c1,h⟩,fun h=>h.2⟩⟩
              rw [ZF k2,zf_]
              by_cases k3:kd=3
              · subst k3
                have eq3:OK ⟨3,[],l,0,0⟩↔1<l.length∧OKL l:=by simp [OK,OK0]
                rw [eq3,ZV rfl,zt_]
                by_cases c1:1<l.length
                · rw [df (by simp;omega),zf_];exact ⟨t,e',pl.trans ⟨fun h=>⟨c1,h⟩,fun h=>h.2⟩⟩
                · rw [dt (by simp;omega),zt_];exact ⟨false,rfl,by simp [c1]⟩
              rw [ZF k3,zf_,ZF k4,zf_]
              exact ⟨false,rfl,by simp [OK,OK0,k1,k2,k3,k4]⟩
            · rw [show (a != 0)=false by simp [ha],zf_]
              exact j0f _ (by simp [hb]) (by simp [OK,OK0,hb,k4])
          · rw [show (a != 0)=true by simp [ha],zt_]
            exact j0f _ rfl (by simp [OK,OK0,ha,k4])
      · rw [dt (by have:=List.length_pos_iff.2 hst;show (0:Int)<_;simp only;omega),zt_]
        exact j0f _ rfl (by simp [OK,OK0,hst,k1])
theorem Znw {k:Nat} {r:Zd} (hk:k≤1048576) (hf:fs r≤k):∃t,F22 k r=some t∧(t=true↔(OK r∧dp r≤16)∧sz r≤200):=by
  obtain ⟨d,e1,_,_,p1⟩:=Znb k r 1 hk hf (by omega)
  have e1':F42 k r 1=some d:=e1
  obtain ⟨t,e2,p2⟩:=Zmq k r hk hf
  unfold F22 ZfT
  rw [e1',zb_,e2,zb_,Zid k r hk hf,zb_]
  by_cases h:d≤16
  · have h1:=p1.1 h
    rw [dt h,zt_]
    cases t
    · exact ⟨false,rfl,by simp;intro h;exact absurd (p2.2 h) (by simp)⟩
    · exact ⟨_,rfl,by simp [p2.1 rfl];omega⟩
  · have h1:=mt p1.2 h
    rw [df h,zf_]
    exact ⟨false,rfl,by simp;intro _ _;omega⟩
theorem ZlW {R:Zd→Int→Option Int} {d:Nat} {B:Int} {v:Zd} {P:Zd→Prop} (hB:B≤1000000000) (hd1:1≤d) (hd2:d≤1000) (hl:v.f_L.length≤1048576) (hR:∀x∈v.f_L,∃t,R x ((d-1:Nat):Int)=some t∧1≤t∧t≤B∧(t≤300→P x)) :
    ∀(l:List Zd) (c:Int) (i m:Nat),v.f_L.drop i=l→l.length<m→i≤v.f_L.length→1≤c→c≤1000+B→∃t,ZeC R v (d:Int) m c (i:Int)=some t∧c≤t∧t≤1000+B∧(t≤300→∀x∈l,P x)
  | [],c,i,m,hd,hm,hi,h0,h1=>by
    obtain ⟨m,rfl⟩:∃q,m=q+1:=⟨m-1,by simp at hm;omega⟩
    have:=ZP hd
    refine ⟨c,?_,by omega,h1,by simp⟩
    show ZeB _ _ _ _ _ _=_
    unfold ZeB ZfX
    rw [df (by omega),zf_,zf_]
  | x :: l,c,i,m,hd,hm,hi,h0,h1=>by
    obtain ⟨m,rfl⟩:∃q,m=q+1:=⟨m-1,by omega⟩
    obtain ⟨g1,g2,g3⟩:=ZA hd
    rw [List.length_cons] at hm
    show ∃t,ZeB R (ZeC R v (d:Int) m) v (d:Int) c (i:Int)=_∧_
    unfold ZeB ZfX
    rw [dt (by omega),zt_]
    by_cases hc:c<1000
    · obtain ⟨t1,e1,a1,b1,p1⟩:=hR x (List.mem_of_getElem? g2)
      obtain ⟨t2,e2,a2,b2,p2⟩:=ZlW hB hd1 hd2 hl hR l (c+t1) (i+1) m g3 (by omega) (by omega) (by omega) (by omega)
      rw [dt hc,zt_,Zx,g2,zb_,Zqr hd1 hd2,e1,zb_,ZR (by omega),Zv (x:=c+t1) (by omega) (by omega),e2]
      exact ⟨t2,rfl,by omega,b2,fun h=>List.forall_mem_cons.2 ⟨p1 (by omega),p2 h⟩⟩
    · rw [df hc,zf_]
      exact ⟨c,rfl,by omega,h1,fun h=>by omega⟩
theorem ZoJ:∀(d k:Nat) (r:Zd),d≤30→d+320≤k→∃t,F41 k r (d:Int)=some t∧1≤t∧t≤1000*(d+1)∧(t≤300→fs r≤d+1540∧dp r≤d)
  | d,0,_,_,hk=>by omega
  | 0,k+1,r,_,_=>⟨1000,rfl,by omega,by omega,fun h=>by omega⟩
  | d+1,k+1,⟨kd,st,l,a,b⟩,hd,hk=>by
    show ∃t,Zk0 (F41 k) k ⟨kd,st,l,a,b⟩ ((d+1:Nat):Int)=_∧_
    unfold Zk0 ZfW
    simp only
    rw [ZF (by omega),zf_]
    by_cases c1:l.length > 300
    · rw [dt (by omega),zt_,zt_]
      exact ⟨1000,rfl,by omega,by omega,fun h=>by omega⟩
    rw [df (by omega),zf_]
    by_cases c2:st.length > 300
    · rw [dt (by omega),zt_]
      exact ⟨1000,rfl,by omega,by omega,fun h=>by omega⟩
    rw [df (by omega),zf_,Zv (by omega) (by omega)]
    obtain ⟨t,e,a1,b1,p1⟩:=ZlW (R:=F41 k) (d:=d+1) (B:=1000*(d+1)) (v:=⟨kd,st,l,a,b⟩) (P:=fun x=>fs x≤d+1540∧dp x≤d) (by omega) (by omega) (by omega) (by show l.length≤_;omega) (fun x hx=>by
      obtain ⟨t,e,a1,b1,p1⟩:=ZoJ d k x (by omega) (by omega)
      exact ⟨t,e,a1,b1,p1⟩) l (1+(st.length:Int)) 0 k rfl (by omega) (Nat.zero_le _) (by omega) (by omega)
    refine ⟨t,e,by omega,by omega,fun h=>?_⟩
    have hp:=p1 h
    have h1:fsL l≤d+1540:=by
      clear e a1 b1 p1 c1
      induction l with
      | nil=>simp [fsL]
      | cons x l ih=>
        simp only [fsL]
        have:=(hp x List.mem_cons_self).1
        have:=ih fun y hy=>hp y (List.mem_cons_of_mem _ hy)
        omega
    have h2:dpL l≤d:=Zbw.2 fun x hx=>(hp x hx).2
    simp only [fs,dp]
    omega
theorem ZrM {k:Nat} (hk:350≤k) (r:Zd):∃t,F21 k r=some t∧(t=true→fs r≤1570):=by
  obtain ⟨t,e,a1,b1,p1⟩:=ZoJ 30 k r (by omega) (by omega)
  have e':F41 k r 30=some t:=e
  unfold F21
  rw [e',zb_]
  exact ⟨_,rfl,fun h=>by have:=(p1 (of_decide_eq_true h)).1;omega⟩
end Go.Proofs.YthilboheomikjaaGreatDoor
end
