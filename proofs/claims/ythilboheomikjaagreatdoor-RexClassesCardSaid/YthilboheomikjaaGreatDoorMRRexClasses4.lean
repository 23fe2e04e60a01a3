/- S11, G8, P8, G10, G11, A24, A25, P9, Q4, Q5, Q6, G12, Q7, Q3, Q8, N1, N2, G2, N3, N4, G4, A27 -/
import Derived.Test.YthilboheomikjaaGreatDoorMRRexClasses3
import Derived.Scope
import Derived.Control
set_option linter.unusedVariables false
set_option linter.unusedSimpArgs false
section
namespace Go.Proofs.YthilboheomikjaaGreatDoor
open Go.AL Go.Lib
set_option maxRecDepth 100000
theorem Zlt {k a b:Nat} {v:List Zb} (hab:a<b) (hb:b≤v.length) (hv:v.length≤1073741824) (hk:v.length<k) (hk2:5<k) :
    ∃fl v',F154 k v (a:Int) (b:Int)=some (fl,v')∧List.Perm v' v∧(Small v→Bnd v a b→Zav v v' a b∧(fl=true→ZI v' a b)):=by
  unfold F154
  rw [Zt (by omega) (by omega),show (a:Int)+1=((a+1:Nat):Int) by omega]
  obtain ⟨fl,v',e,p,c⟩:=ZhN (k:=k) hab k 0 (a+1) v (by omega) (by omega) (by omega) (by omega) hb hv hk
  exact ⟨fl,v',e,p,fun hs hbd=>c hs hbd fun p q x y h1 h2 h3=>by omega⟩
def Srt (v v':List Zb) (a b:Nat):Prop:=List.Perm v' v∧(Small v→Bnd v a b→Zav v v' a b∧ZI v' a b)
def Pre (v v':List Zb) (a b:Nat):Prop:=List.Perm v' v∧(Small v→Bnd v a b→Zav v v' a b)
theorem Kept.pre {v w:List Zb} {a b:Nat} (h:Kept v w a b):Pre v w a b:=⟨h.perm,fun _ _=>h.out⟩
theorem Pre.trans {u v w:List Zb} {a b:Nat} (hb:b≤u.length) (h:Pre u v a b) (g:Pre v w a b):Pre u w a b:=⟨g.1.trans h.1,fun hs hbd=>by
  have k:Kept u v a b:=⟨h.1,h.2 hs hbd⟩
  have o:=g.2 (hs.perm h.1) (hbd.kept k (Nat.le_refl _) (Nat.le_refl _) hb)
  exact fun p hp=>(o p hp).trans (k.out p hp)⟩
theorem Pre.srt {u v w:List Zb} {a b:Nat} (hb:b≤u.length) (h:Pre u v a b) (g:Srt v w a b):Srt u w a b:=⟨g.1.trans h.1,fun hs hbd=>by
  have k:Kept u v a b:=⟨h.1,h.2 hs hbd⟩
  obtain ⟨o,s⟩:=g.2 (hs.perm h.1) (hbd.kept k (Nat.le_refl _) (Nat.le_refl _) hb)
  exact ⟨fun p hp=>(o p hp).trans (k.out p hp),s⟩⟩
theorem Ze6 {t:List Zb} {a b q:Nat} {z:Zb} (hz:t[q]?=some z) (hq:q<b) (h1:∀p x,a≤p→p<q→t[p]?=some x→x.f_Lo≤z.f_Lo) (h2:∀p x,q<p→p<b→t[p]?=some x→z.f_Lo≤x.f_Lo)
    (s1:ZI t a q) (s2:ZI t (q+1) b):ZI t a b:=fun i j x y ha hij hj hx hy=>by
  by_cases jq:j<q
  · exact s1 i j x y ha hij jq hx hy
  · by_cases iq:q<i
    · exact s2 i j x y iq hij hj hx hy
    · have hxz:x.f_Lo≤z.f_Lo:=by
        by_cases e:i=q
        · subst e;rw [hz] at hx;obtain rfl:=Option.some.inj hx;omega
        · exact h1 i x ha (by omega) hx
      have hzy:z.f_Lo≤y.f_Lo:=by
        by_cases e:j=q
        · subst e;rw [hz] at hy;obtain rfl:=Option.some.inj hy;omega
        · exact h2 j y (by omega) hj hy
      omega
theorem Bnd.less {v:List Zb} {a b c:Nat} (h:Bnd v a b) (hc:c≤b):Bnd v a c:=fun p x y h0 hx hp hp2 hy=>h p x y h0 hx hp (by omega) hy
theorem ZhF {w:List Zb} {a b q:Nat} {z:Zb} (hs:Small w) (h:ZeG w a b q z):(∀p x,a≤p→p<q→w[p]?=some x→x.f_Lo≤z.f_Lo)∧(∀p x,q<p→p<b→w[p]?=some x→z.f_Lo≤x.f_Lo):=
  ⟨fun p x h1 h2 hx=>by have:=(Zcb hs hx h.here).1 (h.lo p x h1 h2 hx);omega,fun p x h1 h2 hx=>by
    have:=h.hi p x h1 h2 hx
    rw [Zcb hs hx h.here] at this
    omega⟩
theorem Zlz {w u t:List Zb} {a b q:Nat} {z:Zb} (haq:a≤q) (hq:q<b) (hb:b≤w.length) (hp:ZeG w a b q z) (h1:Srt w u a q) (h2:Srt u t (q+1) b):Srt w t a b:=by
  refine ⟨h2.1.trans h1.1,fun hs hbd=>?_⟩
  obtain ⟨o1,s1⟩:=h1.2 hs (hbd.less (by omega))
  have k1:Kept w u a q:=⟨h1.1,o1⟩
  obtain ⟨lo,hi⟩:=ZhF hs hp
  have hus:=hs.perm k1.perm
  have bu:Bnd u (q+1) b:=fun p x y _ hx hp2 hp3 hy=>by
    rw [Nat.add_sub_cancel,k1.out q (by omega),hp.here] at hx
    obtain rfl:=Option.some.inj hx
    rw [k1.out p (by omega)] at hy
    exact hi p y (by omega) hp3 hy
  obtain ⟨o2,s2⟩:=h2.2 hus bu
  have k2:Kept u t (q+1) b:=⟨h2.1,o2⟩
  refine ⟨fun p hp=>(o2 p (by omega)).trans (o1 p (by omega)),Ze6 (z:=z) (q:=q) ?_ hq ?_ ?_ ?_ s2⟩
  · rw [o2 q (by omega),o1 q (by omega)];exact hp.here
  · intro p x hap hpq hx
    rw [o2 p (by omega)] at hx
    obtain ⟨r,r1,r2,hr⟩:=k1.mem (by omega) hap hpq hx
    exact lo r x r1 r2 hr
  · intro p x hqp hpb hx
    obtain ⟨r,r1,r2,hr⟩:=k2.mem (by rw [k1.len];exact hb) hqp hpb hx
    rw [o1 r (by omega)] at hr
    exact hi r x r1 r2 hr
  · intro i j x y ha hij hj hx hy
    rw [o2 i (by omega)] at hx
    rw [o2 j (by omega)] at hy
    exact s1 i j x y ha hij hj hx hy
theorem ZkQ {w u t:List Zb} {a b q:Nat} {z:Zb} (haq:a≤q) (hq:q<b) (hb:b≤w.length) (hp:ZeG w a b q z) (h1:Srt w u (q+1) b) (h2:Srt u t a q):Srt w t a b:=by
  refine ⟨h2.1.trans h1.1,fun hs hbd=>?_⟩
  obtain ⟨lo,hi⟩:=ZhF hs hp
  have bw:Bnd w (q+1) b:=fun p x y _ hx hp2 hp3 hy=>by
    rw [Nat.add_sub_cancel,hp.here] at hx
    obtain rfl:=Option.some.inj hx
    exact hi p y (by omega) hp3 hy
  obtain ⟨o1,s1⟩:=h1.2 hs bw
  have k1:Kept w u (q+1) b:=⟨h1.1,o1⟩
  have hus:=hs.perm k1.perm
  have bu:Bnd u a q:=fun p x y h0 hx hp2 hp3 hy=>by
    rw [o1 (a-1) (by omega)] at hx
    rw [o1 p (by omega)] at hy
    exact hbd p x y h0 hx hp2 (by omega) hy
  obtain ⟨o2,s2⟩:=h2.2 hus bu
  have k2:Kept u t a q:=⟨h2.1,o2⟩
  refine ⟨fun p hp=>(o2 p (by omega)).trans (o1 p (by omega)),Ze6 (z:=z) (q:=q) ?_ hq ?_ ?_ s2 ?_⟩
  · rw [o2 q (by omega),o1 q (by omega)];exact hp.here
  · intro p x hap hpq hx
    obtain ⟨r,r1,r2,hr⟩:=k2.mem (by rw [k1.len];omega) hap hpq hx
    rw [o1 r (by omega)] at hr
    exact lo r x r1 r2 hr
  · intro p x hqp hpb hx
    rw [o2 p (by omega)] at hx
    obtain ⟨r,r1,r2,hr⟩:=k1.mem hb hqp hpb hx
    exact hi r x r1 r2 hr
  · intro i j x y ha hij hj hx hy
    rw [o2 i (by omega)] at hx
    rw [o2 j (by omega)] at hy
    exact s1 i j x y ha hij hj hx hy
theorem ZkP {v w t:List Zb} {a b q:Nat} {z:Zb} (haq:a<q) (hqb:q≤b) (hb:b≤v.length) (h0:0<a) (hz:∀x,v[a-1]?=some x→Small v→z.f_Lo≤x.f_Lo) (hzv:z∈v) (hk:Kept v w a b) (hp:ZgS w a b q z) (h:Srt w t q b):Srt v t a b:=by
  refine ⟨h.1.trans hk.perm,fun hs hbd=>?_⟩
  have hws:=hs.perm hk.perm
  have hzs:-4611686018427387904≤z.f_Lo∧z.f_Lo≤4611686018427387903:=hs z hzv
  have lo:∀p x,a≤p→p<q→w[p]?=some x→x.f_Lo≤z.f_Lo:=fun p x h1 h2 hx=>by
    have:=hp.lo p x h1 h2 hx
    unfold Le at this
    rw [ZdK hzs (hws.at hx)] at this
    omega
  have hi:∀p x,q≤p→p<b→w[p]?=some x→z.f_Lo<x.f_Lo:=fun p x h1 h2 hx=>by
    have:=hp.hi p x h1 h2 hx
    unfold Le at this
    rw [ZdK hzs (hws.at hx)] at this
    omega
  have bw:=hbd.kept hk (Nat.le_refl _) (Nat.le_refl _) hb
  obtain ⟨y0,hy0⟩:=ZL (v:=v) (i:=a-1) (by omega)
  have hwl:=hk.len
  have all:∀p x,a≤p→p<b→w[p]?=some x→z.f_Lo≤x.f_Lo:=fun p x h1 h2 hx=>by
    have h3:=bw p y0 x h0 (by rw [hk.out (a-1) (by omega)];exact hy0) h1 h2 hx
    have h4:=hz y0 hy0 hs
    omega
  have bq:Bnd w q b:=fun p x y _ hx hp2 hp3 hy=>by
    have h1:=lo (q-1) x (by omega) (by omega) hx
    have h2:=hi p y hp2 hp3 hy
    omega
  obtain ⟨o,s⟩:=h.2 hws bq
  have kt:Kept w t q b:=⟨h.1,o⟩
  refine ⟨fun p hp=>(o p (by omega)).trans (hk.out p hp),fun i j x y ha hij hj hx hy=>?_⟩
  by_cases iq:q≤i
  · exact s i j x y iq hij hj hx hy
  · rw [o i (by omega)] at hx
    have h1:=lo i x ha (by omega) hx
    by_cases jq:q≤j
    · obtain ⟨r,r1,r2,hr⟩:=kt.mem (by omega) jq hj hy
      have:=hi r y r1 r2 hr
      omega
    · rw [o j (by omega)] at hy
      have:=all j y (by omega) hj hy
      omega
def ZlD (R:List Zb→Int→Int→Int→Option (List Zb)) (k:Nat):Prop:=∀(v:List Zb) (a b:Nat) (l:Int),a≤b→b≤v.length→v.length≤1073741824→v.length+(b-a)+8≤k→∃v',R v (a:Int) (b:Int) l=some v'∧Srt v v' a b
theorem Zej {R:List Zb→Int→Int→Int→Option (List Zb)} {k:Nat} (hR:ZlD R k):∀(m:Nat) (v:List Zb) (a b:Nat) (lim:Int) (wb wp:Bool),a≤b→b≤v.length→v.length≤1073741824→v.length+(b-a)+7≤k→b-a<m→
    ∃v',Zaa R k m v (a:Int) (b:Int) lim wb wp=some v'∧Srt v v' a b
  | 0,v,a,b,lim,wb,wp,_,_,_,_,hm=>by omega
  | m+1,v,a,b,lim,wb,wp,hab,hb,hv,hk,hm=>by
    have e:Zaa R k (m+1) v (a:Int) (b:Int) lim wb wp=ZdU R k (Zaa R k m) v (a:Int) (b:Int) lim wb wp:=rfl
    rw [e]
    unfold ZdU
    rw [Zhc hab (by omega)]
    by_cases h12:b-a≤12
    · rw [dt (by omega)]
      obtain ⟨v',e1,p1,o1,s1⟩:=ZmQ (k:=k) (a:=a) (b:=b) (v:=v) (by omega) hab hb hv
      rw [cond_true,e1,Option.bind_some,if_pos p1.length_eq]
      exact ⟨v',rfl,p1,fun hs _=>⟨o1,s1 hs⟩⟩
    rw [df (by omega),cond_false]
    by_cases hl:lim=0
    · rw [Z9 hl,cond_true]
      obtain ⟨v',e1,k1,s1⟩:=Zmd (k:=k) (a:=a) (b:=b) (v:=v) (by omega) (by omega) hb hv
      rw [e1,Option.bind_some,if_pos k1.len]
      exact ⟨v',rfl,k1.perm,fun hs _=>⟨k1.out,s1 hs⟩⟩
    rw [Z0 hl,cond_false]
    have h17:∀(w:List Zb) (pv:Nat) (l2:Int),Pre v w a b→a≤pv→pv<b→∃v',ZcC R k (Zaa R k m) (a:Int) (b:Int) wb wp l2 (pv:Int) w=some v'∧Srt v v' a b:=fun w pv l2 pw ha hpb=>by
      have hwl:=pw.1.length_eq
      obtain ⟨z,hz⟩:=ZL (v:=w) (i:=pv) (by omega)
      have h18f:∃v',ZbR R k (Zaa R k m) (a:Int) (b:Int) wb wp l2 (pv:Int) w false=some v'∧Srt v v' a b:=by
        unfold ZbR
        obtain ⟨q,fl,u,z2,e1,q1,q2,k1,par⟩:=Zmo (k:=k) (a:=a) (b:=b) (pp:=pv) (v:=w) (by omega) ha hpb (by omega) (by omega)
        have hul:=k1.len
        rw [cond_false,e1,Option.bind_some,if_pos hul,if_pos (by decide)]
        have ew:w64 ((q:Int)+1)=((q+1:Nat):Int):=by rw [Zt (by omega) (by omega)];omega
        simp only
        rw [ew]
        have pu:Pre v u a b:=pw.trans hb k1.pre
        cases decide (w64 ((q:Int)-(a:Int))<w64 ((b:Int)-(q:Int)))
        · obtain ⟨t,e2,t2⟩:=hR u (q+1) b l2 (by omega) (by omega) (by omega) (by omega)
          have htl:=t2.1.length_eq
          rw [cond_false,e2,Option.bind_some,if_pos htl]
          obtain ⟨v',e3,t3⟩:=Zej hR m t a q l2 _ fl q1 (by omega) (by omega) (by omega) (by omega)
          exact ⟨v',e3,pu.srt hb (ZkQ q1 q2 (by omega) par t2 t3)⟩
        · obtain ⟨t,e2,t2⟩:=hR u a q l2 (by omega) (by omega) (by omega) (by omega)
          have htl:=t2.1.length_eq
          rw [cond_true,e2,Option.bind_some,if_pos htl]
          obtain ⟨v',e3,t3⟩:=Zej hR m t (q+1) b l2 _ fl (by omega) (by omega) (by omega) (by omega) (by omega)
          exact ⟨v',e3,pu.srt hb (Zlz q1 q2 (by omega) par t2 t3)⟩
      unfold ZcC
      by_cases h0:0<a
      · rw [dt (by omega),cond_true]
        obtain ⟨x,hx⟩:=ZL (v:=w) (i:=a-1) (by omega)
        rw [ZfQ (by omega) (by omega),if_pos ⟨by omega,by omega⟩,Zz,hx,Option.bind_some,if_pos ⟨by omega,by omega⟩,Zz,hz,Option.bind_some]
        simp only [F104,Option.bind_some]
        by_cases hc:w64 (x.f_Lo-z.f_Lo)<0
        · rw [dt hc];exact h18f
        · rw [df hc]
          unfold ZbR
          obtain ⟨q,u,e1,q1,q2,k1,par⟩:=Zlq (k:=k) (a:=a) (b:=b) (pp:=pv) (v:=w) (by omega) ha hpb (by omega) (by omega) hz
          have hul:=k1.len
          rw [Bool.not_false,cond_true,e1,Option.bind_some,if_pos hul]
          obtain ⟨v',e3,t3⟩:=Zej hR m u q b l2 wb wp (by omega) (by omega) (by omega) (by omega) (by omega)
          refine ⟨v',e3,pw.srt hb (ZkP q1 q2 (by omega) h0 (fun y hy hs=>?_) (List.mem_of_getElem? hz) k1 par t3)⟩
          rw [hx] at hy
          obtain rfl:=Option.some.inj hy
          rw [ZdK (hs.at hx) (hs.at hz)] at hc
          omega
      · rw [df (by omega)];exact h18f
    have h15:∀(w:List Zb) (pv:Nat) (l2 h:Int),Pre v w a b→a≤pv→pv<b→∃v',ZcB R k (Zaa R k m) (a:Int) (b:Int) wb wp l2 w (pv:Int) h=some v'∧Srt v v' a b:=fun w pv l2 h pw ha hpb=>by
      have hwl:=pw.1.length_eq
      have h16:∀c:Bool,∃v',ZbQ R k (Zaa R k m) (a:Int) (b:Int) wb wp l2 w (pv:Int) c=some v'∧Srt v v' a b:=fun c=>by
        unfold ZbQ
        cases c
        · exact h17 w pv l2 pw ha hpb
        · obtain ⟨fl,u,e1,p1,c1⟩:=Zlt (k:=k) (a:=a) (b:=b) (v:=w) (by omega) (by omega) (by omega) (by omega) (by omega)
          have hul:=p1.length_eq
          rw [cond_true,e1,Option.bind_some,if_pos hul]
          cases fl
          · exact h17 u pv l2 (pw.trans hb ⟨p1,fun hs hbd=>(c1 hs hbd).1⟩) ha hpb
          · exact ⟨u,rfl,pw.srt hb ⟨p1,fun hs hbd=>⟨(c1 hs hbd).1,(c1 hs hbd).2 rfl⟩⟩⟩
      unfold ZcB
      cases wb
      · rw [cond_false];exact h16 _
      · cases wp
        · rw [cond_true,cond_false];exact h16 _
        · rw [cond_true,cond_true];exact h16 _
    have h14:∀(w:List Zb) (l2:Int),Pre v w a b→∃v',ZcA R k (Zaa R k m) (a:Int) (b:Int) wb wp w l2=some v'∧Srt v v' a b:=fun w l2 pw=>by
      have hwl:=pw.1.length_eq
      unfold ZcA
      obtain ⟨p,h,e1,p1,p2⟩:=Zlr (k:=k) (a:=a) (b:=b) (v:=w) (by omega) (by omega) (by omega)
      rw [e1,Option.bind_some,if_pos rfl]
      simp only
      cases h == 2
      · exact h15 w p l2 h pw p1 p2
      · obtain ⟨u,e2,k2⟩:=ZmZ (k:=k) (a:=a) (b:=b) (v:=w) (by omega) (by omega) (by omega) (by omega)
        rw [cond_true,e2,Option.bind_some,if_pos k2.len,ZfQ (by omega) (by omega),Zhc p1 (by omega),show w64 (((b-1:Nat):Int)-((p-a:Nat):Int))=((b-1-(p-a):Nat):Int) by rw [Zt (by omega) (by omega)];omega]
        exact h15 u (b-1-(p-a)) l2 1 (pw.trans hb k2.pre) (by omega) (by omega)
    cases wb
    · obtain ⟨u,e1,k1⟩:=Zk7 (k:=k) (a:=a) (b:=b) (v:=v) (by omega) (by omega) hb hv
      rw [Bool.not_false,cond_true,e1,Option.bind_some,if_pos k1.len]
      exact h14 u _ k1.pre
    · exact h14 v lim ⟨List.Perm.refl _,fun _ _ _ _=>rfl⟩
theorem ZkL:∀k:Nat,ZlD (F121 k) k
  | 0=>fun v a b l _ _ _ hk=>by omega
  | k+1=>fun v a b l hab hb hv hk=>by
    show ∃v',Zaa (F121 k) k k v (a:Int) (b:Int) l true true=some v'∧Srt v v' a b
    exact Zej (ZkL k) k v a b l true true hab hb hv (by omega) (by omega)
theorem Zms {k:Nat} {v:List Zb} (hv:v.length≤1073741824) (hk:2*v.length+8≤k):∃v',F103 k v=some v'∧List.Perm v' v∧(Small v→ZI v' 0 v'.length):=by
  unfold F103
  obtain ⟨y,hy⟩:∃y,F112 k (IntKind.wrap .u64 (v.length:Int))=some y:=by
    have hw:IntKind.wrap .u64 (v.length:Int)=v.length:=by simp [IntKind.wrap,IntKind.bits,IntKind.signed];omega
    unfold F112
    rw [hw,if_pos (by omega)]
    exact ⟨_,rfl⟩
  obtain ⟨v',e,p,c⟩:=ZkL k v 0 v.length y (by omega) (by omega) hv (by omega)
  have e':F121 k v 0 (v.length:Int) y=some v':=e
  rw [hy,Option.bind_some,e',Option.bind_some,if_pos p.length_eq]
  exact ⟨v',rfl,p,fun hs=>by rw [p.length_eq];exact (c hs fun p x y h0=>by omega).2⟩
end Go.Proofs.YthilboheomikjaaGreatDoor
end
section
namespace Go.Proofs.YthilboheomikjaaGreatDoor
open Go.AL
set_option maxRecDepth 100000
def ZdC (self4:(List Zb)→Int→Option (List Zb)) (v137:Int) (v150:List Zb):Option (List Zb):=
  self4 v150 (w64 (v137+1))
def Zez (self4:(List Zb)→Int→Option (List Zb)) (v135:List Zb) (v137:Int) (y139:Zb) (v143:Bool):Option (List Zb):=
  cond v143 (if (0:Int)≤(w64 ((v135.length:Int)-1))∧(w64 ((v135.length:Int)-1))<(v135.length:Int) then (idxL v135 (w64 ((v135.length:Int)-1))).bind fun y146=>if (0:Int)≤(w64 ((v135.length:Int)-1))∧(w64 ((v135.length:Int)-1))<(v135.length:Int) then (idxL v135 (w64 ((v135.length:Int)-1))).bind fun y148=>(ZdC self4 v137 (v135.set (Int.toNat (w64 ((v135.length:Int)-1))) ({ y148 with f_Hi:=(mx y146.f_Hi y139.f_Hi) }:Zb))) else none else none) (if v135.length+([y139]:List Zb).length≤1073741824 then (ZdC self4 v137 (v135 ++ ([y139]:List Zb))) else none)
def Zb3 (self4:(List Zb)→Int→Option (List Zb)) (y102:List Zb) (v135:List Zb) (v137:Int):Option (List Zb):=
  (cond (decide (v137<(y102.length:Int))) ((idxL y102 v137).bind fun y139=>((cond (decide ((v135.length:Int) > 0)) (if (0:Int)≤(w64 ((v135.length:Int)-1))∧(w64 ((v135.length:Int)-1))<(v135.length:Int) then (idxL v135 (w64 ((v135.length:Int)-1))).bind fun y142=>(Zez self4 v135 v137 y139 (decide (y139.f_Lo≤(w64 (y142.f_Hi+1))))) else none) ((Zez self4 v135 v137 y139 false))))) (((some v135))))
def ZbK (y102:List Zb):Nat→(List Zb)→Int→Option (List Zb)
  | 0,_,_=>none
  | m_+1,v135,v137=>Zb3 (ZbK y102 m_) y102 v135 v137
def F77 (k:Nat) (v0:List Zb):Option (List Zb):=
  (F102 k v0).bind fun y101=>(F103 k y101).bind fun y102=>if y102.length=y101.length then (((ZbK y102 k ([]:List Zb) 0))) else none
theorem Zgb (k:Nat) (v0:List Zb) (r:List Zb) (hF:F77 k v0=some r):Sim Tryz.prog GL0 77 [one (.sl (v0.map Za))] [] (one (.sl (r.map Za))) []:=by
 refine ZC [] Tryz.func77 rfl kr kr ?_
 show WA _ _ 53 _ _ _
 refine WA.seq ?_
 refine WA.reg [0] [] [] (env':=[(0,one (.sl (v0.map Za)))]) (os':=[]) (O:=[]) kr (sound _ _) trivial ?_
 refine WA.seq ?_
 obtain ⟨y101,hy101,hF⟩:=bind_some hF
 refine WA.reg [0] [108] [(1,.call [] (.val false [.arr 0 y101.length]) [.arr 2 (y101.map Za)] [108])] (env':=[(0,.val false [.arr 108 y101.length])]) (os':=[(108,.arr 2 (y101.map Za))]) (O:=[Sim Tryz.prog GL0 102 [one (.sl (v0.map Za))] [] (.val false [.arr 0 y101.length]) [.arr 2 (y101.map Za)],([]:List Nat).Nodup]) kr (sound _ _) ⟨(ZlM k _ _ hy101),(by decide),trivial⟩ ?_
 refine WA.seq ?_
 obtain ⟨y102,hy102,hF⟩:=bind_some hF
 obtain ⟨hl103,hF⟩:=Zl hF
 refine WA.reg [0] [108] [(1,.call [108] (.tup []) [.arr 2 (y102.map Za)] [])] (env':=[(0,.val false [.arr 108 y101.length])]) (os':=[(108,.arr 2 (y102.map Za))]) (O:=[Sim Tryz.prog GL0 103 [.val false [.arr 0 y101.length],.val false [.pv (.fn 104)]] [.arr 2 (y101.map Za)] (.tup []) [.arr 2 (y102.map Za)],([108]:List Nat).Nodup]) kr (sound _ _) ⟨(ZlN k _ _ hy102 (n0:=y101.length) zt),(by decide),trivial⟩ ?_
 refine WA.seq ?_
 refine WA.reg [0,3] [103,108] [(0,.obj 103)] (env':=[(0,.val false [.arr 108 y101.length]),(3,.val false [.arr 103 0])]) (os':=[(103,.arr 2 (([]:List Zb).map Za)),(108,.arr 2 (y102.map Za))]) (O:=[]) kr (sound _ _) trivial ?_
 refine WA.seq ?_
 refine WA.seq ?_
 refine WA.rm (α:=Int) (raw:=((y101.length:Nat):Int)) (can:=(y102.length:Int)) (fun m_=>([(3,.val false [.arr 103 0]),(11,.val false [.arr 108 y101.length]),(12,one (.int .i64 m_)),(13,one (.int .i64 0))],[(103,.arr 2 (([]:List Zb).map Za)),(108,.arr 2 (y102.map Za))],[])) ((by first | (simp only [zl,Zf];done) | (simp only [zl,Zf];omega) | omega)) [3,11,12,13] [103,108] [] kr (sound _ _) trivial ?_
 refine WA.freeze 108 11 (s:=2) (n:=y101.length) (els:=(y102.map Za)) rfl rfl zt ?_
 refine WA.keep [3,11,12,13] [103] (env':=[(3,.val false [.arr 103 0]),(11,one (.sl (y102.map Za))),(12,one (.int .i64 (y102.length:Int))),(13,one (.int .i64 0))]) (os':=[(103,.arr 2 (([]:List Zb).map Za))]) kr kr ?_
 refine WA.block ?_
 refine WA.loop (fun m s_=>∃(v135:List Zb) (v136:Nat) (v137:Int),Zi s_.env [3,11,12,13]=[(3,.val false [.arr 103 v136]),(11,one (.sl (y102.map Za))),(12,one (.int .i64 (y102.length:Int))),(13,one (.int .i64 v137))]∧Zi s_.os [103]=[(103,.arr 2 (v135.map Za))]∧v136=(v135:List _).length∧ZbK y102 m v135 v137=some r) k ⟨([]:List Zb),0,0,kr,kr,zt,hF⟩ ?_
 clear hF
 rintro m4 s_ ⟨v135,v136,v137,he,ho,hn_v136,hF⟩
 refine WA.keep _ _ he ho ?_
 clear he ho
 cases m4 with
 | zero=>cases hF
 | succ m4=>
  obtain ⟨self4,hself4⟩:∃g,g=ZbK y102 m4:=⟨_,rfl⟩
  have hF:Zb3 self4 y102 v135 v137=some r:=by first | (rw [hself4];exact hF) | exact hF
  refine WA.seq ?_
  refine WA.reg [3,11,12,13,14] [103] [] (env':=[(3,.val false [.arr 103 v136]),(11,one (.sl (y102.map Za))),(12,one (.int .i64 (y102.length:Int))),(13,one (.int .i64 v137)),(14,one (.bool (decide (v137<(y102.length:Int)))))]) (os':=[(103,.arr 2 (v135.map Za))]) (O:=[]) kr (sound _ _) trivial ?_
  refine WA.seq ?_
  refine WA.cond (b:=(decide (v137<(y102.length:Int)))) rfl (fun hb138=>?_) (fun hb138=>?_)
  {
 have hF:=Zk hF hb138
 refine WA.skip ?_
 refine WA.join (fun s_=>∃(v150:List Zb) (v151:Nat),Zi s_.env [3,11,12,13]=[(3,.val false [.arr 103 v151]),(11,one (.sl (y102.map Za))),(12,one (.int .i64 (y102.length:Int))),(13,one (.int .i64 v137))]∧Zi s_.os [103]=[(103,.arr 2 (v150.map Za))]∧v151=(v150:List _).length∧ZdC self4 v137 v150=some r) ?_ ?_
 {
 rintro s_ ⟨v150,v151,he,ho,hn_v151,hF⟩
 refine WA.keep _ _ he ho ?_
 clear he ho
 refine WA.reg [3,11,12,13] [103] [] (env':=[(3,.val false [.arr 103 v151]),(11,one (.sl (y102.map Za))),(12,one (.int .i64 (y102.length:Int))),(13,one (.int .i64 (w64 (v137+1))))]) (os':=[(103,.arr 2 (v150.map Za))]) (O:=[]) kr (sound _ _) trivial ?_
 exact ⟨m4,Nat.lt_succ_self _,v150,v151,(w64 (v137+1)),kr,kr,zt,by rw [hself4] at hF;exact hF⟩ }
 {
 refine WA.block ?_
 refine WA.seq ?_
 obtain ⟨y139,hy139,hF⟩:=bind_some hF
 refine WA.reg [3,5,11,12,13] [103,105] [(0,.cells (Za y139)),(2,.obj 105)] (env':=[(3,.val false [.arr 103 v136]),(5,.val false [.ptr 105 1 0 0]),(11,one (.sl (y102.map Za))),(12,one (.int .i64 (y102.length:Int))),(13,one (.int .i64 v137))]) (os':=[(103,.arr 2 (v135.map Za)),(105,.box (pvL (Za y139)))]) (O:=[idxL (y102.map Za) v137=some (Za y139)]) kr (sound _ _) ⟨(Zp _ hy139),trivial⟩ ?_
 refine WA.seq ?_
 refine WA.rm (α:=Int) (raw:=((v136:Nat):Int)) (can:=(v135.length:Int)) (fun m_=>([(3,.val false [.arr 103 v136]),(5,.val false [.ptr 105 1 0 0]),(6,one (.int .i64 m_)),(11,one (.sl (y102.map Za))),(12,one (.int .i64 (y102.length:Int))),(13,one (.int .i64 v137))],[(103,.arr 2 (v135.map Za)),(105,.box (pvL (Za y139)))],[])) ((by first | (simp only [zl,Zf];done) | (simp only [zl,Zf];omega) | omega)) [3,5,6,11,12,13] [103,105] [] kr (sound _ _) trivial ?_
 refine WA.join (fun s_=>∃(v143:Bool),Zi s_.env [3,5,6,11,12,13,32]=[(3,.val false [.arr 103 v136]),(5,.val false [.ptr 105 1 0 0]),(6,one (.int .i64 (v135.length:Int))),(11,one (.sl (y102.map Za))),(12,one (.int .i64 (y102.length:Int))),(13,one (.int .i64 v137)),(32,one (.bool v143))]∧Zi s_.os [103,105]=[(103,.arr 2 (v135.map Za)),(105,.box (pvL (Za y139)))]∧Zez self4 v135 v137 y139 v143=some r) ?_ ?_
 {
 rintro s_ ⟨v143,he,ho,hF⟩
 refine WA.keep _ _ he ho ?_
 clear he ho
 refine WA.cond (b:=v143) rfl (fun hb144=>?_) (fun hb144=>?_)
 {
 have hF:=Zk hF hb144
 obtain ⟨hc145,hF⟩:=Zl hF
 obtain ⟨y146,hy146,hF⟩:=bind_some hF
 obtain ⟨hc147,hF⟩:=Zl hF
 obtain ⟨y148,hy148,hF⟩:=bind_some hF
 have z0:(w64 ((v135.length:Int)-1))<((v136:Nat):Int):=(by have h_:=hc145.2;(try simp only [zl,Zf] at h_ ⊢);omega)
 refine WA.rdm (α:=(List (List PV))) (raw:=((v135.map Za).set (Int.toNat (w64 ((v135.length:Int)-1))) (Za ({ y148 with f_Hi:=(mx y146.f_Hi y139.f_Hi) }:Zb)))) (can:=((v135.set (Int.toNat (w64 ((v135.length:Int)-1))) ({ y148 with f_Hi:=(mx y146.f_Hi y139.f_Hi) }:Zb)).map Za)) (fun m_=>([(3,.val false [.arr 103 v136]),(11,one (.sl (y102.map Za))),(12,one (.int .i64 (y102.length:Int))),(13,one (.int .i64 v137))],[(103,.arr 2 m_)],[v136=(v135.map Za).length,(0:Int)≤(w64 ((v135.length:Int)-1)),(w64 ((v135.length:Int)-1))<((v136:Nat):Int),v136=(v135.map Za).length,0<v136,v136=(v135.map Za).length,(v135.map Za)[Int.toNat (w64 ((v135.length:Int)-1))]?=some (Za y146),v136=(v135.map Za).length,(0:Int)≤(w64 ((v135.length:Int)-1)),(w64 ((v135.length:Int)-1))<((v136:Nat):Int),v136=(v135.map Za).length,0<v136,v136=(v135.map Za).length,(v135.map Za)[Int.toNat (w64 ((v135.length:Int)-1))]?=some (Za y148)])) (zm) [3,11,12,13] [103] [(8,.cells (Za y146)),(14,.cells (Za y148))] kr kr kr (sound _ _) ⟨zt,hc145.1,z0,zt,(by omega),zt,(Zo (Zp _ hy146)),zt,hc147.1,z0,zt,(by omega),zt,(Zo (Zp _ hy148)),trivial⟩ ?_
 exact ⟨(v135.set (Int.toNat (w64 ((v135.length:Int)-1))) ({ y148 with f_Hi:=(mx y146.f_Hi y139.f_Hi) }:Zb)),v136,kr,kr,zt,hF⟩ }
 {
 have hF:=Zj hF hb144
 obtain ⟨hc149,hF⟩:=Zl hF
 refine WA.rm (α:=(List (List PV))) (raw:=((v135.map Za) ++ (([y139]:List Zb).map Za))) (can:=((v135 ++ ([y139]:List Zb)).map Za)) (fun m_=>([(3,.val false [.arr 103 (v136+1)]),(11,one (.sl (y102.map Za))),(12,one (.int .i64 (y102.length:Int))),(13,one (.int .i64 v137))],[(103,.arr 2 m_)],[v136=(v135.map Za).length,(v135.map Za).length+(([y139]:List Zb).map Za).length≤1073741824,∀es,es∈(([y139]:List Zb).map Za)→es.length=2])) (zm) [3,11,12,13] [103] [] kr (sound _ _) ⟨zt,(by first | exact hc149 | (simp only [List.length_map,Zf];exact hc149)),(Zax ([y139]:List Zb)),trivial⟩ ?_
 exact ⟨(v135 ++ ([y139]:List Zb)),(v136+1),kr,kr,zt,hF⟩ } }
 {
 rcases Bool.eq_false_or_eq_true (decide ((v135.length:Int) > 0)) with hb140 | hb140
 {
 have hF:=Zk hF hb140
 obtain ⟨hc141,hF⟩:=Zl hF
 obtain ⟨y142,hy142,hF⟩:=bind_some hF
 refine WA.regD kr [3,5,6,11,12,13,32] [103,105] [(2,.bool true),(10,.cells (Za y142))] (env':=[(3,.val false [.arr 103 v136]),(5,.val false [.ptr 105 1 0 0]),(6,one (.int .i64 (v135.length:Int))),(11,one (.sl (y102.map Za))),(12,one (.int .i64 (y102.length:Int))),(13,one (.int .i64 v137)),(32,one (.bool (decide (y139.f_Lo≤(w64 (y142.f_Hi+1))))))]) (os':=[(103,.arr 2 (v135.map Za)),(105,.box (pvL (Za y139)))]) (O:=[(decide ((v135.length:Int) > 0))=true,v136=(v135.map Za).length,(0:Int)≤(w64 ((v135.length:Int)-1)),(w64 ((v135.length:Int)-1))<((v136:Nat):Int),v136=(v135.map Za).length,0<v136,v136=(v135.map Za).length,(v135.map Za)[Int.toNat (w64 ((v135.length:Int)-1))]?=some (Za y142)]) kr kr (sound _ _) ⟨hb140,zt,hc141.1,(by have h_:=hc141.2;(try simp only [zl,Zf] at h_ ⊢);omega),zt,(by omega),zt,(Zo (Zp _ hy142)),trivial⟩ ?_
 exact ⟨(decide (y139.f_Lo≤(w64 (y142.f_Hi+1)))),kr,kr,hF⟩ }
 {
 have hF:=Zj hF hb140
 refine WA.regD kr [3,5,6,11,12,13,32] [103,105] [(2,.bool false)] (env':=[(3,.val false [.arr 103 v136]),(5,.val false [.ptr 105 1 0 0]),(6,one (.int .i64 (v135.length:Int))),(11,one (.sl (y102.map Za))),(12,one (.int .i64 (y102.length:Int))),(13,one (.int .i64 v137)),(32,one (.bool false))]) (os':=[(103,.arr 2 (v135.map Za)),(105,.box (pvL (Za y139)))]) (O:=[(decide ((v135.length:Int) > 0))=false]) kr kr (sound _ _) ⟨hb140,trivial⟩ ?_
 exact ⟨false,kr,kr,hF⟩ } } } }
  {
 have hF:=Zj hF hb138
 refine WA.exit ?_
 refine WA.seq ?_
 refine WA.reg [2] [103] [] (env':=[(2,.val false [.arr 103 v136])]) (os':=[(103,.arr 2 (v135.map Za))]) (O:=[]) kr (sound _ _) trivial ?_
 refine WA.freeze 103 2 (s:=2) (n:=v136) (els:=(v135.map Za)) rfl rfl zt ?_
 refine WA.keep [2] [] (env':=[(2,one (.sl (v135.map Za)))]) (os':=[]) kr kr ?_
 refine WA.ret ?_
 obtain rfl:=Option.some.inj hF
 exact Zu (one (.sl (v135.map Za))) [] kr kr kr kr (by decide) rfl rfl }
def Zfn (self11:(List Zb)→Int→Option (List Zb)) (v178:Int) (v183:List Zb):Option (List Zb):=
  self11 v183 (w64 (v178+1))
def Zcs (self8:(List Zb)→Int→Option (List Zb)) (self11:(List Zb)→Int→Option (List Zb)) (v1:List Zb) (v158:Int) (y160:Zb) (v176:List Zb) (v178:Int):Option (List Zb):=
  (cond (decide (v178<(v1.length:Int))) ((idxL v1 v178).bind fun y180=>(((cond (decide ((mx y160.f_Lo y180.f_Lo)≤(mn y160.f_Hi y180.f_Hi))) (if v176.length+([(⟨(mx y160.f_Lo y180.f_Lo),(mn y160.f_Hi y180.f_Hi)⟩:Zb)]:List Zb).length≤1073741824 then (Zfn self11 v178 (v176 ++ ([(⟨(mx y160.f_Lo y180.f_Lo),(mn y160.f_Hi y180.f_Hi)⟩:Zb)]:List Zb))) else none) ((Zfn self11 v178 v176)))))) ((self8 v176 (w64 (v158+1)))))
def ZbV (self8:(List Zb)→Int→Option (List Zb)) (v1:List Zb) (v158:Int) (y160:Zb):Nat→(List Zb)→Int→Option (List Zb)
  | 0,_,_=>none
  | m_+1,v176,v178=>Zcs self8 (ZbV self8 v1 v158 y160 m_) v1 v158 y160 v176 v178
def ZdB (k:Nat) (self8:(List Zb)→Int→Option (List Zb)) (v0:List Zb) (v1:List Zb) (v156:List Zb) (v158:Int):Option (List Zb):=
  (cond (decide (v158<(v0.length:Int))) ((idxL v0 v158).bind fun y160=>((ZbV self8 v1 v158 y160 k v156 0))) ((F77 k v156).bind fun y185=>(some y185)))
def ZbJ (k:Nat) (v0:List Zb) (v1:List Zb):Nat→(List Zb)→Int→Option (List Zb)
  | 0,_,_=>none
  | m_+1,v156,v158=>ZdB k (ZbJ k v0 v1 m_) v0 v1 v156 v158
def F76 (k:Nat) (v0:List Zb) (v1:List Zb):Option (List Zb):=
  (((ZbJ k v0 v1 k ([]:List Zb) 0)))
theorem Zid (k:Nat) (v0:List Zb) (v1:List Zb) (r:List Zb) (hF:F76 k v0 v1=some r):Sim Tryz.prog GL0 76 [one (.sl (v0.map Za)),one (.sl (v1.map Za))] [] (one (.sl (r.map Za))) []:=by
 refine ZC [] Tryz.func76 rfl kr kr ?_
 show WA _ _ 47 _ _ _
 refine WA.seq ?_
 refine WA.reg [0,1] [] [] (env':=[(0,one (.sl (v0.map Za))),(1,one (.sl (v1.map Za)))]) (os':=[]) (O:=[]) kr (sound _ _) trivial ?_
 refine WA.seq ?_
 refine WA.reg [0,1,5] [105] [(0,.obj 105)] (env':=[(0,one (.sl (v0.map Za))),(1,one (.sl (v1.map Za))),(5,.val false [.arr 105 0])]) (os':=[(105,.arr 2 (([]:List Zb).map Za))]) (O:=[]) kr (sound _ _) trivial ?_
 refine WA.seq ?_
 refine WA.seq ?_
 refine WA.rm (α:=Int) (raw:=((v0.map Za).length:Int)) (can:=(v0.length:Int)) (fun m_=>([(1,one (.sl (v1.map Za))),(5,.val false [.arr 105 0]),(12,one (.sl (v0.map Za))),(13,one (.int .i64 m_)),(14,one (.int .i64 0))],[(105,.arr 2 (([]:List Zb).map Za))],[])) ((by first | (simp only [zl,Zf];done) | (simp only [zl,Zf];omega) | omega)) [1,5,12,13,14] [105] [] kr (sound _ _) trivial ?_
 refine WA.block ?_
 refine WA.loop (fun m s_=>∃(v156:List Zb) (v157:Nat) (v158:Int),Zi s_.env [1,5,12,13,14]=[(1,one (.sl (v1.map Za))),(5,.val false [.arr 105 v157]),(12,one (.sl (v0.map Za))),(13,one (.int .i64 (v0.length:Int))),(14,one (.int .i64 v158))]∧Zi s_.os [105]=[(105,.arr 2 (v156.map Za))]∧v157=(v156:List _).length∧ZbJ k v0 v1 m v156 v158=some r) k ⟨([]:List Zb),0,0,kr,kr,zt,hF⟩ ?_
 clear hF
 rintro m8 s_ ⟨v156,v157,v158,he,ho,hn_v157,hF⟩
 refine WA.keep _ _ he ho ?_
 clear he ho
 cases m8 with
 | zero=>cases hF
 | succ m8=>
  obtain ⟨self8,hself8⟩:∃g,g=ZbJ k v0 v1 m8:=⟨_,rfl⟩
  have hF:ZdB k self8 v0 v1 v156 v158=some r:=by first | (rw [hself8];exact hF) | exact hF
  refine WA.seq ?_
  refine WA.reg [1,5,12,13,14,15] [105] [] (env':=[(1,one (.sl (v1.map Za))),(5,.val false [.arr 105 v157]),(12,one (.sl (v0.map Za))),(13,one (.int .i64 (v0.length:Int))),(14,one (.int .i64 v158)),(15,one (.bool (decide (v158<(v0.length:Int)))))]) (os':=[(105,.arr 2 (v156.map Za))]) (O:=[]) kr (sound _ _) trivial ?_
  refine WA.seq ?_
  refine WA.cond (b:=(decide (v158<(v0.length:Int)))) rfl (fun hb159=>?_) (fun hb159=>?_)
  {
 have hF:=Zk hF hb159
 refine WA.skip ?_
 refine WA.seq ?_
 refine WA.block ?_
 refine WA.seq ?_
 obtain ⟨y160,hy160,hF⟩:=bind_some hF
 refine WA.reg [1,5,7,12,13,14] [105,107] [(0,.cells (Za y160)),(2,.obj 107)] (env':=[(1,one (.sl (v1.map Za))),(5,.val false [.arr 105 v157]),(7,.val false [.ptr 107 1 0 0]),(12,one (.sl (v0.map Za))),(13,one (.int .i64 (v0.length:Int))),(14,one (.int .i64 v158))]) (os':=[(105,.arr 2 (v156.map Za)),(107,.box (pvL (Za y160)))]) (O:=[idxL (v0.map Za) v158=some (Za y160)]) kr (sound _ _) ⟨(Zp _ hy160),trivial⟩ ?_
 refine WA.seq ?_
 refine WA.rm (α:=Int) (raw:=((v1.map Za).length:Int)) (can:=(v1.length:Int)) (fun m_=>([(1,one (.sl (v1.map Za))),(5,.val false [.arr 105 v157]),(7,.val false [.ptr 107 1 0 0]),(12,one (.sl (v0.map Za))),(13,one (.int .i64 (v0.length:Int))),(14,one (.int .i64 v158)),(18,one (.sl (v1.map Za))),(19,one (.int .i64 m_)),(20,one (.int .i64 0))],[(105,.arr 2 (v156.map Za)),(107,.box (pvL (Za y160)))],[])) ((by first | (simp only [zl,Zf];done) | (simp only [zl,Zf];omega) | omega)) [1,5,7,12,13,14,18,19,20] [105,107] [] kr (sound _ _) trivial ?_
 refine WA.block ?_
 refine WA.loop (fun m s_=>∃(v176:List Zb) (v177:Nat) (v178:Int),Zi s_.env [1,5,7,12,13,14,18,19,20]=[(1,one (.sl (v1.map Za))),(5,.val false [.arr 105 v177]),(7,.val false [.ptr 107 1 0 0]),(12,one (.sl (v0.map Za))),(13,one (.int .i64 (v0.length:Int))),(14,one (.int .i64 v158)),(18,one (.sl (v1.map Za))),(19,one (.int .i64 (v1.length:Int))),(20,one (.int .i64 v178))]∧Zi s_.os [105,107]=[(105,.arr 2 (v176.map Za)),(107,.box (pvL (Za y160)))]∧v177=(v176:List _).length∧ZbV self8 v1 v158 y160 m v176 v178=some r) k ⟨v156,v157,0,kr,kr,zt,hF⟩ ?_
 clear hF
 rintro m11 s_ ⟨v176,v177,v178,he,ho,hn_v177,hF⟩
 refine WA.keep _ _ he ho ?_
 clear he ho
 cases m11 with
 | zero=>cases hF
 | succ m11=>
  obtain ⟨self11,hself11⟩:∃g,g=ZbV self8 v1 v158 y160 m11:=⟨_,rfl⟩
  have hF:Zcs self8 self11 v1 v158 y160 v176 v178=some r:=by first | (rw [hself11];exact hF) | exact hF
  refine WA.seq ?_
  refine WA.reg [1,5,7,12,13,14,18,19,20,21] [105,107] [] (env':=[(1,one (.sl (v1.map Za))),(5,.val false [.arr 105 v177]),(7,.val false [.ptr 107 1 0 0]),(12,one (.sl (v0.map Za))),(13,one (.int .i64 (v0.length:Int))),(14,one (.int .i64 v158)),(18,one (.sl (v1.map Za))),(19,one (.int .i64 (v1.length:Int))),(20,one (.int .i64 v178)),(21,one (.bool (decide (v178<(v1.length:Int)))))]) (os':=[(105,.arr 2 (v176.map Za)),(107,.box (pvL (Za y160)))]) (O:=[]) kr (sound _ _) trivial ?_
  refine WA.seq ?_
  refine WA.cond (b:=(decide (v178<(v1.length:Int)))) rfl (fun hb179=>?_) (fun hb179=>?_)
  {
 have hF:=Zk hF hb179
 refine WA.skip ?_
 refine WA.join (fun s_=>∃(v183:List Zb) (v184:Nat),Zi s_.env [1,5,7,12,13,14,18,19,20]=[(1,one (.sl (v1.map Za))),(5,.val false [.arr 105 v184]),(7,.val false [.ptr 107 1 0 0]),(12,one (.sl (v0.map Za))),(13,one (.int .i64 (v0.length:Int))),(14,one (.int .i64 v158)),(18,one (.sl (v1.map Za))),(19,one (.int .i64 (v1.length:Int))),(20,one (.int .i64 v178))]∧Zi s_.os [105,107]=[(105,.arr 2 (v183.map Za)),(107,.box (pvL (Za y160)))]∧v184=(v183:List _).length∧Zfn self11 v178 v183=some r) ?_ ?_
 {
 rintro s_ ⟨v183,v184,he,ho,hn_v184,hF⟩
 refine WA.keep _ _ he ho ?_
 clear he ho
 refine WA.reg [1,5,7,12,13,14,18,19,20] [105,107] [] (env':=[(1,one (.sl (v1.map Za))),(5,.val false [.arr 105 v184]),(7,.val false [.ptr 107 1 0 0]),(12,one (.sl (v0.map Za))),(13,one (.int .i64 (v0.length:Int))),(14,one (.int .i64 v158)),(18,one (.sl (v1.map Za))),(19,one (.int .i64 (v1.length:Int))),(20,one (.int .i64 (w64 (v178+1))))]) (os':=[(105,.arr 2 (v183.map Za)),(107,.box (pvL (Za y160)))]) (O:=[]) kr (sound _ _) trivial ?_
 exact ⟨m11,Nat.lt_succ_self _,v183,v184,(w64 (v178+1)),kr,kr,zt,by rw [hself11] at hF;exact hF⟩ }
 {
 refine WA.block ?_
 refine WA.seq ?_
 obtain ⟨y180,hy180,hF⟩:=bind_some hF
 refine WA.reg [1,5,7,9,12,13,14,18,19,20] [105,107,109] [(0,.cells (Za y180)),(2,.obj 109)] (env':=[(1,one (.sl (v1.map Za))),(5,.val false [.arr 105 v177]),(7,.val false [.ptr 107 1 0 0]),(9,.val false [.ptr 109 1 0 0]),(12,one (.sl (v0.map Za))),(13,one (.int .i64 (v0.length:Int))),(14,one (.int .i64 v158)),(18,one (.sl (v1.map Za))),(19,one (.int .i64 (v1.length:Int))),(20,one (.int .i64 v178))]) (os':=[(105,.arr 2 (v176.map Za)),(107,.box (pvL (Za y160))),(109,.box (pvL (Za y180)))]) (O:=[idxL (v1.map Za) v178=some (Za y180)]) kr (sound _ _) ⟨(Zp _ hy180),trivial⟩ ?_
 refine WA.seq ?_
 refine WA.regD kr [1,5,7,10,11,12,13,14,18,19,20] [105,107] [] (env':=[(1,one (.sl (v1.map Za))),(5,.val false [.arr 105 v177]),(7,.val false [.ptr 107 1 0 0]),(10,one (.int .i64 (mx y160.f_Lo y180.f_Lo))),(11,one (.int .i64 (mn y160.f_Hi y180.f_Hi))),(12,one (.sl (v0.map Za))),(13,one (.int .i64 (v0.length:Int))),(14,one (.int .i64 v158)),(18,one (.sl (v1.map Za))),(19,one (.int .i64 (v1.length:Int))),(20,one (.int .i64 v178))]) (os':=[(105,.arr 2 (v176.map Za)),(107,.box (pvL (Za y160)))]) (O:=[]) kr kr (sound _ _) trivial ?_
 refine WA.seq ?_
 refine WA.reg [1,5,7,10,11,12,13,14,18,19,20,36] [105,107] [] (env':=[(1,one (.sl (v1.map Za))),(5,.val false [.arr 105 v177]),(7,.val false [.ptr 107 1 0 0]),(10,one (.int .i64 (mx y160.f_Lo y180.f_Lo))),(11,one (.int .i64 (mn y160.f_Hi y180.f_Hi))),(12,one (.sl (v0.map Za))),(13,one (.int .i64 (v0.length:Int))),(14,one (.int .i64 v158)),(18,one (.sl (v1.map Za))),(19,one (.int .i64 (v1.length:Int))),(20,one (.int .i64 v178)),(36,one (.bool (decide ((mx y160.f_Lo y180.f_Lo)≤(mn y160.f_Hi y180.f_Hi)))))]) (os':=[(105,.arr 2 (v176.map Za)),(107,.box (pvL (Za y160)))]) (O:=[]) kr (sound _ _) trivial ?_
 refine WA.cond (b:=(decide ((mx y160.f_Lo y180.f_Lo)≤(mn y160.f_Hi y180.f_Hi)))) rfl (fun hb181=>?_) (fun hb181=>?_)
 {
 have hF:=Zk hF hb181
 obtain ⟨hc182,hF⟩:=Zl hF
 refine WA.rm (α:=(List (List PV))) (raw:=((v176.map Za) ++ (([(⟨(mx y160.f_Lo y180.f_Lo),(mn y160.f_Hi y180.f_Hi)⟩:Zb)]:List Zb).map Za))) (can:=((v176 ++ ([(⟨(mx y160.f_Lo y180.f_Lo),(mn y160.f_Hi y180.f_Hi)⟩:Zb)]:List Zb)).map Za)) (fun m_=>([(1,one (.sl (v1.map Za))),(5,.val false [.arr 105 (v177+1)]),(7,.val false [.ptr 107 1 0 0]),(12,one (.sl (v0.map Za))),(13,one (.int .i64 (v0.length:Int))),(14,one (.int .i64 v158)),(18,one (.sl (v1.map Za))),(19,one (.int .i64 (v1.length:Int))),(20,one (.int .i64 v178))],[(105,.arr 2 m_),(107,.box (pvL (Za y160)))],[v177=(v176.map Za).length,(v176.map Za).length+(([(⟨(mx y160.f_Lo y180.f_Lo),(mn y160.f_Hi y180.f_Hi)⟩:Zb)]:List Zb).map Za).length≤1073741824,∀es,es∈(([(⟨(mx y160.f_Lo y180.f_Lo),(mn y160.f_Hi y180.f_Hi)⟩:Zb)]:List Zb).map Za)→es.length=2])) (zm) [1,5,7,12,13,14,18,19,20] [105,107] [] kr (sound _ _) ⟨zt,(by first | exact hc182 | (simp only [List.length_map,Zf];exact hc182)),(Zax ([(⟨(mx y160.f_Lo y180.f_Lo),(mn y160.f_Hi y180.f_Hi)⟩:Zb)]:List Zb)),trivial⟩ ?_
 exact ⟨(v176 ++ ([(⟨(mx y160.f_Lo y180.f_Lo),(mn y160.f_Hi y180.f_Hi)⟩:Zb)]:List Zb)),(v177+1),kr,kr,zt,hF⟩ }
 {
 have hF:=Zj hF hb181
 refine WA.skip ?_
 exact ⟨v176,v177,kr,kr,zt,hF⟩ } } }
  {
 have hF:=Zj hF hb179
 refine WA.exit ?_
 refine WA.reg [1,5,12,13,14] [105] [] (env':=[(1,one (.sl (v1.map Za))),(5,.val false [.arr 105 v177]),(12,one (.sl (v0.map Za))),(13,one (.int .i64 (v0.length:Int))),(14,one (.int .i64 (w64 (v158+1))))]) (os':=[(105,.arr 2 (v176.map Za))]) (O:=[]) kr (sound _ _) trivial ?_
 exact ⟨m8,Nat.lt_succ_self _,v176,v177,(w64 (v158+1)),kr,kr,zt,by rw [hself8] at hF;exact hF⟩ } }
  {
 have hF:=Zj hF hb159
 refine WA.exit ?_
 refine WA.seq ?_
 refine WA.freeze 105 5 (s:=2) (n:=v157) (els:=(v156.map Za)) rfl rfl zt ?_
 refine WA.keep [5] [] (env':=[(5,one (.sl (v156.map Za)))]) (os':=[]) kr kr ?_
 obtain ⟨y185,hy185,hF⟩:=bind_some hF
 refine WA.reg [4] [] [(1,.callR [] (one (.sl (y185.map Za))))] (env':=[(4,one (.sl (y185.map Za)))]) (os':=[]) (O:=[Sim Tryz.prog GL0 77 [one (.sl (v156.map Za))] [] (one (.sl (y185.map Za))) [],([]:List Nat).Nodup]) kr (sound _ _) ⟨(Zgb k _ _ hy185),(by decide),trivial⟩ ?_
 refine WA.ret ?_
 obtain rfl:=Option.some.inj hF
 exact Zu (one (.sl (y185.map Za))) [] kr kr kr kr (by decide) rfl rfl }
def Zfa (self2:(List Zb)→Int→Int→Option (List Zb)) (v121:Int) (y123:Zb) (v126:List Zb):Option (List Zb):=
  (self2 v126 (w64 (y123.f_Hi+1)) (w64 (v121+1)))
def Zdc (k:Nat) (v130:List Zb):Option (List Zb):=
  (F59 k).bind fun y133=>(F76 k v130 y133).bind fun y134=>(some y134)
def Zce (k:Nat) (self2:(List Zb)→Int→Int→Option (List Zb)) (y101:List Zb) (v118:List Zb) (v120:Int) (v121:Int):Option (List Zb):=
  (cond (decide (v121<(y101.length:Int))) ((idxL y101 v121).bind fun y123=>((cond (decide (y123.f_Lo > v120)) (if v118.length+([(⟨v120,(w64 (y123.f_Lo-1))⟩:Zb)]:List Zb).length≤1073741824 then (Zfa self2 v121 y123 (v118 ++ ([(⟨v120,(w64 (y123.f_Lo-1))⟩:Zb)]:List Zb))) else none) ((Zfa self2 v121 y123 v118))))) (((cond (decide (v120≤1114111)) (if v118.length+([(⟨v120,1114111⟩:Zb)]:List Zb).length≤1073741824 then (Zdc k (v118 ++ ([(⟨v120,1114111⟩:Zb)]:List Zb))) else none) ((Zdc k v118))))))
def Zcf (k:Nat) (y101:List Zb):Nat→(List Zb)→Int→Int→Option (List Zb)
  | 0,_,_,_=>none
  | m_+1,v118,v120,v121=>Zce k (Zcf k y101 m_) y101 v118 v120 v121
def F109 (k:Nat) (v0:List Zb):Option (List Zb):=
  (((F77 k v0).bind fun y101=>(Zcf k y101 k ([]:List Zb) 0 0)))
theorem ZlO (k:Nat) (v0:List Zb) (r:List Zb) (hF:F109 k v0=some r):Sim Tryz.prog GL0 109 [one (.sl (v0.map Za))] [] (one (.sl (r.map Za))) []:=by
 refine ZC [] Tryz.func109 rfl kr kr ?_
 show WA _ _ 40 _ _ _
 refine WA.seq ?_
 refine WA.reg [0] [] [] (env':=[(0,one (.sl (v0.map Za)))]) (os':=[]) (O:=[]) kr (sound _ _) trivial ?_
 refine WA.seq ?_
 refine WA.reg [0,3] [103] [(0,.obj 103)] (env':=[(0,one (.sl (v0.map Za))),(3,.val false [.arr 103 0])]) (os':=[(103,.arr 2 (([]:List Zb).map Za))]) (O:=[]) kr (sound _ _) trivial ?_
 refine WA.seq ?_
 refine WA.reg [0,3,4] [103] [] (env':=[(0,one (.sl (v0.map Za))),(3,.val false [.arr 103 0]),(4,one (.int .i64 0))]) (os':=[(103,.arr 2 (([]:List Zb).map Za))]) (O:=[]) kr (sound _ _) trivial ?_
 refine WA.seq ?_
 refine WA.seq ?_
 obtain ⟨y101,hy101,hF⟩:=bind_some hF
 refine WA.rm (α:=Int) (raw:=((y101.map Za).length:Int)) (can:=(y101.length:Int)) (fun m_=>([(3,.val false [.arr 103 0]),(4,one (.int .i64 0)),(8,one (.sl (y101.map Za))),(9,one (.int .i64 m_)),(10,one (.int .i64 0))],[(103,.arr 2 (([]:List Zb).map Za))],[Sim Tryz.prog GL0 77 [one (.sl (v0.map Za))] [] (one (.sl (y101.map Za))) [],([]:List Nat).Nodup])) ((by first | (simp only [zl,Zf];done) | (simp only [zl,Zf];omega) | omega)) [3,4,8,9,10] [103] [(1,.callR [] (one (.sl (y101.map Za))))] kr (sound _ _) ⟨(Zgb k _ _ hy101),(by decide),trivial⟩ ?_
 refine WA.block ?_
 refine WA.loop (fun m s_=>∃(v118:List Zb) (v119:Nat) (v120:Int) (v121:Int),Zi s_.env [3,4,8,9,10]=[(3,.val false [.arr 103 v119]),(4,one (.int .i64 v120)),(8,one (.sl (y101.map Za))),(9,one (.int .i64 (y101.length:Int))),(10,one (.int .i64 v121))]∧Zi s_.os [103]=[(103,.arr 2 (v118.map Za))]∧v119=(v118:List _).length∧Zcf k y101 m v118 v120 v121=some r) k ⟨([]:List Zb),0,0,0,kr,kr,zt,hF⟩ ?_
 clear hF
 rintro m2 s_ ⟨v118,v119,v120,v121,he,ho,hn_v119,hF⟩
 refine WA.keep _ _ he ho ?_
 clear he ho
 cases m2 with
 | zero=>cases hF
 | succ m2=>
  obtain ⟨self2,hself2⟩:∃g,g=Zcf k y101 m2:=⟨_,rfl⟩
  have hF:Zce k self2 y101 v118 v120 v121=some r:=by first | (rw [hself2];exact hF) | exact hF
  refine WA.seq ?_
  refine WA.reg [3,4,8,9,10,11] [103] [] (env':=[(3,.val false [.arr 103 v119]),(4,one (.int .i64 v120)),(8,one (.sl (y101.map Za))),(9,one (.int .i64 (y101.length:Int))),(10,one (.int .i64 v121)),(11,one (.bool (decide (v121<(y101.length:Int)))))]) (os':=[(103,.arr 2 (v118.map Za))]) (O:=[]) kr (sound _ _) trivial ?_
  refine WA.seq ?_
  refine WA.cond (b:=(decide (v121<(y101.length:Int)))) rfl (fun hb122=>?_) (fun hb122=>?_)
  {
 have hF:=Zk hF hb122
 refine WA.skip ?_
 refine WA.seq ?_
 refine WA.block ?_
 refine WA.seq ?_
 obtain ⟨y123,hy123,hF⟩:=bind_some hF
 refine WA.reg [3,4,6,8,9,10] [103,106] [(0,.cells (Za y123)),(2,.obj 106)] (env':=[(3,.val false [.arr 103 v119]),(4,one (.int .i64 v120)),(6,.val false [.ptr 106 1 0 0]),(8,one (.sl (y101.map Za))),(9,one (.int .i64 (y101.length:Int))),(10,one (.int .i64 v121))]) (os':=[(103,.arr 2 (v118.map Za)),(106,.box (pvL (Za y123)))]) (O:=[idxL (y101.map Za) v121=some (Za y123)]) kr (sound _ _) ⟨(Zp _ hy123),trivial⟩ ?_
 refine WA.join (fun s_=>∃(v126:List Zb) (v127:Nat),Zi s_.env [3,6,8,9,10]=[(3,.val false [.arr 103 v127]),(6,.val false [.ptr 106 1 0 0]),(8,one (.sl (y101.map Za))),(9,one (.int .i64 (y101.length:Int))),(10,one (.int .i64 v121))]∧Zi s_.os [103,106]=[(103,.arr 2 (v126.map Za)),(106,.box (pvL (Za y123)))]∧v127=(v126:List _).length∧Zfa self2 v121 y123 v126=some r) ?_ ?_
 {
 rintro s_ ⟨v126,v127,he,ho,hn_v127,hF⟩
 refine WA.keep _ _ he ho ?_
 clear he ho
 refine WA.reg [3,4,8,9,10] [103] [] (env':=[(3,.val false [.arr 103 v127]),(4,one (.int .i64 (w64 (y123.f_Hi+1)))),(8,one (.sl (y101.map Za))),(9,one (.int .i64 (y101.length:Int))),(10,one (.int .i64 v121))]) (os':=[(103,.arr 2 (v126.map Za))]) (O:=[]) kr (sound _ _) trivial ?_
 refine WA.reg [3,4,8,9,10] [103] [] (env':=[(3,.val false [.arr 103 v127]),(4,one (.int .i64 (w64 (y123.f_Hi+1)))),(8,one (.sl (y101.map Za))),(9,one (.int .i64 (y101.length:Int))),(10,one (.int .i64 (w64 (v121+1))))]) (os':=[(103,.arr 2 (v126.map Za))]) (O:=[]) kr (sound _ _) trivial ?_
 exact ⟨m2,Nat.lt_succ_self _,v126,v127,(w64 (y123.f_Hi+1)),(w64 (v121+1)),kr,kr,zt,by rw [hself2] at hF;exact hF⟩ }
 {
 refine WA.seq ?_
 refine WA.reg [3,4,6,8,9,10,17] [103,106] [] (env':=[(3,.val false [.arr 103 v119]),(4,one (.int .i64 v120)),(6,.val false [.ptr 106 1 0 0]),(8,one (.sl (y101.map Za))),(9,one (.int .i64 (y101.length:Int))),(10,one (.int .i64 v121)),(17,one (.bool (decide (y123.f_Lo > v120))))]) (os':=[(103,.arr 2 (v118.map Za)),(106,.box (pvL (Za y123)))]) (O:=[]) kr (sound _ _) trivial ?_
 refine WA.cond (b:=(decide (y123.f_Lo > v120))) rfl (fun hb124=>?_) (fun hb124=>?_)
 {
 have hF:=Zk hF hb124
 obtain ⟨hc125,hF⟩:=Zl hF
 refine WA.rm (α:=(List (List PV))) (raw:=((v118.map Za) ++ (([(⟨v120,(w64 (y123.f_Lo-1))⟩:Zb)]:List Zb).map Za))) (can:=((v118 ++ ([(⟨v120,(w64 (y123.f_Lo-1))⟩:Zb)]:List Zb)).map Za)) (fun m_=>([(3,.val false [.arr 103 (v119+1)]),(6,.val false [.ptr 106 1 0 0]),(8,one (.sl (y101.map Za))),(9,one (.int .i64 (y101.length:Int))),(10,one (.int .i64 v121))],[(103,.arr 2 m_),(106,.box (pvL (Za y123)))],[v119=(v118.map Za).length,(v118.map Za).length+(([(⟨v120,(w64 (y123.f_Lo-1))⟩:Zb)]:List Zb).map Za).length≤1073741824,∀es,es∈(([(⟨v120,(w64 (y123.f_Lo-1))⟩:Zb)]:List Zb).map Za)→es.length=2])) (zm) [3,6,8,9,10] [103,106] [] kr (sound _ _) ⟨zt,(by first | exact hc125 | (simp only [List.length_map,Zf];exact hc125)),(Zax ([(⟨v120,(w64 (y123.f_Lo-1))⟩:Zb)]:List Zb)),trivial⟩ ?_
 exact ⟨(v118 ++ ([(⟨v120,(w64 (y123.f_Lo-1))⟩:Zb)]:List Zb)),(v119+1),kr,kr,zt,hF⟩ }
 {
 have hF:=Zj hF hb124
 refine WA.skip ?_
 exact ⟨v118,v119,kr,kr,zt,hF⟩ } } }
  {
 have hF:=Zj hF hb122
 refine WA.exit ?_
 refine WA.join (fun s_=>∃(v130:List Zb) (v131:Nat),Zi s_.env [3]=[(3,.val false [.arr 103 v131])]∧Zi s_.os [103]=[(103,.arr 2 (v130.map Za))]∧v131=(v130:List _).length∧Zdc k v130=some r) ?_ ?_
 {
 rintro s_ ⟨v130,v131,he,ho,hn_v131,hF⟩
 refine WA.keep _ _ he ho ?_
 clear he ho
 refine WA.seq ?_
 refine WA.freeze 103 3 (s:=2) (n:=v131) (els:=(v130.map Za)) rfl rfl zt ?_
 refine WA.keep [3] [] (env':=[(3,one (.sl (v130.map Za)))]) (os':=[]) kr kr ?_
 obtain ⟨y133,hy133,hF⟩:=bind_some hF
 obtain ⟨y134,hy134,hF⟩:=bind_some hF
 refine WA.reg [2] [] [(1,.callR [] (one (.sl (y133.map Za)))),(2,.callR [] (one (.sl (y134.map Za))))] (env':=[(2,one (.sl (y134.map Za)))]) (os':=[]) (O:=[Sim Tryz.prog GL0 59 [] [] (one (.sl (y133.map Za))) [],([]:List Nat).Nodup,Sim Tryz.prog GL0 76 [one (.sl (v130.map Za)),one (.sl (y133.map Za))] [] (one (.sl (y134.map Za))) [],([]:List Nat).Nodup]) kr (sound _ _) ⟨(Zey k _ hy133),(by decide),(Zid k _ _ _ hy134),(by decide),trivial⟩ ?_
 refine WA.ret ?_
 obtain rfl:=Option.some.inj hF
 exact Zu (one (.sl (y134.map Za))) [] kr kr kr kr (by decide) rfl rfl }
 {
 refine WA.seq ?_
 refine WA.reg [3,4,31] [103] [] (env':=[(3,.val false [.arr 103 v119]),(4,one (.int .i64 v120)),(31,one (.bool (decide (v120≤1114111))))]) (os':=[(103,.arr 2 (v118.map Za))]) (O:=[]) kr (sound _ _) trivial ?_
 refine WA.cond (b:=(decide (v120≤1114111))) rfl (fun hb128=>?_) (fun hb128=>?_)
 {
 have hF:=Zk hF hb128
 obtain ⟨hc129,hF⟩:=Zl hF
 refine WA.rm (α:=(List (List PV))) (raw:=((v118.map Za) ++ (([(⟨v120,1114111⟩:Zb)]:List Zb).map Za))) (can:=((v118 ++ ([(⟨v120,1114111⟩:Zb)]:List Zb)).map Za)) (fun m_=>([(3,.val false [.arr 103 (v119+1)])],[(103,.arr 2 m_)],[v119=(v118.map Za).length,(v118.map Za).length+(([(⟨v120,1114111⟩:Zb)]:List Zb).map Za).length≤1073741824,∀es,es∈(([(⟨v120,1114111⟩:Zb)]:List Zb).map Za)→es.length=2])) (zm) [3] [103] [] kr (sound _ _) ⟨zt,(by first | exact hc129 | (simp only [List.length_map,Zf];exact hc129)),(Zax ([(⟨v120,1114111⟩:Zb)]:List Zb)),trivial⟩ ?_
 exact ⟨(v118 ++ ([(⟨v120,1114111⟩:Zb)]:List Zb)),(v119+1),kr,kr,zt,hF⟩ }
 {
 have hF:=Zj hF hb128
 refine WA.skip ?_
 exact ⟨v118,v119,kr,kr,zt,hF⟩ } } }
def Zev (v125:Bool):Option Bool:=
  some v125
def Zew (v129:Bool):Option Bool:=
  some v129
def Zex (v133:Bool):Option Bool:=
  some v133
def ZbI (v141:Bool):Option Bool:=
  some v141
def Zbb (k:Nat) (v0:Ze) (v117:Bool):Option Bool:=
  ((cond (v0.f_Kind == 1) (cond v117 (cond ((v0.f_L.length:Int) == 0) ((F77 k v0.f_Set).bind fun y121=>(F59 k).bind fun y122=>(F76 k y121 y122).bind fun y123=>(F75 k y123 v0.f_Set).bind fun y124=>(Zev y124)) ((Zev false))) ((Zev false))) ((cond (v0.f_Kind == 2) (cond v117 (cond ((v0.f_L.length:Int) != 1) ((Zew ((v0.f_Set.length:Int) == 0))) ((Zew false))) ((Zew false))) ((cond (v0.f_Kind == 3) (cond v117 (cond (decide ((v0.f_L.length:Int) > 1)) ((Zex ((v0.f_Set.length:Int) == 0))) ((Zex false))) ((Zex false))) ((cond (v0.f_Kind == 4) (cond ((v0.f_L.length:Int) == 1) (cond ((v0.f_Set.length:Int) == 0) (cond (decide (v0.f_Min≥0)) (cond (decide (v0.f_Min≤20)) (cond (decide (v0.f_Max≤20)) (cond (v0.f_Max == (-1)) ((ZbI true)) ((ZbI (decide (v0.f_Max≥v0.f_Min))))) ((ZbI false))) ((ZbI false))) ((ZbI false))) ((ZbI false))) ((ZbI false))) (((some false)))))))))))
def Zdr (R52:Ze→Int→Option Bool) (k:Nat) (self0:Int→Option Bool) (v0:Ze) (v1:Int) (v111:Int):Option Bool:=
  (cond (decide (v111<(v0.f_L.length:Int))) ((idxL v0.f_L v111).bind fun y113=>(R52 y113 (w64 (v1-1))).bind fun y114=>(cond (!y114) ((some false)) ((self0 (w64 (v111+1)))))) ((cond (v0.f_Min == 0) ((Zbb k v0 (v0.f_Max == 0))) ((Zbb k v0 false)))))
def Zds (R52:Ze→Int→Option Bool) (k:Nat) (v0:Ze) (v1:Int):Nat→Int→Option Bool
  | 0,_=>none
  | m_+1,v111=>Zdr R52 k (Zds R52 k v0 v1 m_) v0 v1 v111
def ZhW (R52:Ze→Int→Option Bool) (k:Nat) (v0:Ze) (v1:Int):Option Bool:=
  ((cond (v1 == 0) ((some false)) (((Zds R52 k v0 v1 k 0)))))
theorem ZkY (R52:Ze→Int→Option Bool) (IH52:∀(v0:Ze) (v1:Int) (r:Bool),R52 v0 v1=some r→Sim Tryz.prog GL0 52 [.val true (pvL (Zd v0)),one (.int .i64 v1)] [] (one (.bool r)) []) (k:Nat) (v0:Ze) (v1:Int) (r:Bool) (hF:ZhW R52 k v0 v1=some r):Sim Tryz.prog GL0 52 [.val true (pvL (Zd v0)),one (.int .i64 v1)] [] (one (.bool r)) []:=by
 refine ZC [] Tryz.func52 rfl kr kr ?_
 show WA _ _ 121 _ _ _
 refine WA.seq ?_
 refine WA.reg [1,2] [102] [(0,.obj 102)] (env':=[(1,one (.int .i64 v1)),(2,.val false [.ptr 102 1 0 0])]) (os':=[(102,.box (pvL (Zd v0)))]) (O:=[]) kr (sound _ _) trivial ?_
 refine WA.seq ?_
 refine WA.seq ?_
 refine WA.reg [1,2,9] [102] [] (env':=[(1,one (.int .i64 v1)),(2,.val false [.ptr 102 1 0 0]),(9,one (.bool (v1 == 0)))]) (os':=[(102,.box (pvL (Zd v0)))]) (O:=[]) kr (sound _ _) trivial ?_
 refine WA.cond (b:=(v1 == 0)) rfl (fun hb101=>?_) (fun hb101=>?_)
 {
 have hF:=Zk hF hb101
 refine WA.seq ?_
 refine WA.reg [4] [] [] (env':=[(4,one (.bool false))]) (os':=[]) (O:=[]) kr (sound _ _) trivial ?_
 refine WA.ret ?_
 obtain rfl:=Option.some.inj hF
 exact Zu (one (.bool false)) [] kr kr kr kr (by decide) rfl rfl }
 {
 have hF:=Zj hF hb101
 refine WA.skip ?_
 refine WA.seq ?_
 refine WA.seq ?_
 refine WA.rm (α:=Int) (raw:=((Zn v0.f_L).length:Int)) (can:=(v0.f_L.length:Int)) (fun m_=>([(1,one (.int .i64 v1)),(2,.val false [.ptr 102 1 0 0]),(11,one (.sl (Zn v0.f_L))),(12,one (.int .i64 m_)),(13,one (.int .i64 0))],[(102,.box (pvL (Zd v0)))],[])) ((by first | (simp only [zl,Zf];done) | (simp only [zl,Zf];omega) | omega)) [1,2,11,12,13] [102] [] kr (sound _ _) trivial ?_
 refine WA.block ?_
 refine WA.loop (fun m s_=>∃(v111:Int),Zi s_.env [1,2,11,12,13]=[(1,one (.int .i64 v1)),(2,.val false [.ptr 102 1 0 0]),(11,one (.sl (Zn v0.f_L))),(12,one (.int .i64 (v0.f_L.length:Int))),(13,one (.int .i64 v111))]∧Zi s_.os [102]=[(102,.box (pvL (Zd v0)))]∧Zds R52 k v0 v1 m v111=some r) k ⟨0,kr,kr,hF⟩ ?_
 clear hF
 rintro m0 s_ ⟨v111,he,ho,hF⟩
 refine WA.keep _ _ he ho ?_
 clear he ho
 cases m0 with
 | zero=>cases hF
 | succ m0=>
  obtain ⟨self0,hself0⟩:∃g,g=Zds R52 k v0 v1 m0:=⟨_,rfl⟩
  have hF:Zdr R52 k self0 v0 v1 v111=some r:=by first | (rw [hself0];exact hF) | exact hF
  refine WA.seq ?_
  refine WA.reg [1,2,11,12,13,14] [102] [] (env':=[(1,one (.int .i64 v1)),(2,.val false [.ptr 102 1 0 0]),(11,one (.sl (Zn v0.f_L))),(12,one (.int .i64 (v0.f_L.length:Int))),(13,one (.int .i64 v111)),(14,one (.bool (decide (v111<(v0.f_L.length:Int)))))]) (os':=[(102,.box (pvL (Zd v0)))]) (O:=[]) kr (sound _ _) trivial ?_
  refine WA.seq ?_
  refine WA.cond (b:=(decide (v111<(v0.f_L.length:Int)))) rfl (fun hb112=>?_) (fun hb112=>?_)
  {
 have hF:=Zk hF hb112
 refine WA.skip ?_
 refine WA.seq ?_
 refine WA.block ?_
 refine WA.seq ?_
 obtain ⟨y113,hy113,hF⟩:=bind_some hF
 refine WA.reg [1,2,6,11,12,13] [102,106] [(0,.cells (Zd y113)),(2,.obj 106)] (env':=[(1,one (.int .i64 v1)),(2,.val false [.ptr 102 1 0 0]),(6,.val false [.ptr 106 1 0 0]),(11,one (.sl (Zn v0.f_L))),(12,one (.int .i64 (v0.f_L.length:Int))),(13,one (.int .i64 v111))]) (os':=[(102,.box (pvL (Zd v0))),(106,.box (pvL (Zd y113)))]) (O:=[idxL (Zn v0.f_L) v111=some (Zd y113)]) kr (sound _ _) ⟨(Z6 hy113),trivial⟩ ?_
 refine WA.seq ?_
 obtain ⟨y114,hy114,hF⟩:=bind_some hF
 refine WA.reg [1,2,11,12,13,21] [102] [(3,.callR [] (one (.bool y114)))] (env':=[(1,one (.int .i64 v1)),(2,.val false [.ptr 102 1 0 0]),(11,one (.sl (Zn v0.f_L))),(12,one (.int .i64 (v0.f_L.length:Int))),(13,one (.int .i64 v111)),(21,one (.bool (!y114)))]) (os':=[(102,.box (pvL (Zd v0)))]) (O:=[Sim Tryz.prog GL0 52 [.val true (pvL (Zd y113)),one (.int .i64 (w64 (v1-1)))] [] (one (.bool y114)) [],([]:List Nat).Nodup]) kr (sound _ _) ⟨(IH52 _ _ _ hy114),(by decide),trivial⟩ ?_
 refine WA.cond (b:=(!y114)) rfl (fun hb115=>?_) (fun hb115=>?_)
 {
 have hF:=Zk hF hb115
 refine WA.seq ?_
 refine WA.reg [4] [] [] (env':=[(4,one (.bool false))]) (os':=[]) (O:=[]) kr (sound _ _) trivial ?_
 refine WA.ret ?_
 obtain rfl:=Option.some.inj hF
 exact Zu (one (.bool false)) [] kr kr kr kr (by decide) rfl rfl }
 {
 have hF:=Zj hF hb115
 refine WA.skip ?_
 refine WA.reg [1,2,11,12,13] [102] [] (env':=[(1,one (.int .i64 v1)),(2,.val false [.ptr 102 1 0 0]),(11,one (.sl (Zn v0.f_L))),(12,one (.int .i64 (v0.f_L.length:Int))),(13,one (.int .i64 (w64 (v111+1))))]) (os':=[(102,.box (pvL (Zd v0)))]) (O:=[]) kr (sound _ _) trivial ?_
 exact ⟨m0,Nat.lt_succ_self _,(w64 (v111+1)),kr,kr,by rw [hself0] at hF;exact hF⟩ } }
  {
 have hF:=Zj hF hb112
 refine WA.exit ?_
 refine WA.join (fun s_=>∃(v117:Bool),Zi s_.env [2,7]=[(2,.val false [.ptr 102 1 0 0]),(7,one (.bool v117))]∧Zi s_.os [102]=[(102,.box (pvL (Zd v0)))]∧Zbb k v0 v117=some r) ?_ ?_
 {
 rintro s_ ⟨v117,he,ho,hF⟩
 refine WA.keep _ _ he ho ?_
 clear he ho
 refine WA.seq ?_
 refine WA.seq ?_
 refine WA.reg [2,7,32] [102] [] (env':=[(2,.val false [.ptr 102 1 0 0]),(7,one (.bool v117)),(32,one (.int .i64 v0.f_Kind))]) (os':=[(102,.box (pvL (Zd v0)))]) (O:=[]) kr (sound _ _) trivial ?_
 refine WA.block ?_
 refine WA.seq ?_
 refine WA.reg [2,7,32,33] [102] [] (env':=[(2,.val false [.ptr 102 1 0 0]),(7,one (.bool v117)),(32,one (.int .i64 v0.f_Kind)),(33,one (.bool (v0.f_Kind == 1)))]) (os':=[(102,.box (pvL (Zd v0)))]) (O:=[]) kr (sound _ _) trivial ?_
 refine WA.cond (b:=(v0.f_Kind == 1)) rfl (fun hb118=>?_) (fun hb118=>?_)
 {
 have hF:=Zk hF hb118
 refine WA.join (fun s_=>∃(v125:Bool),Zi s_.env [4]=[(4,one (.bool v125))]∧Zi s_.os []=[]∧Zev v125=some r) ?_ ?_
 {
 rintro s_ ⟨v125,he,ho,hF⟩
 refine WA.keep _ _ he ho ?_
 clear he ho
 refine WA.ret ?_
 obtain rfl:=Option.some.inj hF
 exact Zu (one (.bool v125)) [] kr kr kr kr (by decide) rfl rfl }
 {
 rcases Bool.eq_false_or_eq_true v117 with hb119 | hb119
 {
 have hF:=Zk hF hb119
 rcases Bool.eq_false_or_eq_true ((v0.f_L.length:Int) == 0) with hb120 | hb120
 {
 have hF:=Zk hF hb120
 obtain ⟨y121,hy121,hF⟩:=bind_some hF
 obtain ⟨y122,hy122,hF⟩:=bind_some hF
 obtain ⟨y123,hy123,hF⟩:=bind_some hF
 obtain ⟨y124,hy124,hF⟩:=bind_some hF
 refine WA.rdm (α:=Int) (raw:=((Zn v0.f_L).length:Int)) (can:=(v0.f_L.length:Int)) (fun m_=>([(4,one (.bool y124))],[],[v117=true,(m_ == 0)=true,Sim Tryz.prog GL0 77 [one (.sl (v0.f_Set.map Za))] [] (one (.sl (y121.map Za))) [],([]:List Nat).Nodup,Sim Tryz.prog GL0 59 [] [] (one (.sl (y122.map Za))) [],([]:List Nat).Nodup,Sim Tryz.prog GL0 76 [one (.sl (y121.map Za)),one (.sl (y122.map Za))] [] (one (.sl (y123.map Za))) [],([]:List Nat).Nodup,Sim Tryz.prog GL0 75 [one (.sl (y123.map Za)),one (.sl (v0.f_Set.map Za))] [] (one (.bool y124)) [],([]:List Nat).Nodup])) ((by first | (simp only [zl,Zf];done) | (simp only [zl,Zf];omega) | omega)) [4] [] [(1,.bool true),(7,.bool true),(10,.callR [] (one (.sl (y121.map Za)))),(11,.callR [] (one (.sl (y122.map Za)))),(12,.callR [] (one (.sl (y123.map Za)))),(15,.callR [] (one (.bool y124)))] kr kr kr (sound _ _) ⟨hb119,hb120,(Zgb k _ _ hy121),(by decide),(Zey k _ hy122),(by decide),(Zid k _ _ _ hy123),(by decide),(ZmG k _ _ _ hy124),(by decide),trivial⟩ ?_
 exact ⟨y124,kr,kr,hF⟩ }
 {
 have hF:=Zj hF hb120
 refine WA.rdm (α:=Int) (raw:=((Zn v0.f_L).length:Int)) (can:=(v0.f_L.length:Int)) (fun m_=>([(4,one (.bool false))],[],[v117=true,(m_ == 0)=false])) ((by first | (simp only [zl,Zf];done) | (simp only [zl,Zf];omega) | omega)) [4] [] [(1,.bool true),(7,.bool false),(10,.callR [] (.tup [])),(11,.callR [] (.tup [])),(12,.callR [] (.tup [])),(15,.callR [] (.tup []))] kr kr kr (sound _ _) ⟨hb119,hb120,trivial⟩ ?_
 exact ⟨false,kr,kr,hF⟩ } }
 {
 have hF:=Zj hF hb119
 refine WA.regD kr [4] [] [(1,.bool false),(10,.callR [] (.tup [])),(11,.callR [] (.tup [])),(12,.callR [] (.tup [])),(15,.callR [] (.tup []))] (env':=[(4,one (.bool false))]) (os':=[]) (O:=[v117=false]) kr kr (sound _ _) ⟨hb119,trivial⟩ ?_
 exact ⟨false,kr,kr,hF⟩ } } }
 {
 have hF:=Zj hF hb118
 refine WA.seq ?_
 refine WA.reg [2,7,32,52] [102] [] (env':=[(2,.val false [.ptr 102 1 0 0]),(7,one (.bool v117)),(32,one (.int .i64 v0.f_Kind)),(52,one (.bool (v0.f_Kind == 2)))]) (os':=[(102,.box (pvL (Zd v0)))]) (O:=[]) kr (sound _ _) trivial ?_
 refine WA.cond (b:=(v0.f_Kind == 2)) rfl (fun hb126=>?_) (fun hb126=>?_)
 {
 have hF:=Zk hF hb126
 refine WA.join (fun s_=>∃(v129:Bool),Zi s_.env [4]=[(4,one (.bool v129))]∧Zi s_.os []=[]∧Zew v129=some r) ?_ ?_
 {
 rintro s_ ⟨v129,he,ho,hF⟩
 refine WA.keep _ _ he ho ?_
 clear he ho
 refine WA.ret ?_
 obtain rfl:=Option.some.inj hF
 exact Zu (one (.bool v129)) [] kr kr kr kr (by decide) rfl rfl }
 {
 rcases Bool.eq_false_or_eq_true v117 with hb127 | hb127
 {
 have hF:=Zk hF hb127
 rcases Bool.eq_false_or_eq_true ((v0.f_L.length:Int) != 1) with hb128 | hb128
 {
 have hF:=Zk hF hb128
 refine WA.rm (α:=Int×Int) (raw:=(((v0.f_Set.map Za).length:Int),((Zn v0.f_L).length:Int))) (can:=((v0.f_Set.length:Int),(v0.f_L.length:Int))) (fun m_=>([(4,one (.bool (m_.1 == 0)))],[],[v117=true,(m_.2 != 1)=true])) (ZH (by first | (simp only [zl,Zf];done) | (simp only [zl,Zf];omega) | omega) (by first | (simp only [zl,Zf];done) | (simp only [zl,Zf];omega) | omega)) [4] [] [(1,.bool true),(7,.bool true)] kr (sound _ _) ⟨hb127,hb128,trivial⟩ ?_
 exact ⟨((v0.f_Set.length:Int) == 0),kr,kr,hF⟩ }
 {
 have hF:=Zj hF hb128
 refine WA.rm (α:=Int) (raw:=((Zn v0.f_L).length:Int)) (can:=(v0.f_L.length:Int)) (fun m_=>([(4,one (.bool false))],[],[v117=true,(m_ != 1)=false])) ((by first | (simp only [zl,Zf];done) | (simp only [zl,Zf];omega) | omega)) [4] [] [(1,.bool true),(7,.bool false)] kr (sound _ _) ⟨hb127,hb128,trivial⟩ ?_
 exact ⟨false,kr,kr,hF⟩ } }
 {
 have hF:=Zj hF hb127
 refine WA.reg [4] [] [(1,.bool false)] (env':=[(4,one (.bool false))]) (os':=[]) (O:=[v117=false]) kr (sound _ _) ⟨hb127,trivial⟩ ?_
 exact ⟨false,kr,kr,hF⟩ } } }
 {
 have hF:=Zj hF hb126
 refine WA.seq ?_
 refine WA.reg [2,7,32,67] [102] [] (env':=[(2,.val false [.ptr 102 1 0 0]),(7,one (.bool v117)),(32,one (.int .i64 v0.f_Kind)),(67,one (.bool (v0.f_Kind == 3)))]) (os':=[(102,.box (pvL (Zd v0)))]) (O:=[]) kr (sound _ _) trivial ?_
 refine WA.cond (b:=(v0.f_Kind == 3)) rfl (fun hb130=>?_) (fun hb130=>?_)
 {
 have hF:=Zk hF hb130
 refine WA.join (fun s_=>∃(v133:Bool),Zi s_.env [4]=[(4,one (.bool v133))]∧Zi s_.os []=[]∧Zex v133=some r) ?_ ?_
 {
 rintro s_ ⟨v133,he,ho,hF⟩
 refine WA.keep _ _ he ho ?_
 clear he ho
 refine WA.ret ?_
 obtain rfl:=Option.some.inj hF
 exact Zu (one (.bool v133)) [] kr kr kr kr (by decide) rfl rfl }
 {
 rcases Bool.eq_false_or_eq_true v117 with hb131 | hb131
 {
 have hF:=Zk hF hb131
 rcases Bool.eq_false_or_eq_true (decide ((v0.f_L.length:Int) > 1)) with hb132 | hb132
 {
 have hF:=Zk hF hb132
 refine WA.rm (α:=Int×Int) (raw:=(((v0.f_Set.map Za).length:Int),((Zn v0.f_L).length:Int))) (can:=((v0.f_Set.length:Int),(v0.f_L.length:Int))) (fun m_=>([(4,one (.bool (m_.1 == 0)))],[],[v117=true,(decide (m_.2 > 1))=true])) (ZH (by first | (simp only [zl,Zf];done) | (simp only [zl,Zf];omega) | omega) (by first | (simp only [zl,Zf];done) | (simp only [zl,Zf];omega) | omega)) [4] [] [(1,.bool true),(7,.bool true)] kr (sound _ _) ⟨hb131,hb132,trivial⟩ ?_
 exact ⟨((v0.f_Set.length:Int) == 0),kr,kr,hF⟩ }
 {
 have hF:=Zj hF hb132
 refine WA.rm (α:=Int) (raw:=((Zn v0.f_L).length:Int)) (can:=(v0.f_L.length:Int)) (fun m_=>([(4,one (.bool false))],[],[v117=true,(decide (m_ > 1))=false])) ((by first | (simp only [zl,Zf];done) | (simp only [zl,Zf];omega) | omega)) [4] [] [(1,.bool true),(7,.bool false)] kr (sound _ _) ⟨hb131,hb132,trivial⟩ ?_
 exact ⟨false,kr,kr,hF⟩ } }
 {
 have hF:=Zj hF hb131
 refine WA.reg [4] [] [(1,.bool false)] (env':=[(4,one (.bool false))]) (os':=[]) (O:=[v117=false]) kr (sound _ _) ⟨hb131,trivial⟩ ?_
 exact ⟨false,kr,kr,hF⟩ } } }
 {
 have hF:=Zj hF hb130
 refine WA.seq ?_
 refine WA.reg [2,82] [102] [] (env':=[(2,.val false [.ptr 102 1 0 0]),(82,one (.bool (v0.f_Kind == 4)))]) (os':=[(102,.box (pvL (Zd v0)))]) (O:=[]) kr (sound _ _) trivial ?_
 refine WA.cond (b:=(v0.f_Kind == 4)) rfl (fun hb134=>?_) (fun hb134=>?_)
 {
 have hF:=Zk hF hb134
 refine WA.join (fun s_=>∃(v141:Bool),Zi s_.env [4]=[(4,one (.bool v141))]∧Zi s_.os []=[]∧ZbI v141=some r) ?_ ?_
 {
 rintro s_ ⟨v141,he,ho,hF⟩
 refine WA.keep _ _ he ho ?_
 clear he ho
 refine WA.ret ?_
 obtain rfl:=Option.some.inj hF
 exact Zu (one (.bool v141)) [] kr kr kr kr (by decide) rfl rfl }
 {
 rcases Bool.eq_false_or_eq_true ((v0.f_L.length:Int) == 1) with hb135 | hb135
 {
 have hF:=Zk hF hb135
 rcases Bool.eq_false_or_eq_true ((v0.f_Set.length:Int) == 0) with hb136 | hb136
 {
 have hF:=Zk hF hb136
 rcases Bool.eq_false_or_eq_true (decide (v0.f_Min≥0)) with hb137 | hb137
 {
 have hF:=Zk hF hb137
 rcases Bool.eq_false_or_eq_true (decide (v0.f_Min≤20)) with hb138 | hb138
 {
 have hF:=Zk hF hb138
 rcases Bool.eq_false_or_eq_true (decide (v0.f_Max≤20)) with hb139 | hb139
 {
 have hF:=Zk hF hb139
 rcases Bool.eq_false_or_eq_true (v0.f_Max == (-1)) with hb140 | hb140
 {
 have hF:=Zk hF hb140
 refine WA.rm (α:=Int×Int) (raw:=(((Zn v0.f_L).length:Int),((v0.f_Set.map Za).length:Int))) (can:=((v0.f_L.length:Int),(v0.f_Set.length:Int))) (fun m_=>([(4,one (.bool true))],[],[(m_.1 == 1)=true,(m_.2 == 0)=true,(decide (v0.f_Min≥0))=true,(decide (v0.f_Min≤20))=true,(decide (v0.f_Max≤20))=true,(v0.f_Max == (-1))=true])) (ZH (by first | (simp only [zl,Zf];done) | (simp only [zl,Zf];omega) | omega) (by first | (simp only [zl,Zf];done) | (simp only [zl,Zf];omega) | omega)) [4] [] [(4,.bool true),(10,.bool true),(15,.bool true),(20,.bool true),(25,.bool true),(29,.bool true)] kr (sound _ _) ⟨hb135,hb136,hb137,hb138,hb139,hb140,trivial⟩ ?_
 exact ⟨true,kr,kr,hF⟩ }
 {
 have hF:=Zj hF hb140
 refine WA.rm (α:=Int×Int) (raw:=(((Zn v0.f_L).length:Int),((v0.f_Set.map Za).length:Int))) (can:=((v0.f_L.length:Int),(v0.f_Set.length:Int))) (fun m_=>([(4,one (.bool (decide (v0.f_Max≥v0.f_Min))))],[],[(m_.1 == 1)=true,(m_.2 == 0)=true,(decide (v0.f_Min≥0))=true,(decide (v0.f_Min≤20))=true,(decide (v0.f_Max≤20))=true,(v0.f_Max == (-1))=false])) (ZH (by first | (simp only [zl,Zf];done) | (simp only [zl,Zf];omega) | omega) (by first | (simp only [zl,Zf];done) | (simp only [zl,Zf];omega) | omega)) [4] [] [(4,.bool true),(10,.bool true),(15,.bool true),(20,.bool true),(25,.bool true),(29,.bool false)] kr (sound _ _) ⟨hb135,hb136,hb137,hb138,hb139,hb140,trivial⟩ ?_
 exact ⟨(decide (v0.f_Max≥v0.f_Min)),kr,kr,hF⟩ } }
 {
 have hF:=Zj hF hb139
 refine WA.rm (α:=Int×Int) (raw:=(((Zn v0.f_L).length:Int),((v0.f_Set.map Za).length:Int))) (can:=((v0.f_L.length:Int),(v0.f_Set.length:Int))) (fun m_=>([(4,one (.bool false))],[],[(m_.1 == 1)=true,(m_.2 == 0)=true,(decide (v0.f_Min≥0))=true,(decide (v0.f_Min≤20))=true,(decide (v0.f_Max≤20))=false])) (ZH (by first | (simp only [zl,Zf];done) | (simp only [zl,Zf];omega) | omega) (by first | (simp only [zl,Zf];done) | (simp only [zl,Zf];omega) | omega)) [4] [] [(4,.bool true),(10,.bool true),(15,.bool true),(20,.bool true),(25,.bool false)] kr (sound _ _) ⟨hb135,hb136,hb137,hb138,hb139,trivial⟩ ?_
 exact ⟨false,kr,kr,hF⟩ } }
 {
 have hF:=Zj hF hb138
 refine WA.rm (α:=Int×Int) (raw:=(((Zn v0.f_L).length:Int),((v0.f_Set.map Za).length:Int))) (can:=((v0.f_L.length:Int),(v0.f_Set.length:Int))) (fun m_=>([(4,one (.bool false))],[],[(m_.1 == 1)=true,(m_.2 == 0)=true,(decide (v0.f_Min≥0))=true,(decide (v0.f_Min≤20))=false])) (ZH (by first | (simp only [zl,Zf];done) | (simp only [zl,Zf];omega) | omega) (by first | (simp only [zl,Zf];done) | (simp only [zl,Zf];omega) | omega)) [4] [] [(4,.bool true),(10,.bool true),(15,.bool true),(20,.bool false)] kr (sound _ _) ⟨hb135,hb136,hb137,hb138,trivial⟩ ?_
 exact ⟨false,kr,kr,hF⟩ } }
 {
 have hF:=Zj hF hb137
 refine WA.rm (α:=Int×Int) (raw:=(((Zn v0.f_L).length:Int),((v0.f_Set.map Za).length:Int))) (can:=((v0.f_L.length:Int),(v0.f_Set.length:Int))) (fun m_=>([(4,one (.bool false))],[],[(m_.1 == 1)=true,(m_.2 == 0)=true,(decide (v0.f_Min≥0))=false])) (ZH (by first | (simp only [zl,Zf];done) | (simp only [zl,Zf];omega) | omega) (by first | (simp only [zl,Zf];done) | (simp only [zl,Zf];omega) | omega)) [4] [] [(4,.bool true),(10,.bool true),(15,.bool false)] kr (sound _ _) ⟨hb135,hb136,hb137,trivial⟩ ?_
 exact ⟨false,kr,kr,hF⟩ } }
 {
 have hF:=Zj hF hb136
 refine WA.rm (α:=Int×Int) (raw:=(((Zn v0.f_L).length:Int),((v0.f_Set.map Za).length:Int))) (can:=((v0.f_L.length:Int),(v0.f_Set.length:Int))) (fun m_=>([(4,one (.bool false))],[],[(m_.1 == 1)=true,(m_.2 == 0)=false])) (ZH (by first | (simp only [zl,Zf];done) | (simp only [zl,Zf];omega) | omega) (by first | (simp only [zl,Zf];done) | (simp only [zl,Zf];omega) | omega)) [4] [] [(4,.bool true),(10,.bool false)] kr (sound _ _) ⟨hb135,hb136,trivial⟩ ?_
 exact ⟨false,kr,kr,hF⟩ } }
 {
 have hF:=Zj hF hb135
 refine WA.rm (α:=Int) (raw:=((Zn v0.f_L).length:Int)) (can:=(v0.f_L.length:Int)) (fun m_=>([(4,one (.bool false))],[],[(m_ == 1)=false])) ((by first | (simp only [zl,Zf];done) | (simp only [zl,Zf];omega) | omega)) [4] [] [(4,.bool false)] kr (sound _ _) ⟨hb135,trivial⟩ ?_
 exact ⟨false,kr,kr,hF⟩ } } }
 {
 have hF:=Zj hF hb134
 refine WA.skip ?_
 refine WA.seq ?_
 refine WA.reg [4] [] [] (env':=[(4,one (.bool false))]) (os':=[]) (O:=[]) kr (sound _ _) trivial ?_
 refine WA.ret ?_
 obtain rfl:=Option.some.inj hF
 exact Zu (one (.bool false)) [] kr kr kr kr (by decide) rfl rfl } } } } }
 {
 rcases Bool.eq_false_or_eq_true (v0.f_Min == 0) with hb116 | hb116
 {
 have hF:=Zk hF hb116
 refine WA.reg [2,7] [102] [(3,.bool true)] (env':=[(2,.val false [.ptr 102 1 0 0]),(7,one (.bool (v0.f_Max == 0)))]) (os':=[(102,.box (pvL (Zd v0)))]) (O:=[(v0.f_Min == 0)=true]) kr (sound _ _) ⟨hb116,trivial⟩ ?_
 exact ⟨(v0.f_Max == 0),kr,kr,hF⟩ }
 {
 have hF:=Zj hF hb116
 refine WA.reg [2,7] [102] [(3,.bool false)] (env':=[(2,.val false [.ptr 102 1 0 0]),(7,one (.bool false))]) (os':=[(102,.box (pvL (Zd v0)))]) (O:=[(v0.f_Min == 0)=false]) kr (sound _ _) ⟨hb116,trivial⟩ ?_
 exact ⟨false,kr,kr,hF⟩ } } } }
def F52:Nat→Ze→Int→Option Bool
  | 0,_,_=>none
  | k+1,v0,v1=>ZhW (F52 k) k v0 v1
theorem Zia:∀(k:Nat),∀(v0:Ze) (v1:Int) (r:Bool),F52 k v0 v1=some r→Sim Tryz.prog GL0 52 [.val true (pvL (Zd v0)),one (.int .i64 v1)] [] (one (.bool r)) []
  | 0=>fun _ _ _ hF=>by cases hF
  | k+1=>fun v0 v1 r hF=>ZkY (F52 k) (Zia k) k v0 v1 r hF
def Zf2 (v104:Bool):Option Bool:=
  some v104
def F30 (k:Nat) (v0:Ze):Option Bool:=
  (F52 k v0 16).bind fun y101=>cond y101 ((F32 k v0).bind fun y103=>(Zf2 (decide (y103≤200)))) ((Zf2 false))
theorem Zj7 (k:Nat) (v0:Ze) (r:Bool) (hF:F30 k v0=some r):Sim Tryz.prog GL0 30 [.val true (pvL (Zd v0))] [] (one (.bool r)) []:=by
 refine ZC [] Tryz.func30 rfl kr kr ?_
 show WA _ _ 10 _ _ _
 refine WA.seq ?_
 refine WA.reg [1] [101] [(0,.obj 101)] (env':=[(1,.val false [.ptr 101 1 0 0])]) (os':=[(101,.box (pvL (Zd v0)))]) (O:=[]) kr (sound _ _) trivial ?_
 refine WA.join (fun s_=>∃(v104:Bool),Zi s_.env [2]=[(2,one (.bool v104))]∧Zi s_.os []=[]∧Zf2 v104=some r) ?_ ?_
 {
 rintro s_ ⟨v104,he,ho,hF⟩
 refine WA.keep _ _ he ho ?_
 clear he ho
 refine WA.ret ?_
 obtain rfl:=Option.some.inj hF
 exact Zu (one (.bool v104)) [] kr kr kr kr (by decide) rfl rfl }
 {
 obtain ⟨y101,hy101,hF⟩:=bind_some hF
 rcases Bool.eq_false_or_eq_true y101 with hb102 | hb102
 {
 have hF:=Zk hF hb102
 obtain ⟨y103,hy103,hF⟩:=bind_some hF
 refine WA.reg [2] [] [(1,.callR [] (one (.bool y101))),(2,.bool true),(4,.callR [] (one (.int .i64 y103)))] (env':=[(2,one (.bool (decide (y103≤200))))]) (os':=[]) (O:=[Sim Tryz.prog GL0 52 [.val true (pvL (Zd v0)),one (.int .i64 16)] [] (one (.bool y101)) [],([]:List Nat).Nodup,y101=true,Sim Tryz.prog GL0 32 [.val true (pvL (Zd v0))] [] (one (.int .i64 y103)) [],([]:List Nat).Nodup]) kr (sound _ _) ⟨(Zia k _ _ _ hy101),(by decide),hb102,(Zf4 k _ _ hy103),(by decide),trivial⟩ ?_
 exact ⟨(decide (y103≤200)),kr,kr,hF⟩ }
 {
 have hF:=Zj hF hb102
 refine WA.reg [2] [] [(1,.callR [] (one (.bool y101))),(2,.bool false)] (env':=[(2,one (.bool false))]) (os':=[]) (O:=[Sim Tryz.prog GL0 52 [.val true (pvL (Zd v0)),one (.int .i64 16)] [] (one (.bool y101)) [],([]:List Nat).Nodup,y101=false]) kr (sound _ _) ⟨(Zia k _ _ _ hy101),(by decide),hb102,trivial⟩ ?_
 exact ⟨false,kr,kr,hF⟩ } }
end Go.Proofs.YthilboheomikjaaGreatDoor
end
section
namespace Go.Proofs.YthilboheomikjaaGreatDoor
open Go.AL
structure Zq where
  f_set:List Zb
  f_some:Bool
  f_next:List Int
  f_x:Bool
def ZE (x:Zq):List PV:=[.sl (x.f_set.map Za),.bool x.f_some,.sl (x.f_next.map (eInt .i64))]
def Zh (x:Zq):List PV:=[.sl (x.f_set.map Za),.bool x.f_some,cond x.f_x (.slc (x.f_next.map (eInt .i64))) (.sl (x.f_next.map (eInt .i64)))]
theorem ZhQ (l:List Zq):∀es,es∈l.map Zh→es.length=3:=fun es h=>by obtain ⟨y,_,rfl⟩:=List.mem_map.1 h;rfl
structure Zm where
  f_nodes:List Zq
  f_first:Int
def Zr (x:Zm):List PV:=[.sl (x.f_nodes.map ZE),.int .i64 x.f_first]
end Go.Proofs.YthilboheomikjaaGreatDoor
end
section
namespace Go.Proofs.YthilboheomikjaaGreatDoor
open Go.AL
set_option maxRecDepth 100000
def F105 (k:Nat) (v0:Zm) (v1:Zq):Option (Int×Zm):=
  (if v0.f_nodes.length+([v1]:List Zq).length≤1073741824 then ((some ((w64 (((v0.f_nodes ++ ([v1]:List Zq)).length:Int)-1)),({ v0 with f_nodes:=(v0.f_nodes ++ ([v1]:List Zq)) }:Zm)))) else none)
theorem Ze9 (k:Nat) (v0:Zm) (v1:Zq) (r:Int×Zm) (hF:F105 k v0 v1=some r):Sim Tryz.prog GL0 105 [.val false [.ptr 0 1 0 0],.val true (pvL (Zh v1))] [.box [.arr 1 v0.f_nodes.length,.pv (.int .i64 v0.f_first)],.arr 3 (v0.f_nodes.map Zh)] (one (.int .i64 r.1)) [.box [.arr 1 r.2.f_nodes.length,.pv (.int .i64 r.2.f_first)],.arr 3 (r.2.f_nodes.map Zh)]:=by
 refine ZC [0,1] Tryz.func105 rfl kr kr ?_
 show WA _ _ 21 _ _ _
 refine WA.seq ?_
 refine WA.reg [0,3] [0,1,103] [(0,.obj 103)] (env':=[(0,.val false [.ptr 0 1 0 0]),(3,.val false [.ptr 103 1 0 0])]) (os':=[(0,.box [.arr 1 v0.f_nodes.length,.pv (.int .i64 v0.f_first)]),(1,.arr 3 (v0.f_nodes.map Zh)),(103,.box (pvL (Zh v1)))]) (O:=[]) kr (sound _ _) trivial ?_
 refine WA.seq ?_
 obtain ⟨hc101,hF⟩:=Zl hF
 refine WA.rdm (α:=Nat×(List (List PV))) (raw:=((v0.f_nodes.length+1),((v0.f_nodes.map Zh) ++ (([v1]:List Zq).map Zh)))) (can:=((v0.f_nodes ++ ([v1]:List Zq)).length,((v0.f_nodes ++ ([v1]:List Zq)).map Zh))) (fun m_=>([(0,.val false [.ptr 0 1 0 0])],[(0,.box [.arr 1 m_.1,.pv (.int .i64 v0.f_first)]),(1,.arr 3 m_.2)],[v0.f_nodes.length=(v0.f_nodes.map Zh).length,(v0.f_nodes.map Zh).length+(([v1]:List Zq).map Zh).length≤1073741824,∀es,es∈(([v1]:List Zq).map Zh)→es.length=3])) (ZH (by first | (simp only [zl,Zf];done) | (simp only [zl,Zf];omega) | omega) (by first | (simp only [zr,Zc3,Zn];done) | (simp only [zq,Zbg];done) | (simp only [zq,Zbg,Zh,cond];done))) [0] [0,1] [] kr kr kr (sound _ _) ⟨zt,(by first | exact hc101 | (simp only [List.length_map,Zf];exact hc101)),(ZhQ ([v1]:List Zq)),trivial⟩ ?_
 refine WA.seq ?_
 refine WA.rm (α:=Int) (raw:=((((v0.f_nodes ++ ([v1]:List Zq)).length):Nat):Int)) (can:=((v0.f_nodes ++ ([v1]:List Zq)).length:Int)) (fun m_=>([(4,one (.int .i64 (w64 (m_-1))))],[(0,.box [.arr 1 ((v0.f_nodes ++ ([v1]:List Zq)).length),.pv (.int .i64 v0.f_first)]),(1,.arr 3 ((v0.f_nodes ++ ([v1]:List Zq)).map Zh))],[])) ((by first | (simp only [zl,Zf];done) | (simp only [zl,Zf];omega) | omega)) [4] [0,1] [] kr (sound _ _) trivial ?_
 refine WA.ret ?_
 obtain rfl:=Option.some.inj hF
 exact Zu (one (.int .i64 (w64 (((v0.f_nodes ++ ([v1]:List Zq)).length:Int)-1)))) [.box [.arr 1 ((v0.f_nodes ++ ([v1]:List Zq)).length),.pv (.int .i64 v0.f_first)],.arr 3 ((v0.f_nodes ++ ([v1]:List Zq)).map Zh)] kr kr kr kr (by decide) rfl rfl
def ZdD (R78:Zm→Ze→Int→Option (Int×Zm)) (self0:Zm→Int→Int→Option (Int×Zm)) (v1:Ze) (v113:Zm) (v114:Int) (v115:Int):Option (Int×Zm):=
  (cond (decide (v115≥0)) ((idxL v1.f_L v115).bind fun y117=>(R78 v113 y117 v114).bind fun y118=>(self0 y118.2 y118.1 (w64 (v115-1)))) (((some (v114,v113)))))
def ZeB (R78:Zm→Ze→Int→Option (Int×Zm)) (v1:Ze):Nat→Zm→Int→Int→Option (Int×Zm)
  | 0,_,_,_=>none
  | m_+1,v113,v114,v115=>ZdD R78 (ZeB R78 v1 m_) v1 v113 v114 v115
def ZdE (R78:Zm→Ze→Int→Option (Int×Zm)) (k:Nat) (self1:Zm→(List Int)→Int→Option (Int×Zm)) (v1:Ze) (v2:Int) (v132:Zm) (v133:List Int) (v135:Int):Option (Int×Zm):=
  (cond (decide (v135<(v1.f_L.length:Int))) ((idxL v1.f_L v135).bind fun y137=>(R78 v132 y137 v2).bind fun y138=>if v133.length+([y138.1]:List Int).length≤1073741824 then (self1 y138.2 (v133 ++ ([y138.1]:List Int)) (w64 (v135+1))) else none) ((F105 k v132 (⟨([]:List Zb),false,v133,false⟩:Zq)).bind fun y140=>(some (y140.1,y140.2))))
def ZeC (R78:Zm→Ze→Int→Option (Int×Zm)) (k:Nat) (v1:Ze) (v2:Int):Nat→Zm→(List Int)→Int→Option (Int×Zm)
  | 0,_,_,_=>none
  | m_+1,v132,v133,v135=>ZdE R78 k (ZeC R78 k v1 v2 m_) v1 v2 v132 v133 v135
def ZdG (R78:Zm→Ze→Int→Option (Int×Zm)) (self4:Zm→Int→Int→Option (Int×Zm)) (v1:Ze) (v180:Zm) (v181:Int) (v182:Int):Option (Int×Zm):=
  (cond (decide (v182<v1.f_Min)) ((idxL v1.f_L 0).bind fun y184=>(R78 v180 y184 v181).bind fun y185=>(self4 y185.2 y185.1 (w64 (v182+1)))) (((some (v181,v180)))))
def ZeE (R78:Zm→Ze→Int→Option (Int×Zm)) (v1:Ze):Nat→Zm→Int→Int→Option (Int×Zm)
  | 0,_,_,_=>none
  | m_+1,v180,v181,v182=>ZdG R78 (ZeE R78 v1 m_) v1 v180 v181 v182
def ZeA (R78:Zm→Ze→Int→Option (Int×Zm)) (k:Nat) (v1:Ze) (v169:Zm) (v170:Int):Option (Int×Zm):=
  (ZeE R78 v1 k v169 v170 0)
def ZdF (R78:Zm→Ze→Int→Option (Int×Zm)) (k:Nat) (self2:Zm→Int→Int→Option (Int×Zm)) (v1:Ze) (v2:Int) (v162:Zm) (v163:Int) (v164:Int):Option (Int×Zm):=
  (cond (decide (v164<(w64 (v1.f_Max-v1.f_Min)))) ((idxL v1.f_L 0).bind fun y166=>(R78 v162 y166 v163).bind fun y167=>(F105 k y167.2 (⟨([]:List Zb),false,([v2,y167.1]:List Int),false⟩:Zq)).bind fun y168=>(self2 y168.2 y168.1 (w64 (v164+1)))) ((ZeA R78 k v1 v162 v163)))
def ZeD (R78:Zm→Ze→Int→Option (Int×Zm)) (k:Nat) (v1:Ze) (v2:Int):Nat→Zm→Int→Int→Option (Int×Zm)
  | 0,_,_,_=>none
  | m_+1,v162,v163,v164=>ZdF R78 k (ZeD R78 k v1 v2 m_) v1 v2 v162 v163 v164
def ZhX (R78:Zm→Ze→Int→Option (Int×Zm)) (k:Nat) (v0:Zm) (v1:Ze) (v2:Int):Option (Int×Zm):=
  (((cond (v1.f_Kind == 1) ((F105 k v0 (⟨v1.f_Set,true,([v2]:List Int),false⟩:Zq)).bind fun y102=>(some (y102.1,y102.2))) ((cond (v1.f_Kind == 2) ((ZeB R78 v1 k v0 v2 (w64 ((v1.f_L.length:Int)-1)))) ((cond (v1.f_Kind == 3) (((ZeC R78 k v1 v2 k v0 ([]:List Int) 0))) (((cond (decide (v1.f_Max<0)) ((F105 k v0 (⟨([]:List Zb),false,([v2]:List Int),true⟩:Zq)).bind fun y142=>(idxL v1.f_L 0).bind fun y143=>(R78 y142.2 y143 y142.1).bind fun y144=>(if (0:Int)≤y142.1∧y142.1<(y144.2.f_nodes.length:Int) then (idxL y144.2.f_nodes y142.1).bind fun y146=>if y146.f_x=true then if y146.f_next.length+([y144.1]:List Int).length≤1073741824 then if (0:Int)≤y142.1∧y142.1<(y144.2.f_nodes.length:Int) then (idxL y144.2.f_nodes y142.1).bind fun y150=>((ZeA R78 k v1 ({ y144.2 with f_nodes:=(y144.2.f_nodes.set (Int.toNat y142.1) ({ y150 with f_next:=(y146.f_next ++ ([y144.1]:List Int)),f_x:=false }:Zq)) }:Zm) y142.1)) else none else none else none else none)) (((ZeD R78 k v1 v2 k v0 v2 0)))))))))))))
theorem ZkZ (R78:Zm→Ze→Int→Option (Int×Zm)) (IH78:∀(v0:Zm) (v1:Ze) (v2:Int) (r:Int×Zm),R78 v0 v1 v2=some r→Sim Tryz.prog GL0 78 [.val false [.ptr 0 1 0 0],.val true (pvL (Zd v1)),one (.int .i64 v2)] [.box [.arr 1 v0.f_nodes.length,.pv (.int .i64 v0.f_first)],.arr 3 (v0.f_nodes.map Zh)] (one (.int .i64 r.1)) [.box [.arr 1 r.2.f_nodes.length,.pv (.int .i64 r.2.f_first)],.arr 3 (r.2.f_nodes.map Zh)]) (k:Nat) (v0:Zm) (v1:Ze) (v2:Int) (r:Int×Zm) (hF:ZhX R78 k v0 v1 v2=some r):Sim Tryz.prog GL0 78 [.val false [.ptr 0 1 0 0],.val true (pvL (Zd v1)),one (.int .i64 v2)] [.box [.arr 1 v0.f_nodes.length,.pv (.int .i64 v0.f_first)],.arr 3 (v0.f_nodes.map Zh)] (one (.int .i64 r.1)) [.box [.arr 1 r.2.f_nodes.length,.pv (.int .i64 r.2.f_first)],.arr 3 (r.2.f_nodes.map Zh)]:=by
 refine ZC [0,1] Tryz.func78 rfl kr kr ?_
 show WA _ _ 133 _ _ _
 refine WA.seq ?_
 refine WA.reg [0,2,4] [0,1,104] [(0,.obj 104)] (env':=[(0,.val false [.ptr 0 1 0 0]),(2,one (.int .i64 v2)),(4,.val false [.ptr 104 1 0 0])]) (os':=[(0,.box [.arr 1 v0.f_nodes.length,.pv (.int .i64 v0.f_first)]),(1,.arr 3 (v0.f_nodes.map Zh)),(104,.box (pvL (Zd v1)))]) (O:=[]) kr (sound _ _) trivial ?_
 refine WA.seq ?_
 refine WA.seq ?_
 refine WA.reg [0,2,4,15] [0,1,104] [] (env':=[(0,.val false [.ptr 0 1 0 0]),(2,one (.int .i64 v2)),(4,.val false [.ptr 104 1 0 0]),(15,one (.int .i64 v1.f_Kind))]) (os':=[(0,.box [.arr 1 v0.f_nodes.length,.pv (.int .i64 v0.f_first)]),(1,.arr 3 (v0.f_nodes.map Zh)),(104,.box (pvL (Zd v1)))]) (O:=[]) kr (sound _ _) trivial ?_
 refine WA.block ?_
 refine WA.seq ?_
 refine WA.reg [0,2,4,15,16] [0,1,104] [] (env':=[(0,.val false [.ptr 0 1 0 0]),(2,one (.int .i64 v2)),(4,.val false [.ptr 104 1 0 0]),(15,one (.int .i64 v1.f_Kind)),(16,one (.bool (v1.f_Kind == 1)))]) (os':=[(0,.box [.arr 1 v0.f_nodes.length,.pv (.int .i64 v0.f_first)]),(1,.arr 3 (v0.f_nodes.map Zh)),(104,.box (pvL (Zd v1)))]) (O:=[]) kr (sound _ _) trivial ?_
 refine WA.cond (b:=(v1.f_Kind == 1)) rfl (fun hb101=>?_) (fun hb101=>?_)
 {
 have hF:=Zk hF hb101
 refine WA.seq ?_
 obtain ⟨y102,hy102,hF⟩:=bind_some hF
 refine WA.reg [6] [0,1] [(6,.call [0,1] (one (.int .i64 y102.1)) [.box [.arr 1 y102.2.f_nodes.length,.pv (.int .i64 y102.2.f_first)],.arr 3 (y102.2.f_nodes.map Zh)] [])] (env':=[(6,one (.int .i64 y102.1))]) (os':=[(0,.box [.arr 1 y102.2.f_nodes.length,.pv (.int .i64 y102.2.f_first)]),(1,.arr 3 (y102.2.f_nodes.map Zh))]) (O:=[Sim Tryz.prog GL0 105 [.val false [.ptr 0 1 0 0],.val true (pvL (Zh (⟨v1.f_Set,true,([v2]:List Int),false⟩:Zq)))] [.box [.arr 1 v0.f_nodes.length,.pv (.int .i64 v0.f_first)],.arr 3 (v0.f_nodes.map Zh)] (one (.int .i64 y102.1)) [.box [.arr 1 y102.2.f_nodes.length,.pv (.int .i64 y102.2.f_first)],.arr 3 (y102.2.f_nodes.map Zh)],([0,1]:List Nat).Nodup]) kr (sound _ _) ⟨(Ze9 k _ _ _ hy102),(by decide),trivial⟩ ?_
 refine WA.ret ?_
 obtain rfl:=Option.some.inj hF
 exact Zu (one (.int .i64 y102.1)) [.box [.arr 1 y102.2.f_nodes.length,.pv (.int .i64 y102.2.f_first)],.arr 3 (y102.2.f_nodes.map Zh)] kr kr kr kr (by decide) rfl rfl }
 {
 have hF:=Zj hF hb101
 refine WA.seq ?_
 refine WA.reg [0,2,4,15,25] [0,1,104] [] (env':=[(0,.val false [.ptr 0 1 0 0]),(2,one (.int .i64 v2)),(4,.val false [.ptr 104 1 0 0]),(15,one (.int .i64 v1.f_Kind)),(25,one (.bool (v1.f_Kind == 2)))]) (os':=[(0,.box [.arr 1 v0.f_nodes.length,.pv (.int .i64 v0.f_first)]),(1,.arr 3 (v0.f_nodes.map Zh)),(104,.box (pvL (Zd v1)))]) (O:=[]) kr (sound _ _) trivial ?_
 refine WA.cond (b:=(v1.f_Kind == 2)) rfl (fun hb103=>?_) (fun hb103=>?_)
 {
 have hF:=Zk hF hb103
 refine WA.seq ?_
 refine WA.seq ?_
 refine WA.rm (α:=Int) (raw:=((Zn v1.f_L).length:Int)) (can:=(v1.f_L.length:Int)) (fun m_=>([(0,.val false [.ptr 0 1 0 0]),(2,one (.int .i64 v2)),(4,.val false [.ptr 104 1 0 0]),(7,one (.int .i64 (w64 (m_-1))))],[(0,.box [.arr 1 v0.f_nodes.length,.pv (.int .i64 v0.f_first)]),(1,.arr 3 (v0.f_nodes.map Zh)),(104,.box (pvL (Zd v1)))],[])) ((by first | (simp only [zl,Zf];done) | (simp only [zl,Zf];omega) | omega)) [0,2,4,7] [0,1,104] [] kr (sound _ _) trivial ?_
 refine WA.block ?_
 refine WA.loop (fun m s_=>∃(v113:Zm) (v114:Int) (v115:Int),Zi s_.env [0,2,4,7]=[(0,.val false [.ptr 0 1 0 0]),(2,one (.int .i64 v114)),(4,.val false [.ptr 104 1 0 0]),(7,one (.int .i64 v115))]∧Zi s_.os [0,1,104]=[(0,.box [.arr 1 v113.f_nodes.length,.pv (.int .i64 v113.f_first)]),(1,.arr 3 (v113.f_nodes.map Zh)),(104,.box (pvL (Zd v1)))]∧ZeB R78 v1 m v113 v114 v115=some r) k ⟨v0,v2,(w64 ((v1.f_L.length:Int)-1)),kr,kr,hF⟩ ?_
 clear hF
 rintro m0 s_ ⟨v113,v114,v115,he,ho,hF⟩
 refine WA.keep _ _ he ho ?_
 clear he ho
 cases m0 with
 | zero=>cases hF
 | succ m0=>
  obtain ⟨self0,hself0⟩:∃g,g=ZeB R78 v1 m0:=⟨_,rfl⟩
  have hF:ZdD R78 self0 v1 v113 v114 v115=some r:=by first | (rw [hself0];exact hF) | exact hF
  refine WA.seq ?_
  refine WA.seq ?_
  refine WA.reg [0,2,4,7,32] [0,1,104] [] (env':=[(0,.val false [.ptr 0 1 0 0]),(2,one (.int .i64 v114)),(4,.val false [.ptr 104 1 0 0]),(7,one (.int .i64 v115)),(32,one (.bool (decide (v115≥0))))]) (os':=[(0,.box [.arr 1 v113.f_nodes.length,.pv (.int .i64 v113.f_first)]),(1,.arr 3 (v113.f_nodes.map Zh)),(104,.box (pvL (Zd v1)))]) (O:=[]) kr (sound _ _) trivial ?_
  refine WA.cond (b:=(decide (v115≥0))) rfl (fun hb116=>?_) (fun hb116=>?_)
  {
 have hF:=Zk hF hb116
 refine WA.skip ?_
 refine WA.seq ?_
 refine WA.block ?_
 obtain ⟨y117,hy117,hF⟩:=bind_some hF
 obtain ⟨y118,hy118,hF⟩:=bind_some hF
 refine WA.reg [0,2,4,7] [0,1,104] [(4,.cells (Zd y117)),(7,.call [0,1] (one (.int .i64 y118.1)) [.box [.arr 1 y118.2.f_nodes.length,.pv (.int .i64 y118.2.f_first)],.arr 3 (y118.2.f_nodes.map Zh)] [])] (env':=[(0,.val false [.ptr 0 1 0 0]),(2,one (.int .i64 y118.1)),(4,.val false [.ptr 104 1 0 0]),(7,one (.int .i64 v115))]) (os':=[(0,.box [.arr 1 y118.2.f_nodes.length,.pv (.int .i64 y118.2.f_first)]),(1,.arr 3 (y118.2.f_nodes.map Zh)),(104,.box (pvL (Zd v1)))]) (O:=[idxL (Zn v1.f_L) v115=some (Zd y117),Sim Tryz.prog GL0 78 [.val false [.ptr 0 1 0 0],.val true (pvL (Zd y117)),one (.int .i64 v114)] [.box [.arr 1 v113.f_nodes.length,.pv (.int .i64 v113.f_first)],.arr 3 (v113.f_nodes.map Zh)] (one (.int .i64 y118.1)) [.box [.arr 1 y118.2.f_nodes.length,.pv (.int .i64 y118.2.f_first)],.arr 3 (y118.2.f_nodes.map Zh)],([0,1]:List Nat).Nodup]) kr (sound _ _) ⟨(Z6 hy117),(IH78 _ _ _ _ hy118),(by decide),trivial⟩ ?_
 refine WA.reg [0,2,4,7] [0,1,104] [] (env':=[(0,.val false [.ptr 0 1 0 0]),(2,one (.int .i64 y118.1)),(4,.val false [.ptr 104 1 0 0]),(7,one (.int .i64 (w64 (v115-1))))]) (os':=[(0,.box [.arr 1 y118.2.f_nodes.length,.pv (.int .i64 y118.2.f_first)]),(1,.arr 3 (y118.2.f_nodes.map Zh)),(104,.box (pvL (Zd v1)))]) (O:=[]) kr (sound _ _) trivial ?_
 exact ⟨m0,Nat.lt_succ_self _,y118.2,y118.1,(w64 (v115-1)),kr,kr,by rw [hself0] at hF;exact hF⟩ }
  {
 have hF:=Zj hF hb116
 refine WA.exit ?_
 refine WA.seq ?_
 refine WA.reg [6] [0,1] [] (env':=[(6,one (.int .i64 v114))]) (os':=[(0,.box [.arr 1 v113.f_nodes.length,.pv (.int .i64 v113.f_first)]),(1,.arr 3 (v113.f_nodes.map Zh))]) (O:=[]) kr (sound _ _) trivial ?_
 refine WA.ret ?_
 obtain rfl:=Option.some.inj hF
 exact Zu (one (.int .i64 v114)) [.box [.arr 1 v113.f_nodes.length,.pv (.int .i64 v113.f_first)],.arr 3 (v113.f_nodes.map Zh)] kr kr kr kr (by decide) rfl rfl } }
 {
 have hF:=Zj hF hb103
 refine WA.seq ?_
 refine WA.reg [0,2,4,44] [0,1,104] [] (env':=[(0,.val false [.ptr 0 1 0 0]),(2,one (.int .i64 v2)),(4,.val false [.ptr 104 1 0 0]),(44,one (.bool (v1.f_Kind == 3)))]) (os':=[(0,.box [.arr 1 v0.f_nodes.length,.pv (.int .i64 v0.f_first)]),(1,.arr 3 (v0.f_nodes.map Zh)),(104,.box (pvL (Zd v1)))]) (O:=[]) kr (sound _ _) trivial ?_
 refine WA.cond (b:=(v1.f_Kind == 3)) rfl (fun hb119=>?_) (fun hb119=>?_)
 {
 have hF:=Zk hF hb119
 refine WA.seq ?_
 refine WA.reg [0,2,4,8] [0,1,104,108] [(0,.obj 108)] (env':=[(0,.val false [.ptr 0 1 0 0]),(2,one (.int .i64 v2)),(4,.val false [.ptr 104 1 0 0]),(8,.val false [.arr 108 0])]) (os':=[(0,.box [.arr 1 v0.f_nodes.length,.pv (.int .i64 v0.f_first)]),(1,.arr 3 (v0.f_nodes.map Zh)),(104,.box (pvL (Zd v1))),(108,.arr 1 (([]:List Int).map (eInt .i64)))]) (O:=[]) kr (sound _ _) trivial ?_
 refine WA.seq ?_
 refine WA.seq ?_
 refine WA.rm (α:=Int) (raw:=((Zn v1.f_L).length:Int)) (can:=(v1.f_L.length:Int)) (fun m_=>([(0,.val false [.ptr 0 1 0 0]),(2,one (.int .i64 v2)),(8,.val false [.arr 108 0]),(47,one (.sl (Zn v1.f_L))),(48,one (.int .i64 m_)),(49,one (.int .i64 0))],[(0,.box [.arr 1 v0.f_nodes.length,.pv (.int .i64 v0.f_first)]),(1,.arr 3 (v0.f_nodes.map Zh)),(108,.arr 1 (([]:List Int).map (eInt .i64)))],[])) ((by first | (simp only [zl,Zf];done) | (simp only [zl,Zf];omega) | omega)) [0,2,8,47,48,49] [0,1,108] [] kr (sound _ _) trivial ?_
 refine WA.block ?_
 refine WA.loop (fun m s_=>∃(v132:Zm) (v133:List Int) (v134:Nat) (v135:Int),Zi s_.env [0,2,8,47,48,49]=[(0,.val false [.ptr 0 1 0 0]),(2,one (.int .i64 v2)),(8,.val false [.arr 108 v134]),(47,one (.sl (Zn v1.f_L))),(48,one (.int .i64 (v1.f_L.length:Int))),(49,one (.int .i64 v135))]∧Zi s_.os [0,1,108]=[(0,.box [.arr 1 v132.f_nodes.length,.pv (.int .i64 v132.f_first)]),(1,.arr 3 (v132.f_nodes.map Zh)),(108,.arr 1 (v133.map (eInt .i64)))]∧v134=(v133:List _).length∧ZeC R78 k v1 v2 m v132 v133 v135=some r) k ⟨v0,([]:List Int),0,0,kr,kr,zt,hF⟩ ?_
 clear hF
 rintro m1 s_ ⟨v132,v133,v134,v135,he,ho,hn_v134,hF⟩
 refine WA.keep _ _ he ho ?_
 clear he ho
 cases m1 with
 | zero=>cases hF
 | succ m1=>
  obtain ⟨self1,hself1⟩:∃g,g=ZeC R78 k v1 v2 m1:=⟨_,rfl⟩
  have hF:ZdE R78 k self1 v1 v2 v132 v133 v135=some r:=by first | (rw [hself1];exact hF) | exact hF
  refine WA.seq ?_
  refine WA.reg [0,2,8,47,48,49,50] [0,1,108] [] (env':=[(0,.val false [.ptr 0 1 0 0]),(2,one (.int .i64 v2)),(8,.val false [.arr 108 v134]),(47,one (.sl (Zn v1.f_L))),(48,one (.int .i64 (v1.f_L.length:Int))),(49,one (.int .i64 v135)),(50,one (.bool (decide (v135<(v1.f_L.length:Int)))))]) (os':=[(0,.box [.arr 1 v132.f_nodes.length,.pv (.int .i64 v132.f_first)]),(1,.arr 3 (v132.f_nodes.map Zh)),(108,.arr 1 (v133.map (eInt .i64)))]) (O:=[]) kr (sound _ _) trivial ?_
  refine WA.seq ?_
  refine WA.cond (b:=(decide (v135<(v1.f_L.length:Int)))) rfl (fun hb136=>?_) (fun hb136=>?_)
  {
 have hF:=Zk hF hb136
 refine WA.skip ?_
 refine WA.seq ?_
 refine WA.block ?_
 refine WA.seq ?_
 obtain ⟨y137,hy137,hF⟩:=bind_some hF
 refine WA.reg [0,2,8,10,47,48,49] [0,1,108,110] [(0,.cells (Zd y137)),(2,.obj 110)] (env':=[(0,.val false [.ptr 0 1 0 0]),(2,one (.int .i64 v2)),(8,.val false [.arr 108 v134]),(10,.val false [.ptr 110 1 0 0]),(47,one (.sl (Zn v1.f_L))),(48,one (.int .i64 (v1.f_L.length:Int))),(49,one (.int .i64 v135))]) (os':=[(0,.box [.arr 1 v132.f_nodes.length,.pv (.int .i64 v132.f_first)]),(1,.arr 3 (v132.f_nodes.map Zh)),(108,.arr 1 (v133.map (eInt .i64))),(110,.box (pvL (Zd y137)))]) (O:=[idxL (Zn v1.f_L) v135=some (Zd y137)]) kr (sound _ _) ⟨(Z6 hy137),trivial⟩ ?_
 obtain ⟨y138,hy138,hF⟩:=bind_some hF
 obtain ⟨hc139,hF⟩:=Zl hF
 refine WA.rm (α:=(List (List PV))) (raw:=((v133.map (eInt .i64)) ++ (([y138.1]:List Int).map (eInt .i64)))) (can:=((v133 ++ ([y138.1]:List Int)).map (eInt .i64))) (fun m_=>([(0,.val false [.ptr 0 1 0 0]),(2,one (.int .i64 v2)),(8,.val false [.arr 108 (v134+1)]),(47,one (.sl (Zn v1.f_L))),(48,one (.int .i64 (v1.f_L.length:Int))),(49,one (.int .i64 v135))],[(0,.box [.arr 1 y138.2.f_nodes.length,.pv (.int .i64 y138.2.f_first)]),(1,.arr 3 (y138.2.f_nodes.map Zh)),(108,.arr 1 m_)],[Sim Tryz.prog GL0 78 [.val false [.ptr 0 1 0 0],.val true (pvL (Zd y137)),one (.int .i64 v2)] [.box [.arr 1 v132.f_nodes.length,.pv (.int .i64 v132.f_first)],.arr 3 (v132.f_nodes.map Zh)] (one (.int .i64 y138.1)) [.box [.arr 1 y138.2.f_nodes.length,.pv (.int .i64 y138.2.f_first)],.arr 3 (y138.2.f_nodes.map Zh)],([0,1]:List Nat).Nodup,v134=(v133.map (eInt .i64)).length,(v133.map (eInt .i64)).length+(([y138.1]:List Int).map (eInt .i64)).length≤1073741824,∀es,es∈(([y138.1]:List Int).map (eInt .i64))→es.length=1])) ((by first | (simp only [zr,Zc3,Zn];done) | (simp only [zq,Zbg];done) | (simp only [zq,Zbg,Zh,cond];done))) [0,2,8,47,48,49] [0,1,108] [(4,.call [0,1] (one (.int .i64 y138.1)) [.box [.arr 1 y138.2.f_nodes.length,.pv (.int .i64 y138.2.f_first)],.arr 3 (y138.2.f_nodes.map Zh)] [])] kr (sound _ _) ⟨(IH78 _ _ _ _ hy138),(by decide),zt,(by first | exact hc139 | (simp only [List.length_map,Zf];exact hc139)),(Zft _ _ _ (fun _=>rfl)),trivial⟩ ?_
 refine WA.reg [0,2,8,47,48,49] [0,1,108] [] (env':=[(0,.val false [.ptr 0 1 0 0]),(2,one (.int .i64 v2)),(8,.val false [.arr 108 (v134+1)]),(47,one (.sl (Zn v1.f_L))),(48,one (.int .i64 (v1.f_L.length:Int))),(49,one (.int .i64 (w64 (v135+1))))]) (os':=[(0,.box [.arr 1 y138.2.f_nodes.length,.pv (.int .i64 y138.2.f_first)]),(1,.arr 3 (y138.2.f_nodes.map Zh)),(108,.arr 1 ((v133 ++ ([y138.1]:List Int)).map (eInt .i64)))]) (O:=[]) kr (sound _ _) trivial ?_
 exact ⟨m1,Nat.lt_succ_self _,y138.2,(v133 ++ ([y138.1]:List Int)),(v134+1),(w64 (v135+1)),kr,kr,zt,by rw [hself1] at hF;exact hF⟩ }
  {
 have hF:=Zj hF hb136
 refine WA.exit ?_
 refine WA.seq ?_
 refine WA.freeze 108 8 (s:=1) (n:=v134) (els:=(v133.map (eInt .i64))) rfl rfl zt ?_
 refine WA.keep [0,8] [0,1] (env':=[(0,.val false [.ptr 0 1 0 0]),(8,one (.sl (v133.map (eInt .i64))))]) (os':=[(0,.box [.arr 1 v132.f_nodes.length,.pv (.int .i64 v132.f_first)]),(1,.arr 3 (v132.f_nodes.map Zh))]) kr kr ?_
 obtain ⟨y140,hy140,hF⟩:=bind_some hF
 refine WA.reg [6] [0,1] [(3,.call [0,1] (one (.int .i64 y140.1)) [.box [.arr 1 y140.2.f_nodes.length,.pv (.int .i64 y140.2.f_first)],.arr 3 (y140.2.f_nodes.map Zh)] [])] (env':=[(6,one (.int .i64 y140.1))]) (os':=[(0,.box [.arr 1 y140.2.f_nodes.length,.pv (.int .i64 y140.2.f_first)]),(1,.arr 3 (y140.2.f_nodes.map Zh))]) (O:=[Sim Tryz.prog GL0 105 [.val false [.ptr 0 1 0 0],.val true (pvL (Zh (⟨([]:List Zb),false,v133,false⟩:Zq)))] [.box [.arr 1 v132.f_nodes.length,.pv (.int .i64 v132.f_first)],.arr 3 (v132.f_nodes.map Zh)] (one (.int .i64 y140.1)) [.box [.arr 1 y140.2.f_nodes.length,.pv (.int .i64 y140.2.f_first)],.arr 3 (y140.2.f_nodes.map Zh)],([0,1]:List Nat).Nodup]) kr (sound _ _) ⟨(Ze9 k _ _ _ hy140),(by decide),trivial⟩ ?_
 refine WA.ret ?_
 obtain rfl:=Option.some.inj hF
 exact Zu (one (.int .i64 y140.1)) [.box [.arr 1 y140.2.f_nodes.length,.pv (.int .i64 y140.2.f_first)],.arr 3 (y140.2.f_nodes.map Zh)] kr kr kr kr (by decide) rfl rfl } }
 {
 have hF:=Zj hF hb119
 refine WA.skip ?_
 refine WA.join (fun s_=>∃(v169:Zm) (v170:Int),Zi s_.env [0,2,4]=[(0,.val false [.ptr 0 1 0 0]),(2,one (.int .i64 v170)),(4,.val false [.ptr 104 1 0 0])]∧Zi s_.os [0,1,104]=[(0,.box [.arr 1 v169.f_nodes.length,.pv (.int .i64 v169.f_first)]),(1,.arr 3 (v169.f_nodes.map Zh)),(104,.box (pvL (Zd v1)))]∧ZeA R78 k v1 v169 v170=some r) ?_ ?_
 {
 rintro s_ ⟨v169,v170,he,ho,hF⟩
 refine WA.keep _ _ he ho ?_
 clear he ho
 refine WA.seq ?_
 refine WA.seq ?_
 refine WA.reg [0,2,4,121,122] [0,1,104] [] (env':=[(0,.val false [.ptr 0 1 0 0]),(2,one (.int .i64 v170)),(4,.val false [.ptr 104 1 0 0]),(121,one (.int .i64 v1.f_Min)),(122,one (.int .i64 0))]) (os':=[(0,.box [.arr 1 v169.f_nodes.length,.pv (.int .i64 v169.f_first)]),(1,.arr 3 (v169.f_nodes.map Zh)),(104,.box (pvL (Zd v1)))]) (O:=[]) kr (sound _ _) trivial ?_
 refine WA.block ?_
 refine WA.loop (fun m s_=>∃(v180:Zm) (v181:Int) (v182:Int),Zi s_.env [0,2,4,121,122]=[(0,.val false [.ptr 0 1 0 0]),(2,one (.int .i64 v181)),(4,.val false [.ptr 104 1 0 0]),(121,one (.int .i64 v1.f_Min)),(122,one (.int .i64 v182))]∧Zi s_.os [0,1,104]=[(0,.box [.arr 1 v180.f_nodes.length,.pv (.int .i64 v180.f_first)]),(1,.arr 3 (v180.f_nodes.map Zh)),(104,.box (pvL (Zd v1)))]∧ZeE R78 v1 m v180 v181 v182=some r) k ⟨v169,v170,0,kr,kr,hF⟩ ?_
 clear hF
 rintro m4 s_ ⟨v180,v181,v182,he,ho,hF⟩
 refine WA.keep _ _ he ho ?_
 clear he ho
 cases m4 with
 | zero=>cases hF
 | succ m4=>
  obtain ⟨self4,hself4⟩:∃g,g=ZeE R78 v1 m4:=⟨_,rfl⟩
  have hF:ZdG R78 self4 v1 v180 v181 v182=some r:=by first | (rw [hself4];exact hF) | exact hF
  refine WA.seq ?_
  refine WA.reg [0,2,4,121,122,123] [0,1,104] [] (env':=[(0,.val false [.ptr 0 1 0 0]),(2,one (.int .i64 v181)),(4,.val false [.ptr 104 1 0 0]),(121,one (.int .i64 v1.f_Min)),(122,one (.int .i64 v182)),(123,one (.bool (decide (v182<v1.f_Min))))]) (os':=[(0,.box [.arr 1 v180.f_nodes.length,.pv (.int .i64 v180.f_first)]),(1,.arr 3 (v180.f_nodes.map Zh)),(104,.box (pvL (Zd v1)))]) (O:=[]) kr (sound _ _) trivial ?_
  refine WA.seq ?_
  refine WA.cond (b:=(decide (v182<v1.f_Min))) rfl (fun hb183=>?_) (fun hb183=>?_)
  {
 have hF:=Zk hF hb183
 refine WA.skip ?_
 refine WA.seq ?_
 refine WA.block ?_
 obtain ⟨y184,hy184,hF⟩:=bind_some hF
 obtain ⟨y185,hy185,hF⟩:=bind_some hF
 refine WA.reg [0,2,4,121,122] [0,1,104] [(3,.cells (Zd y184)),(6,.call [0,1] (one (.int .i64 y185.1)) [.box [.arr 1 y185.2.f_nodes.length,.pv (.int .i64 y185.2.f_first)],.arr 3 (y185.2.f_nodes.map Zh)] [])] (env':=[(0,.val false [.ptr 0 1 0 0]),(2,one (.int .i64 y185.1)),(4,.val false [.ptr 104 1 0 0]),(121,one (.int .i64 v1.f_Min)),(122,one (.int .i64 v182))]) (os':=[(0,.box [.arr 1 y185.2.f_nodes.length,.pv (.int .i64 y185.2.f_first)]),(1,.arr 3 (y185.2.f_nodes.map Zh)),(104,.box (pvL (Zd v1)))]) (O:=[idxL (Zn v1.f_L) 0=some (Zd y184),Sim Tryz.prog GL0 78 [.val false [.ptr 0 1 0 0],.val true (pvL (Zd y184)),one (.int .i64 v181)] [.box [.arr 1 v180.f_nodes.length,.pv (.int .i64 v180.f_first)],.arr 3 (v180.f_nodes.map Zh)] (one (.int .i64 y185.1)) [.box [.arr 1 y185.2.f_nodes.length,.pv (.int .i64 y185.2.f_first)],.arr 3 (y185.2.f_nodes.map Zh)],([0,1]:List Nat).Nodup]) kr (sound _ _) ⟨(Z6 hy184),(IH78 _ _ _ _ hy185),(by decide),trivial⟩ ?_
 refine WA.reg [0,2,4,121,122] [0,1,104] [] (env':=[(0,.val false [.ptr 0 1 0 0]),(2,one (.int .i64 y185.1)),(4,.val false [.ptr 104 1 0 0]),(121,one (.int .i64 v1.f_Min)),(122,one (.int .i64 (w64 (v182+1))))]) (os':=[(0,.box [.arr 1 y185.2.f_nodes.length,.pv (.int .i64 y185.2.f_first)]),(1,.arr 3 (y185.2.f_nodes.map Zh)),(104,.box (pvL (Zd v1)))]) (O:=[]) kr (sound _ _) trivial ?_
 exact ⟨m4,Nat.lt_succ_self _,y185.2,y185.1,(w64 (v182+1)),kr,kr,by rw [hself4] at hF;exact hF⟩ }
  {
 have hF:=Zj hF hb183
 refine WA.exit ?_
 refine WA.seq ?_
 refine WA.reg [6] [0,1] [] (env':=[(6,one (.int .i64 v181))]) (os':=[(0,.box [.arr 1 v180.f_nodes.length,.pv (.int .i64 v180.f_first)]),(1,.arr 3 (v180.f_nodes.map Zh))]) (O:=[]) kr (sound _ _) trivial ?_
 refine WA.ret ?_
 obtain rfl:=Option.some.inj hF
 exact Zu (one (.int .i64 v181)) [.box [.arr 1 v180.f_nodes.length,.pv (.int .i64 v180.f_first)],.arr 3 (v180.f_nodes.map Zh)] kr kr kr kr (by decide) rfl rfl } }
 {
 refine WA.seq ?_
 refine WA.reg [0,2,4,67] [0,1,104] [] (env':=[(0,.val false [.ptr 0 1 0 0]),(2,one (.int .i64 v2)),(4,.val false [.ptr 104 1 0 0]),(67,one (.bool (decide (v1.f_Max<0))))]) (os':=[(0,.box [.arr 1 v0.f_nodes.length,.pv (.int .i64 v0.f_first)]),(1,.arr 3 (v0.f_nodes.map Zh)),(104,.box (pvL (Zd v1)))]) (O:=[]) kr (sound _ _) trivial ?_
 refine WA.cond (b:=(decide (v1.f_Max<0))) rfl (fun hb141=>?_) (fun hb141=>?_)
 {
 have hF:=Zk hF hb141
 refine WA.seq ?_
 obtain ⟨y142,hy142,hF⟩:=bind_some hF
 refine WA.reg [0,4,11] [0,1,104] [(2,.num 0),(4,.call [0,1] (one (.int .i64 y142.1)) [.box [.arr 1 y142.2.f_nodes.length,.pv (.int .i64 y142.2.f_first)],.arr 3 (y142.2.f_nodes.map Zh)] [])] (env':=[(0,.val false [.ptr 0 1 0 0]),(4,.val false [.ptr 104 1 0 0]),(11,one (.int .i64 y142.1))]) (os':=[(0,.box [.arr 1 y142.2.f_nodes.length,.pv (.int .i64 y142.2.f_first)]),(1,.arr 3 (y142.2.f_nodes.map Zh)),(104,.box (pvL (Zd v1)))]) (O:=[Sim Tryz.prog GL0 105 [.val false [.ptr 0 1 0 0],.val true (pvL (Zh (⟨([]:List Zb),false,([v2]:List Int),true⟩:Zq)))] [.box [.arr 1 v0.f_nodes.length,.pv (.int .i64 v0.f_first)],.arr 3 (v0.f_nodes.map Zh)] (one (.int .i64 y142.1)) [.box [.arr 1 y142.2.f_nodes.length,.pv (.int .i64 y142.2.f_first)],.arr 3 (y142.2.f_nodes.map Zh)],([0,1]:List Nat).Nodup]) kr (sound _ _) ⟨(Ze9 k _ _ _ hy142),(by decide),trivial⟩ ?_
 refine WA.seq ?_
 obtain ⟨y143,hy143,hF⟩:=bind_some hF
 obtain ⟨y144,hy144,hF⟩:=bind_some hF
 refine WA.reg [0,4,11,12] [0,1,104] [(3,.cells (Zd y143)),(6,.call [0,1] (one (.int .i64 y144.1)) [.box [.arr 1 y144.2.f_nodes.length,.pv (.int .i64 y144.2.f_first)],.arr 3 (y144.2.f_nodes.map Zh)] [])] (env':=[(0,.val false [.ptr 0 1 0 0]),(4,.val false [.ptr 104 1 0 0]),(11,one (.int .i64 y142.1)),(12,one (.int .i64 y144.1))]) (os':=[(0,.box [.arr 1 y144.2.f_nodes.length,.pv (.int .i64 y144.2.f_first)]),(1,.arr 3 (y144.2.f_nodes.map Zh)),(104,.box (pvL (Zd v1)))]) (O:=[idxL (Zn v1.f_L) 0=some (Zd y143),Sim Tryz.prog GL0 78 [.val false [.ptr 0 1 0 0],.val true (pvL (Zd y143)),one (.int .i64 y142.1)] [.box [.arr 1 y142.2.f_nodes.length,.pv (.int .i64 y142.2.f_first)],.arr 3 (y142.2.f_nodes.map Zh)] (one (.int .i64 y144.1)) [.box [.arr 1 y144.2.f_nodes.length,.pv (.int .i64 y144.2.f_first)],.arr 3 (y144.2.f_nodes.map Zh)],([0,1]:List Nat).Nodup]) kr (sound _ _) ⟨(Z6 hy143),(IH78 _ _ _ _ hy144),(by decide),trivial⟩ ?_
 refine WA.seq ?_
 obtain ⟨hc145,hF⟩:=Zl hF
 obtain ⟨y146,hy146,hF⟩:=bind_some hF
 obtain ⟨hx147,hF⟩:=Zl hF
 obtain ⟨hc148,hF⟩:=Zl hF
 obtain ⟨hc149,hF⟩:=Zl hF
 obtain ⟨y150,hy150,hF⟩:=bind_some hF
 have z0:y142.1<((y144.2.f_nodes.length:Nat):Int):=(by have h_:=hc145.2;(try simp only [zl,Zf] at h_ ⊢);omega)
 refine WA.rdm (α:=Nat×(List (List PV))) (raw:=(y144.2.f_nodes.length,((y144.2.f_nodes.map Zh).set (Int.toNat y142.1) [.sl (y150.f_set.map Za),.bool y150.f_some,.sl ((y146.f_next.map (eInt .i64)) ++ (([y144.1]:List Int).map (eInt .i64)))]))) (can:=((y144.2.f_nodes.set (Int.toNat y142.1) ({ y150 with f_next:=(y146.f_next ++ ([y144.1]:List Int)),f_x:=false }:Zq)).length,((y144.2.f_nodes.set (Int.toNat y142.1) ({ y150 with f_next:=(y146.f_next ++ ([y144.1]:List Int)),f_x:=false }:Zq)).map Zh))) (fun m_=>([(0,.val false [.ptr 0 1 0 0]),(4,.val false [.ptr 104 1 0 0]),(11,one (.int .i64 y142.1))],[(0,.box [.arr 1 m_.1,.pv (.int .i64 y144.2.f_first)]),(1,.arr 3 m_.2),(104,.box (pvL (Zd v1)))],[y144.2.f_nodes.length=(y144.2.f_nodes.map Zh).length,(0:Int)≤y142.1,y142.1<((y144.2.f_nodes.length:Nat):Int),y144.2.f_nodes.length=(y144.2.f_nodes.map Zh).length,0<y144.2.f_nodes.length,y144.2.f_nodes.length=(y144.2.f_nodes.map Zh).length,(y144.2.f_nodes.map Zh)[Int.toNat y142.1]?=some [.sl (y146.f_set.map Za),.bool y146.f_some,.slc (y146.f_next.map (eInt .i64))],(y146.f_next.map (eInt .i64)).length+(([y144.1]:List Int).map (eInt .i64)).length≤1073741824,∀es,es∈(y146.f_next.map (eInt .i64))→es.length=1,∀es,es∈(([y144.1]:List Int).map (eInt .i64))→es.length=1,y144.2.f_nodes.length=(y144.2.f_nodes.map Zh).length,(0:Int)≤y142.1,y142.1<((y144.2.f_nodes.length:Nat):Int),y144.2.f_nodes.length=(y144.2.f_nodes.map Zh).length,0<y144.2.f_nodes.length,y144.2.f_nodes.length=(y144.2.f_nodes.map Zh).length,(y144.2.f_nodes.map Zh)[Int.toNat y142.1]?=some (Zh y150)])) (ZH (by first | (simp only [zl,Zf];done) | (simp only [zl,Zf];omega) | omega) (by first | (simp only [zr,Zc3,Zn];done) | (simp only [zq,Zbg];done) | (simp only [zq,Zbg,Zh,cond];done))) [0,4,11] [0,1,104] [(12,.cells [.sl (y146.f_set.map Za),.bool y146.f_some,.slc (y146.f_next.map (eInt .i64))]),(18,.cells (Zh y150))] kr kr kr (sound _ _) ⟨zt,hc145.1,z0,zt,(by omega),zt,(by have h_:=Zo (Zp Zh hy146);simp only [Zh,hx147,cond] at h_;exact h_),(by first | exact hc148 | (simp only [List.length_map,Zf];exact hc148)),(Zft _ _ _ (fun _=>rfl)),(Zft _ _ _ (fun _=>rfl)),zt,hc149.1,z0,zt,(by omega),zt,(Zo (Zp _ hy150)),trivial⟩ ?_
 refine WA.reg [0,2,4] [0,1,104] [] (env':=[(0,.val false [.ptr 0 1 0 0]),(2,one (.int .i64 y142.1)),(4,.val false [.ptr 104 1 0 0])]) (os':=[(0,.box [.arr 1 ((y144.2.f_nodes.set (Int.toNat y142.1) ({ y150 with f_next:=(y146.f_next ++ ([y144.1]:List Int)),f_x:=false }:Zq)).length),.pv (.int .i64 y144.2.f_first)]),(1,.arr 3 ((y144.2.f_nodes.set (Int.toNat y142.1) ({ y150 with f_next:=(y146.f_next ++ ([y144.1]:List Int)),f_x:=false }:Zq)).map Zh)),(104,.box (pvL (Zd v1)))]) (O:=[]) kr (sound _ _) trivial ?_
 exact ⟨({ y144.2 with f_nodes:=(y144.2.f_nodes.set (Int.toNat y142.1) ({ y150 with f_next:=(y146.f_next ++ ([y144.1]:List Int)),f_x:=false }:Zq)) }:Zm),y142.1,kr,kr,hF⟩ }
 {
 have hF:=Zj hF hb141
 refine WA.seq ?_
 refine WA.reg [0,2,4,13] [0,1,104] [] (env':=[(0,.val false [.ptr 0 1 0 0]),(2,one (.int .i64 v2)),(4,.val false [.ptr 104 1 0 0]),(13,one (.int .i64 v2))]) (os':=[(0,.box [.arr 1 v0.f_nodes.length,.pv (.int .i64 v0.f_first)]),(1,.arr 3 (v0.f_nodes.map Zh)),(104,.box (pvL (Zd v1)))]) (O:=[]) kr (sound _ _) trivial ?_
 refine WA.seq ?_
 refine WA.reg [0,2,4,13,104,105] [0,1,104] [] (env':=[(0,.val false [.ptr 0 1 0 0]),(2,one (.int .i64 v2)),(4,.val false [.ptr 104 1 0 0]),(13,one (.int .i64 v2)),(104,one (.int .i64 (w64 (v1.f_Max-v1.f_Min)))),(105,one (.int .i64 0))]) (os':=[(0,.box [.arr 1 v0.f_nodes.length,.pv (.int .i64 v0.f_first)]),(1,.arr 3 (v0.f_nodes.map Zh)),(104,.box (pvL (Zd v1)))]) (O:=[]) kr (sound _ _) trivial ?_
 refine WA.block ?_
 refine WA.loop (fun m s_=>∃(v162:Zm) (v163:Int) (v164:Int),Zi s_.env [0,2,4,13,104,105]=[(0,.val false [.ptr 0 1 0 0]),(2,one (.int .i64 v163)),(4,.val false [.ptr 104 1 0 0]),(13,one (.int .i64 v2)),(104,one (.int .i64 (w64 (v1.f_Max-v1.f_Min)))),(105,one (.int .i64 v164))]∧Zi s_.os [0,1,104]=[(0,.box [.arr 1 v162.f_nodes.length,.pv (.int .i64 v162.f_first)]),(1,.arr 3 (v162.f_nodes.map Zh)),(104,.box (pvL (Zd v1)))]∧ZeD R78 k v1 v2 m v162 v163 v164=some r) k ⟨v0,v2,0,kr,kr,hF⟩ ?_
 clear hF
 rintro m2 s_ ⟨v162,v163,v164,he,ho,hF⟩
 refine WA.keep _ _ he ho ?_
 clear he ho
 cases m2 with
 | zero=>cases hF
 | succ m2=>
  obtain ⟨self2,hself2⟩:∃g,g=ZeD R78 k v1 v2 m2:=⟨_,rfl⟩
  have hF:ZdF R78 k self2 v1 v2 v162 v163 v164=some r:=by first | (rw [hself2];exact hF) | exact hF
  refine WA.seq ?_
  refine WA.reg [0,2,4,13,104,105,106] [0,1,104] [] (env':=[(0,.val false [.ptr 0 1 0 0]),(2,one (.int .i64 v163)),(4,.val false [.ptr 104 1 0 0]),(13,one (.int .i64 v2)),(104,one (.int .i64 (w64 (v1.f_Max-v1.f_Min)))),(105,one (.int .i64 v164)),(106,one (.bool (decide (v164<(w64 (v1.f_Max-v1.f_Min))))))]) (os':=[(0,.box [.arr 1 v162.f_nodes.length,.pv (.int .i64 v162.f_first)]),(1,.arr 3 (v162.f_nodes.map Zh)),(104,.box (pvL (Zd v1)))]) (O:=[]) kr (sound _ _) trivial ?_
  refine WA.seq ?_
  refine WA.cond (b:=(decide (v164<(w64 (v1.f_Max-v1.f_Min))))) rfl (fun hb165=>?_) (fun hb165=>?_)
  {
 have hF:=Zk hF hb165
 refine WA.skip ?_
 refine WA.seq ?_
 refine WA.block ?_
 obtain ⟨y166,hy166,hF⟩:=bind_some hF
 obtain ⟨y167,hy167,hF⟩:=bind_some hF
 obtain ⟨y168,hy168,hF⟩:=bind_some hF
 refine WA.reg [0,2,4,13,104,105] [0,1,104] [(5,.cells (Zd y166)),(8,.call [0,1] (one (.int .i64 y167.1)) [.box [.arr 1 y167.2.f_nodes.length,.pv (.int .i64 y167.2.f_first)],.arr 3 (y167.2.f_nodes.map Zh)] []),(11,.call [0,1] (one (.int .i64 y168.1)) [.box [.arr 1 y168.2.f_nodes.length,.pv (.int .i64 y168.2.f_first)],.arr 3 (y168.2.f_nodes.map Zh)] [])] (env':=[(0,.val false [.ptr 0 1 0 0]),(2,one (.int .i64 y168.1)),(4,.val false [.ptr 104 1 0 0]),(13,one (.int .i64 v2)),(104,one (.int .i64 (w64 (v1.f_Max-v1.f_Min)))),(105,one (.int .i64 v164))]) (os':=[(0,.box [.arr 1 y168.2.f_nodes.length,.pv (.int .i64 y168.2.f_first)]),(1,.arr 3 (y168.2.f_nodes.map Zh)),(104,.box (pvL (Zd v1)))]) (O:=[idxL (Zn v1.f_L) 0=some (Zd y166),Sim Tryz.prog GL0 78 [.val false [.ptr 0 1 0 0],.val true (pvL (Zd y166)),one (.int .i64 v163)] [.box [.arr 1 v162.f_nodes.length,.pv (.int .i64 v162.f_first)],.arr 3 (v162.f_nodes.map Zh)] (one (.int .i64 y167.1)) [.box [.arr 1 y167.2.f_nodes.length,.pv (.int .i64 y167.2.f_first)],.arr 3 (y167.2.f_nodes.map Zh)],([0,1]:List Nat).Nodup,Sim Tryz.prog GL0 105 [.val false [.ptr 0 1 0 0],.val true (pvL (Zh (⟨([]:List Zb),false,([v2,y167.1]:List Int),false⟩:Zq)))] [.box [.arr 1 y167.2.f_nodes.length,.pv (.int .i64 y167.2.f_first)],.arr 3 (y167.2.f_nodes.map Zh)] (one (.int .i64 y168.1)) [.box [.arr 1 y168.2.f_nodes.length,.pv (.int .i64 y168.2.f_first)],.arr 3 (y168.2.f_nodes.map Zh)],([0,1]:List Nat).Nodup]) kr (sound _ _) ⟨(Z6 hy166),(IH78 _ _ _ _ hy167),(by decide),(Ze9 k _ _ _ hy168),(by decide),trivial⟩ ?_
 refine WA.reg [0,2,4,13,104,105] [0,1,104] [] (env':=[(0,.val false [.ptr 0 1 0 0]),(2,one (.int .i64 y168.1)),(4,.val false [.ptr 104 1 0 0]),(13,one (.int .i64 v2)),(104,one (.int .i64 (w64 (v1.f_Max-v1.f_Min)))),(105,one (.int .i64 (w64 (v164+1))))]) (os':=[(0,.box [.arr 1 y168.2.f_nodes.length,.pv (.int .i64 y168.2.f_first)]),(1,.arr 3 (y168.2.f_nodes.map Zh)),(104,.box (pvL (Zd v1)))]) (O:=[]) kr (sound _ _) trivial ?_
 exact ⟨m2,Nat.lt_succ_self _,y168.2,y168.1,(w64 (v164+1)),kr,kr,by rw [hself2] at hF;exact hF⟩ }
  {
 have hF:=Zj hF hb165
 refine WA.exit ?_
 exact ⟨v162,v163,kr,kr,hF⟩ } } } } } }
def F78:Nat→Zm→Ze→Int→Option (Int×Zm)
  | 0,_,_,_=>none
  | k+1,v0,v1,v2=>ZhX (F78 k) k v0 v1 v2
theorem Zkc:∀(k:Nat),∀(v0:Zm) (v1:Ze) (v2:Int) (r:Int×Zm),F78 k v0 v1 v2=some r→Sim Tryz.prog GL0 78 [.val false [.ptr 0 1 0 0],.val true (pvL (Zd v1)),one (.int .i64 v2)] [.box [.arr 1 v0.f_nodes.length,.pv (.int .i64 v0.f_first)],.arr 3 (v0.f_nodes.map Zh)] (one (.int .i64 r.1)) [.box [.arr 1 r.2.f_nodes.length,.pv (.int .i64 r.2.f_first)],.arr 3 (r.2.f_nodes.map Zh)]
  | 0=>fun _ _ _ _ hF=>by cases hF
  | k+1=>fun v0 v1 v2 r hF=>ZkZ (F78 k) (Zkc k) k v0 v1 v2 r hF
end Go.Proofs.YthilboheomikjaaGreatDoor
end
section
namespace Go.Proofs.YthilboheomikjaaGreatDoor
open Go.AL
set_option maxRecDepth 100000
def ZdH (R79:Zm→(List Int)→(List Bool)→Int→Option ((List Int)×(List Bool))) (self1:(List Int)→(List Bool)→Int→Option ((List Int)×(List Bool))) (v0:Zm) (y106:Zq) (v123:List Int) (v124:List Bool) (v127:Int):Option ((List Int)×(List Bool)):=
  (cond (decide (v127<(y106.f_next.length:Int))) ((idxL y106.f_next v127).bind fun y129=>(R79 v0 v123 v124 y129).bind fun y130=>if y130.2.length=v124.length then (self1 y130.1 y130.2 (w64 (v127+1))) else none) (((some (v123,v124)))))
def ZcE (R79:Zm→(List Int)→(List Bool)→Int→Option ((List Int)×(List Bool))) (v0:Zm) (y106:Zq):Nat→(List Int)→(List Bool)→Int→Option ((List Int)×(List Bool))
  | 0,_,_,_=>none
  | m_+1,v123,v124,v127=>ZdH R79 (ZcE R79 v0 y106 m_) v0 y106 v123 v124 v127
def Zgc (R79:Zm→(List Int)→(List Bool)→Int→Option ((List Int)×(List Bool))) (k:Nat) (v0:Zm) (v1:List Int) (v2:List Bool) (v3:Int) (y106:Zq) (v108:Bool):Option ((List Int)×(List Bool)):=
  cond v108 ((ZcE R79 v0 y106 k v1 (v2.set (Int.toNat v3) true) 0)) ((if v1.length+([v3]:List Int).length≤1073741824 then (some ((v1 ++ ([v3]:List Int)),(v2.set (Int.toNat v3) true))) else none))
def ZhY (R79:Zm→(List Int)→(List Bool)→Int→Option ((List Int)×(List Bool))) (k:Nat) (v0:Zm) (v1:List Int) (v2:List Bool) (v3:Int):Option ((List Int)×(List Bool)):=
  (if (0:Int)≤v3∧v3<(v2.length:Int) then (idxL v2 v3).bind fun y102=>(cond y102 ((some (v1,v2))) ((if (0:Int)≤v3∧v3<(v2.length:Int) then (idxL v2 v3).bind fun y105=>(idxL v0.f_nodes v3).bind fun y106=>(cond (!y106.f_some) ((Zgc R79 k v0 v1 v2 v3 y106 (v3 != 0))) ((Zgc R79 k v0 v1 v2 v3 y106 false))) else none))) else none)
theorem Zk0 (R79:Zm→(List Int)→(List Bool)→Int→Option ((List Int)×(List Bool))) (IH79:∀(v0:Zm) (v1:List Int) (v2:List Bool) (v3:Int) (r:(List Int)×(List Bool)),R79 v0 v1 v2 v3=some r→∀{n1:Nat},n1=v1.length→∀{n2:Nat},n2=v2.length→Sim Tryz.prog GL0 79 [.val false [.vp (Zr v0)],.val false [.arr 0 n1],.val false [.arr 1 n2],one (.int .i64 v3)] [.arr 1 (v1.map (eInt .i64)),.arr 1 (v2.map Zv)] (.val false [.arr 0 r.1.length]) [.arr 1 (r.1.map (eInt .i64)),.arr 1 (r.2.map Zv)]) (k:Nat) (v0:Zm) (v1:List Int) (v2:List Bool) (v3:Int) (r:(List Int)×(List Bool)) (hF:ZhY R79 k v0 v1 v2 v3=some r) {n1:Nat} (hn_n1:n1=v1.length) {n2:Nat} (hn_n2:n2=v2.length):Sim Tryz.prog GL0 79 [.val false [.vp (Zr v0)],.val false [.arr 0 n1],.val false [.arr 1 n2],one (.int .i64 v3)] [.arr 1 (v1.map (eInt .i64)),.arr 1 (v2.map Zv)] (.val false [.arr 0 r.1.length]) [.arr 1 (r.1.map (eInt .i64)),.arr 1 (r.2.map Zv)]:=by
 refine ZC [0,1] Tryz.func79 rfl kr kr ?_
 show WA _ _ 52 _ _ _
 refine WA.seq ?_
 refine WA.reg [0,1,2,3] [0,1] [] (env':=[(0,.val false [.vp (Zr v0)]),(1,.val false [.arr 0 n1]),(2,.val false [.arr 1 n2]),(3,one (.int .i64 v3))]) (os':=[(0,.arr 1 (v1.map (eInt .i64))),(1,.arr 1 (v2.map Zv))]) (O:=[]) kr (sound _ _) trivial ?_
 refine WA.seq ?_
 refine WA.seq ?_
 obtain ⟨hc101,hF⟩:=Zl hF
 obtain ⟨y102,hy102,hF⟩:=bind_some hF
 refine WA.reg [0,1,2,3,15] [0,1] [(3,.cells [.bool y102])] (env':=[(0,.val false [.vp (Zr v0)]),(1,.val false [.arr 0 n1]),(2,.val false [.arr 1 n2]),(3,one (.int .i64 v3)),(15,one (.bool y102))]) (os':=[(0,.arr 1 (v1.map (eInt .i64))),(1,.arr 1 (v2.map Zv))]) (O:=[n2=(v2.map Zv).length,(0:Int)≤v3,v3<((n2:Nat):Int),n2=(v2.map Zv).length,(v2.map Zv)[Int.toNat v3]?=some [.bool y102]]) kr (sound _ _) ⟨zt,hc101.1,(by have h_:=hc101.2;(try simp only [zl,Zf] at h_ ⊢);omega),zt,(Zo (Zp _ hy102)),trivial⟩ ?_
 refine WA.cond (b:=y102) rfl (fun hb103=>?_) (fun hb103=>?_)
 {
 have hF:=Zk hF hb103
 refine WA.seq ?_
 refine WA.reg [8] [0,1] [] (env':=[(8,.val false [.arr 0 n1])]) (os':=[(0,.arr 1 (v1.map (eInt .i64))),(1,.arr 1 (v2.map Zv))]) (O:=[]) kr (sound _ _) trivial ?_
 refine WA.ret ?_
 obtain rfl:=Option.some.inj hF
 exact Zu (.val false [.arr 0 n1]) [.arr 1 (v1.map (eInt .i64)),.arr 1 (v2.map Zv)] kr (by have h0_:n1=(v1:List _).length:=zt;rw [h0_] <;> rfl) kr kr (by decide) rfl rfl }
 {
 have hF:=Zj hF hb103
 refine WA.skip ?_
 refine WA.seq ?_
 obtain ⟨hc104,hF⟩:=Zl hF
 obtain ⟨y105,hy105,hF⟩:=bind_some hF
 refine WA.rm (α:=(List (List PV))) (raw:=((v2.map Zv).set (Int.toNat v3) (Zv true))) (can:=((v2.set (Int.toNat v3) true).map Zv)) (fun m_=>([(0,.val false [.vp (Zr v0)]),(1,.val false [.arr 0 n1]),(2,.val false [.arr 1 n2]),(3,one (.int .i64 v3))],[(0,.arr 1 (v1.map (eInt .i64))),(1,.arr 1 m_)],[n2=(v2.map Zv).length,(0:Int)≤v3,v3<((n2:Nat):Int),n2=(v2.map Zv).length,(v2.map Zv)[Int.toNat v3]?=some [.bool y105]])) (zm) [0,1,2,3] [0,1] [(3,.cells [.bool y105])] kr (sound _ _) ⟨zt,hc104.1,(by have h_:=hc104.2;(try simp only [zl,Zf] at h_ ⊢);omega),zt,(Zo (Zp _ hy105)),trivial⟩ ?_
 refine WA.seq ?_
 refine WA.seq ?_
 obtain ⟨y106,hy106,hF⟩:=bind_some hF
 refine WA.reg [0,1,2,3,9] [0,1,109] [(5,.cells (ZE y106)),(7,.obj 109)] (env':=[(0,.val false [.vp (Zr v0)]),(1,.val false [.arr 0 n1]),(2,.val false [.arr 1 n2]),(3,one (.int .i64 v3)),(9,.val false [.ptr 109 1 0 0])]) (os':=[(0,.arr 1 (v1.map (eInt .i64))),(1,.arr 1 ((v2.set (Int.toNat v3) true).map Zv)),(109,.box (pvL (ZE y106)))]) (O:=[idxL (v0.f_nodes.map ZE) v3=some (ZE y106)]) kr (sound _ _) ⟨(Zp _ hy106),trivial⟩ ?_
 refine WA.join (fun s_=>∃(v108:Bool),Zi s_.env [0,1,2,3,9,33]=[(0,.val false [.vp (Zr v0)]),(1,.val false [.arr 0 n1]),(2,.val false [.arr 1 n2]),(3,one (.int .i64 v3)),(9,.val false [.ptr 109 1 0 0]),(33,one (.bool v108))]∧Zi s_.os [0,1,109]=[(0,.arr 1 (v1.map (eInt .i64))),(1,.arr 1 ((v2.set (Int.toNat v3) true).map Zv)),(109,.box (pvL (ZE y106)))]∧Zgc R79 k v0 v1 v2 v3 y106 v108=some r) ?_ ?_
 {
 rintro s_ ⟨v108,he,ho,hF⟩
 refine WA.keep _ _ he ho ?_
 clear he ho
 refine WA.cond (b:=v108) rfl (fun hb109=>?_) (fun hb109=>?_)
 {
 have hF:=Zk hF hb109
 refine WA.seq ?_
 refine WA.seq ?_
 refine WA.rm (α:=Int) (raw:=((y106.f_next.map (eInt .i64)).length:Int)) (can:=(y106.f_next.length:Int)) (fun m_=>([(0,.val false [.vp (Zr v0)]),(1,.val false [.arr 0 n1]),(2,.val false [.arr 1 n2]),(35,one (.sl (y106.f_next.map (eInt .i64)))),(36,one (.int .i64 m_)),(37,one (.int .i64 0))],[(0,.arr 1 (v1.map (eInt .i64))),(1,.arr 1 ((v2.set (Int.toNat v3) true).map Zv))],[])) ((by first | (simp only [zl,Zf];done) | (simp only [zl,Zf];omega) | omega)) [0,1,2,35,36,37] [0,1] [] kr (sound _ _) trivial ?_
 refine WA.block ?_
 refine WA.loop (fun m s_=>∃(v123:List Int) (v124:List Bool) (v125:Nat) (v126:Nat) (v127:Int),Zi s_.env [0,1,2,35,36,37]=[(0,.val false [.vp (Zr v0)]),(1,.val false [.arr 0 v125]),(2,.val false [.arr 1 v126]),(35,one (.sl (y106.f_next.map (eInt .i64)))),(36,one (.int .i64 (y106.f_next.length:Int))),(37,one (.int .i64 v127))]∧Zi s_.os [0,1]=[(0,.arr 1 (v123.map (eInt .i64))),(1,.arr 1 (v124.map Zv))]∧v125=(v123:List _).length∧v126=(v124:List _).length∧ZcE R79 v0 y106 m v123 v124 v127=some r) k ⟨v1,(v2.set (Int.toNat v3) true),n1,n2,0,kr,kr,zt,zt,hF⟩ ?_
 clear hF
 rintro m1 s_ ⟨v123,v124,v125,v126,v127,he,ho,hn_v125,hn_v126,hF⟩
 refine WA.keep _ _ he ho ?_
 clear he ho
 cases m1 with
 | zero=>cases hF
 | succ m1=>
  obtain ⟨self1,hself1⟩:∃g,g=ZcE R79 v0 y106 m1:=⟨_,rfl⟩
  have hF:ZdH R79 self1 v0 y106 v123 v124 v127=some r:=by first | (rw [hself1];exact hF) | exact hF
  refine WA.seq ?_
  refine WA.reg [0,1,2,35,36,37,38] [0,1] [] (env':=[(0,.val false [.vp (Zr v0)]),(1,.val false [.arr 0 v125]),(2,.val false [.arr 1 v126]),(35,one (.sl (y106.f_next.map (eInt .i64)))),(36,one (.int .i64 (y106.f_next.length:Int))),(37,one (.int .i64 v127)),(38,one (.bool (decide (v127<(y106.f_next.length:Int)))))]) (os':=[(0,.arr 1 (v123.map (eInt .i64))),(1,.arr 1 (v124.map Zv))]) (O:=[]) kr (sound _ _) trivial ?_
  refine WA.seq ?_
  refine WA.cond (b:=(decide (v127<(y106.f_next.length:Int)))) rfl (fun hb128=>?_) (fun hb128=>?_)
  {
 have hF:=Zk hF hb128
 refine WA.skip ?_
 refine WA.seq ?_
 refine WA.block ?_
 refine WA.seq ?_
 obtain ⟨y129,hy129,hF⟩:=bind_some hF
 refine WA.reg [0,1,2,11,35,36,37] [0,1] [(0,.cells [.int .i64 y129])] (env':=[(0,.val false [.vp (Zr v0)]),(1,.val false [.arr 0 v125]),(2,.val false [.arr 1 v126]),(11,one (.int .i64 y129)),(35,one (.sl (y106.f_next.map (eInt .i64)))),(36,one (.int .i64 (y106.f_next.length:Int))),(37,one (.int .i64 v127))]) (os':=[(0,.arr 1 (v123.map (eInt .i64))),(1,.arr 1 (v124.map Zv))]) (O:=[idxL (y106.f_next.map (eInt .i64)) v127=some [.int .i64 y129]]) kr (sound _ _) ⟨(Zp _ hy129),trivial⟩ ?_
 obtain ⟨y130,hy130,hF⟩:=bind_some hF
 obtain ⟨hl131,hF⟩:=Zl hF
 refine WA.reg [0,1,2,35,36,37] [0,1] [(4,.call [0,1] (.val false [.arr 0 y130.1.length]) [.arr 1 (y130.1.map (eInt .i64)),.arr 1 (y130.2.map Zv)] [])] (env':=[(0,.val false [.vp (Zr v0)]),(1,.val false [.arr 0 y130.1.length]),(2,.val false [.arr 1 v126]),(35,one (.sl (y106.f_next.map (eInt .i64)))),(36,one (.int .i64 (y106.f_next.length:Int))),(37,one (.int .i64 v127))]) (os':=[(0,.arr 1 (y130.1.map (eInt .i64))),(1,.arr 1 (y130.2.map Zv))]) (O:=[Sim Tryz.prog GL0 79 [.val false [.vp (Zr v0)],.val false [.arr 0 v125],.val false [.arr 1 v126],one (.int .i64 y129)] [.arr 1 (v123.map (eInt .i64)),.arr 1 (v124.map Zv)] (.val false [.arr 0 y130.1.length]) [.arr 1 (y130.1.map (eInt .i64)),.arr 1 (y130.2.map Zv)],([0,1]:List Nat).Nodup]) kr (sound _ _) ⟨(IH79 _ _ _ _ _ hy130 (n1:=v125) zt (n2:=v126) zt),(by decide),trivial⟩ ?_
 refine WA.reg [0,1,2,35,36,37] [0,1] [] (env':=[(0,.val false [.vp (Zr v0)]),(1,.val false [.arr 0 y130.1.length]),(2,.val false [.arr 1 v126]),(35,one (.sl (y106.f_next.map (eInt .i64)))),(36,one (.int .i64 (y106.f_next.length:Int))),(37,one (.int .i64 (w64 (v127+1))))]) (os':=[(0,.arr 1 (y130.1.map (eInt .i64))),(1,.arr 1 (y130.2.map Zv))]) (O:=[]) kr (sound _ _) trivial ?_
 exact ⟨m1,Nat.lt_succ_self _,y130.1,y130.2,y130.1.length,v126,(w64 (v127+1)),kr,kr,zt,zt,by rw [hself1] at hF;exact hF⟩ }
  {
 have hF:=Zj hF hb128
 refine WA.exit ?_
 refine WA.seq ?_
 refine WA.reg [8] [0,1] [] (env':=[(8,.val false [.arr 0 v125])]) (os':=[(0,.arr 1 (v123.map (eInt .i64))),(1,.arr 1 (v124.map Zv))]) (O:=[]) kr (sound _ _) trivial ?_
 refine WA.ret ?_
 obtain rfl:=Option.some.inj hF
 exact Zu (.val false [.arr 0 v125]) [.arr 1 (v123.map (eInt .i64)),.arr 1 (v124.map Zv)] kr (by have h0_:v125=(v123:List _).length:=zt;rw [h0_] <;> rfl) kr kr (by decide) rfl rfl } }
 {
 have hF:=Zj hF hb109
 refine WA.skip ?_
 refine WA.seq ?_
 obtain ⟨hc132,hF⟩:=Zl hF
 refine WA.rm (α:=(List (List PV))) (raw:=((v1.map (eInt .i64)) ++ (([v3]:List Int).map (eInt .i64)))) (can:=((v1 ++ ([v3]:List Int)).map (eInt .i64))) (fun m_=>([(8,.val false [.arr 0 (n1+1)])],[(0,.arr 1 m_),(1,.arr 1 ((v2.set (Int.toNat v3) true).map Zv))],[n1=(v1.map (eInt .i64)).length,(v1.map (eInt .i64)).length+(([v3]:List Int).map (eInt .i64)).length≤1073741824,∀es,es∈(([v3]:List Int).map (eInt .i64))→es.length=1])) (zm) [8] [0,1] [] kr (sound _ _) ⟨zt,(by first | exact hc132 | (simp only [List.length_map,Zf];exact hc132)),(Zft _ _ _ (fun _=>rfl)),trivial⟩ ?_
 refine WA.ret ?_
 obtain rfl:=Option.some.inj hF
 exact Zu (.val false [.arr 0 (n1+1)]) [.arr 1 ((v1 ++ ([v3]:List Int)).map (eInt .i64)),.arr 1 ((v2.set (Int.toNat v3) true).map Zv)] kr (by have h0_:(n1+1)=((v1 ++ ([v3]:List Int)):List _).length:=zt;rw [h0_] <;> rfl) kr kr (by decide) rfl rfl } }
 {
 rcases Bool.eq_false_or_eq_true (!y106.f_some) with hb107 | hb107
 {
 have hF:=Zk hF hb107
 refine WA.reg [0,1,2,3,9,33] [0,1,109] [(3,.bool true)] (env':=[(0,.val false [.vp (Zr v0)]),(1,.val false [.arr 0 n1]),(2,.val false [.arr 1 n2]),(3,one (.int .i64 v3)),(9,.val false [.ptr 109 1 0 0]),(33,one (.bool (v3 != 0)))]) (os':=[(0,.arr 1 (v1.map (eInt .i64))),(1,.arr 1 ((v2.set (Int.toNat v3) true).map Zv)),(109,.box (pvL (ZE y106)))]) (O:=[(!y106.f_some)=true]) kr (sound _ _) ⟨hb107,trivial⟩ ?_
 exact ⟨(v3 != 0),kr,kr,hF⟩ }
 {
 have hF:=Zj hF hb107
 refine WA.reg [0,1,2,3,9,33] [0,1,109] [(3,.bool false)] (env':=[(0,.val false [.vp (Zr v0)]),(1,.val false [.arr 0 n1]),(2,.val false [.arr 1 n2]),(3,one (.int .i64 v3)),(9,.val false [.ptr 109 1 0 0]),(33,one (.bool false))]) (os':=[(0,.arr 1 (v1.map (eInt .i64))),(1,.arr 1 ((v2.set (Int.toNat v3) true).map Zv)),(109,.box (pvL (ZE y106)))]) (O:=[(!y106.f_some)=false]) kr (sound _ _) ⟨hb107,trivial⟩ ?_
 exact ⟨false,kr,kr,hF⟩ } } }
def F79:Nat→Zm→(List Int)→(List Bool)→Int→Option ((List Int)×(List Bool))
  | 0,_,_,_,_=>none
  | k+1,v0,v1,v2,v3=>ZhY (F79 k) k v0 v1 v2 v3
theorem Zie:∀(k:Nat),∀(v0:Zm) (v1:List Int) (v2:List Bool) (v3:Int) (r:(List Int)×(List Bool)),F79 k v0 v1 v2 v3=some r→∀{n1:Nat},n1=v1.length→∀{n2:Nat},n2=v2.length→Sim Tryz.prog GL0 79 [.val false [.vp (Zr v0)],.val false [.arr 0 n1],.val false [.arr 1 n2],one (.int .i64 v3)] [.arr 1 (v1.map (eInt .i64)),.arr 1 (v2.map Zv)] (.val false [.arr 0 r.1.length]) [.arr 1 (r.1.map (eInt .i64)),.arr 1 (r.2.map Zv)]
  | 0=>fun _ _ _ _ _ hF=>by cases hF
  | k+1=>fun v0 v1 v2 v3 r hF=>Zk0 (F79 k) (Zie k) k v0 v1 v2 v3 r hF
def Zdt (self19:(List Int)→(List Bool)→Int→Option (List Int)) (v254:Int) (v264:List Int) (v265:List Bool):Option (List Int):=
  self19 v264 v265 (w64 (v254+1))
def ZbB (k:Nat) (self19:(List Int)→(List Bool)→Int→Option (List Int)) (v0:Zm) (y217:Int) (v250:List Int) (v251:List Bool) (v254:Int) (v258:Bool):Option (List Int):=
  cond v258 ((idxL v0.f_nodes y217).bind fun y260=>(idxL y260.f_next 0).bind fun y261=>(F79 k v0 v250 v251 y261).bind fun y262=>if y262.2.length=v251.length then (Zdt self19 v254 y262.1 y262.2) else none) ((Zdt self19 v254 v250 v251))
def Zcr (k:Nat) (self14:(List Int)→(List Bool)→Int→Option (List Int)) (self19:(List Int)→(List Bool)→Int→Option (List Int)) (v0:Zm) (v2:Int) (v215:Int) (y217:Int) (y218:Zq) (v250:List Int) (v251:List Bool) (v254:Int):Option (List Int):=
  (cond (decide (v254<(y218.f_set.length:Int))) ((idxL y218.f_set v254).bind fun y256=>(cond (decide (v2≥y256.f_Lo)) ((ZbB k self19 v0 y217 v250 v251 v254 (decide (v2≤y256.f_Hi)))) ((ZbB k self19 v0 y217 v250 v251 v254 false)))) ((self14 v250 v251 (w64 (v215+1)))))
def Zbl (k:Nat) (self14:(List Int)→(List Bool)→Int→Option (List Int)) (v0:Zm) (v2:Int) (v215:Int) (y217:Int) (y218:Zq):Nat→(List Int)→(List Bool)→Int→Option (List Int)
  | 0,_,_,_=>none
  | m_+1,v250,v251,v254=>Zcr k self14 (Zbl k self14 v0 v2 v215 y217 y218 m_) v0 v2 v215 y217 y218 v250 v251 v254
def Zcq (k:Nat) (self14:(List Int)→(List Bool)→Int→Option (List Int)) (v0:Zm) (v1:List Int) (v2:Int) (v211:List Int) (v212:List Bool) (v215:Int):Option (List Int):=
  (cond (decide (v215<(v1.length:Int))) ((idxL v1 v215).bind fun y217=>(idxL v0.f_nodes y217).bind fun y218=>(Zbl k self14 v0 v2 v215 y217 y218 k v211 v212 0)) (((some v211))))
def ZbC (k:Nat) (v0:Zm) (v1:List Int) (v2:Int):Nat→(List Int)→(List Bool)→Int→Option (List Int)
  | 0,_,_,_=>none
  | m_+1,v211,v212,v215=>Zcq k (ZbC k v0 v1 v2 m_) v0 v1 v2 v211 v212 v215
def F56 (k:Nat) (v0:Zm) (v1:List Int) (v2:Int):Option (List Int):=
  ((if (0:Int)≤(v0.f_nodes.length:Int)∧((v0.f_nodes.length:Int):Int)≤1073741824 then ((ZbC k v0 v1 v2 k ([]:List Int) (List.replicate (Int.toNat (v0.f_nodes.length:Int)) false) 0)) else none))
theorem ZmD (k:Nat) (v0:Zm) (v1:List Int) (v2:Int) (r:List Int) (hF:F56 k v0 v1 v2=some r):Sim Tryz.prog GL0 56 [.val false [.vp (Zr v0)],one (.sl (v1.map (eInt .i64))),one (.int .i64 v2)] [] (one (.sl (r.map (eInt .i64)))) []:=by
 refine ZC [] Tryz.func56 rfl kr kr ?_
 show WA _ _ 65 _ _ _
 refine WA.seq ?_
 refine WA.reg [0,1,2] [] [] (env':=[(0,.val false [.vp (Zr v0)]),(1,one (.sl (v1.map (eInt .i64)))),(2,one (.int .i64 v2))]) (os':=[]) (O:=[]) kr (sound _ _) trivial ?_
 refine WA.seq ?_
 refine WA.reg [0,1,2,7] [107] [(0,.obj 107)] (env':=[(0,.val false [.vp (Zr v0)]),(1,one (.sl (v1.map (eInt .i64)))),(2,one (.int .i64 v2)),(7,.val false [.arr 107 0])]) (os':=[(107,.arr 1 (([]:List Int).map (eInt .i64)))]) (O:=[]) kr (sound _ _) trivial ?_
 refine WA.seq ?_
 obtain ⟨hc101,hF⟩:=Zl hF
 refine WA.rm (α:=Int×(List (List PV))) (raw:=(((v0.f_nodes.map ZE).length:Int),(List.replicate (Int.toNat ((v0.f_nodes.map ZE).length:Int)) (Zv false)))) (can:=((v0.f_nodes.length:Int),((List.replicate (Int.toNat (v0.f_nodes.length:Int)) false).map Zv))) (fun m_=>([(0,.val false [.vp (Zr v0)]),(1,one (.sl (v1.map (eInt .i64)))),(2,one (.int .i64 v2)),(7,.val false [.arr 107 0]),(8,.val false [.arr 118 (Int.toNat m_.1)])],[(107,.arr 1 (([]:List Int).map (eInt .i64))),(118,.arr 1 m_.2)],[(m_.1:Int)=m_.1,(0:Int)≤m_.1,(m_.1:Int)≤1073741824])) (ZH (by first | (simp only [zl,Zf];done) | (simp only [zl,Zf];omega) | omega) zm) [0,1,2,7,8] [107,118] [(5,.obj 118)] kr (sound _ _) ⟨rfl,hc101.1,hc101.2,trivial⟩ ?_
 refine WA.seq ?_
 refine WA.seq ?_
 refine WA.rm (α:=Int) (raw:=((v1.map (eInt .i64)).length:Int)) (can:=(v1.length:Int)) (fun m_=>([(0,.val false [.vp (Zr v0)]),(2,one (.int .i64 v2)),(7,.val false [.arr 107 0]),(8,.val false [.arr 118 (Int.toNat (v0.f_nodes.length:Int))]),(19,one (.sl (v1.map (eInt .i64)))),(20,one (.int .i64 m_)),(21,one (.int .i64 0))],[(107,.arr 1 (([]:List Int).map (eInt .i64))),(118,.arr 1 ((List.replicate (Int.toNat (v0.f_nodes.length:Int)) false).map Zv))],[])) ((by first | (simp only [zl,Zf];done) | (simp only [zl,Zf];omega) | omega)) [0,2,7,8,19,20,21] [107,118] [] kr (sound _ _) trivial ?_
 refine WA.block ?_
 refine WA.loop (fun m s_=>∃(v211:List Int) (v212:List Bool) (v213:Nat) (v214:Nat) (v215:Int),Zi s_.env [0,2,7,8,19,20,21]=[(0,.val false [.vp (Zr v0)]),(2,one (.int .i64 v2)),(7,.val false [.arr 107 v213]),(8,.val false [.arr 118 v214]),(19,one (.sl (v1.map (eInt .i64)))),(20,one (.int .i64 (v1.length:Int))),(21,one (.int .i64 v215))]∧Zi s_.os [107,118]=[(107,.arr 1 (v211.map (eInt .i64))),(118,.arr 1 (v212.map Zv))]∧v213=(v211:List _).length∧v214=(v212:List _).length∧ZbC k v0 v1 v2 m v211 v212 v215=some r) k ⟨([]:List Int),(List.replicate (Int.toNat (v0.f_nodes.length:Int)) false),0,(Int.toNat (v0.f_nodes.length:Int)),0,kr,kr,zt,zt,hF⟩ ?_
 clear hF
 rintro m14 s_ ⟨v211,v212,v213,v214,v215,he,ho,hn_v213,hn_v214,hF⟩
 refine WA.keep _ _ he ho ?_
 clear he ho
 cases m14 with
 | zero=>cases hF
 | succ m14=>
  obtain ⟨self14,hself14⟩:∃g,g=ZbC k v0 v1 v2 m14:=⟨_,rfl⟩
  have hF:Zcq k self14 v0 v1 v2 v211 v212 v215=some r:=by first | (rw [hself14];exact hF) | exact hF
  refine WA.seq ?_
  refine WA.reg [0,2,7,8,19,20,21,22] [107,118] [] (env':=[(0,.val false [.vp (Zr v0)]),(2,one (.int .i64 v2)),(7,.val false [.arr 107 v213]),(8,.val false [.arr 118 v214]),(19,one (.sl (v1.map (eInt .i64)))),(20,one (.int .i64 (v1.length:Int))),(21,one (.int .i64 v215)),(22,one (.bool (decide (v215<(v1.length:Int)))))]) (os':=[(107,.arr 1 (v211.map (eInt .i64))),(118,.arr 1 (v212.map Zv))]) (O:=[]) kr (sound _ _) trivial ?_
  refine WA.seq ?_
  refine WA.cond (b:=(decide (v215<(v1.length:Int)))) rfl (fun hb216=>?_) (fun hb216=>?_)
  {
 have hF:=Zk hF hb216
 refine WA.skip ?_
 refine WA.seq ?_
 refine WA.block ?_
 refine WA.seq ?_
 obtain ⟨y217,hy217,hF⟩:=bind_some hF
 refine WA.reg [0,2,7,8,10,19,20,21] [107,118] [(0,.cells [.int .i64 y217])] (env':=[(0,.val false [.vp (Zr v0)]),(2,one (.int .i64 v2)),(7,.val false [.arr 107 v213]),(8,.val false [.arr 118 v214]),(10,one (.int .i64 y217)),(19,one (.sl (v1.map (eInt .i64)))),(20,one (.int .i64 (v1.length:Int))),(21,one (.int .i64 v215))]) (os':=[(107,.arr 1 (v211.map (eInt .i64))),(118,.arr 1 (v212.map Zv))]) (O:=[idxL (v1.map (eInt .i64)) v215=some [.int .i64 y217]]) kr (sound _ _) ⟨(Zp _ hy217),trivial⟩ ?_
 refine WA.seq ?_
 obtain ⟨y218,hy218,hF⟩:=bind_some hF
 refine WA.rm (α:=Int) (raw:=((y218.f_set.map Za).length:Int)) (can:=(y218.f_set.length:Int)) (fun m_=>([(0,.val false [.vp (Zr v0)]),(2,one (.int .i64 v2)),(7,.val false [.arr 107 v213]),(8,.val false [.arr 118 v214]),(10,one (.int .i64 y217)),(19,one (.sl (v1.map (eInt .i64)))),(20,one (.int .i64 (v1.length:Int))),(21,one (.int .i64 v215)),(32,one (.sl (y218.f_set.map Za))),(33,one (.int .i64 m_)),(34,one (.int .i64 0))],[(107,.arr 1 (v211.map (eInt .i64))),(118,.arr 1 (v212.map Zv))],[idxL (v0.f_nodes.map ZE) y217=some (ZE y218)])) ((by first | (simp only [zl,Zf];done) | (simp only [zl,Zf];omega) | omega)) [0,2,7,8,10,19,20,21,32,33,34] [107,118] [(5,.cells (ZE y218))] kr (sound _ _) ⟨(Zp _ hy218),trivial⟩ ?_
 refine WA.block ?_
 refine WA.loop (fun m s_=>∃(v250:List Int) (v251:List Bool) (v252:Nat) (v253:Nat) (v254:Int),Zi s_.env [0,2,7,8,10,19,20,21,32,33,34]=[(0,.val false [.vp (Zr v0)]),(2,one (.int .i64 v2)),(7,.val false [.arr 107 v252]),(8,.val false [.arr 118 v253]),(10,one (.int .i64 y217)),(19,one (.sl (v1.map (eInt .i64)))),(20,one (.int .i64 (v1.length:Int))),(21,one (.int .i64 v215)),(32,one (.sl (y218.f_set.map Za))),(33,one (.int .i64 (y218.f_set.length:Int))),(34,one (.int .i64 v254))]∧Zi s_.os [107,118]=[(107,.arr 1 (v250.map (eInt .i64))),(118,.arr 1 (v251.map Zv))]∧v252=(v250:List _).length∧v253=(v251:List _).length∧Zbl k self14 v0 v2 v215 y217 y218 m v250 v251 v254=some r) k ⟨v211,v212,v213,v214,0,kr,kr,zt,zt,hF⟩ ?_
 clear hF
 rintro m19 s_ ⟨v250,v251,v252,v253,v254,he,ho,hn_v252,hn_v253,hF⟩
 refine WA.keep _ _ he ho ?_
 clear he ho
 cases m19 with
 | zero=>cases hF
 | succ m19=>
  obtain ⟨self19,hself19⟩:∃g,g=Zbl k self14 v0 v2 v215 y217 y218 m19:=⟨_,rfl⟩
  have hF:Zcr k self14 self19 v0 v2 v215 y217 y218 v250 v251 v254=some r:=by first | (rw [hself19];exact hF) | exact hF
  refine WA.seq ?_
  refine WA.reg [0,2,7,8,10,19,20,21,32,33,34,35] [107,118] [] (env':=[(0,.val false [.vp (Zr v0)]),(2,one (.int .i64 v2)),(7,.val false [.arr 107 v252]),(8,.val false [.arr 118 v253]),(10,one (.int .i64 y217)),(19,one (.sl (v1.map (eInt .i64)))),(20,one (.int .i64 (v1.length:Int))),(21,one (.int .i64 v215)),(32,one (.sl (y218.f_set.map Za))),(33,one (.int .i64 (y218.f_set.length:Int))),(34,one (.int .i64 v254)),(35,one (.bool (decide (v254<(y218.f_set.length:Int)))))]) (os':=[(107,.arr 1 (v250.map (eInt .i64))),(118,.arr 1 (v251.map Zv))]) (O:=[]) kr (sound _ _) trivial ?_
  refine WA.seq ?_
  refine WA.cond (b:=(decide (v254<(y218.f_set.length:Int)))) rfl (fun hb255=>?_) (fun hb255=>?_)
  {
 have hF:=Zk hF hb255
 refine WA.skip ?_
 refine WA.join (fun s_=>∃(v264:List Int) (v265:List Bool) (v266:Nat) (v267:Nat),Zi s_.env [0,2,7,8,10,19,20,21,32,33,34]=[(0,.val false [.vp (Zr v0)]),(2,one (.int .i64 v2)),(7,.val false [.arr 107 v266]),(8,.val false [.arr 118 v267]),(10,one (.int .i64 y217)),(19,one (.sl (v1.map (eInt .i64)))),(20,one (.int .i64 (v1.length:Int))),(21,one (.int .i64 v215)),(32,one (.sl (y218.f_set.map Za))),(33,one (.int .i64 (y218.f_set.length:Int))),(34,one (.int .i64 v254))]∧Zi s_.os [107,118]=[(107,.arr 1 (v264.map (eInt .i64))),(118,.arr 1 (v265.map Zv))]∧v266=(v264:List _).length∧v267=(v265:List _).length∧Zdt self19 v254 v264 v265=some r) ?_ ?_
 {
 rintro s_ ⟨v264,v265,v266,v267,he,ho,hn_v266,hn_v267,hF⟩
 refine WA.keep _ _ he ho ?_
 clear he ho
 refine WA.reg [0,2,7,8,10,19,20,21,32,33,34] [107,118] [] (env':=[(0,.val false [.vp (Zr v0)]),(2,one (.int .i64 v2)),(7,.val false [.arr 107 v266]),(8,.val false [.arr 118 v267]),(10,one (.int .i64 y217)),(19,one (.sl (v1.map (eInt .i64)))),(20,one (.int .i64 (v1.length:Int))),(21,one (.int .i64 v215)),(32,one (.sl (y218.f_set.map Za))),(33,one (.int .i64 (y218.f_set.length:Int))),(34,one (.int .i64 (w64 (v254+1))))]) (os':=[(107,.arr 1 (v264.map (eInt .i64))),(118,.arr 1 (v265.map Zv))]) (O:=[]) kr (sound _ _) trivial ?_
 exact ⟨m19,Nat.lt_succ_self _,v264,v265,v266,v267,(w64 (v254+1)),kr,kr,zt,zt,by rw [hself19] at hF;exact hF⟩ }
 {
 refine WA.block ?_
 refine WA.seq ?_
 obtain ⟨y256,hy256,hF⟩:=bind_some hF
 refine WA.reg [0,2,7,8,10,12,19,20,21,32,33,34] [107,112,118] [(0,.cells (Za y256)),(2,.obj 112)] (env':=[(0,.val false [.vp (Zr v0)]),(2,one (.int .i64 v2)),(7,.val false [.arr 107 v252]),(8,.val false [.arr 118 v253]),(10,one (.int .i64 y217)),(12,.val false [.ptr 112 1 0 0]),(19,one (.sl (v1.map (eInt .i64)))),(20,one (.int .i64 (v1.length:Int))),(21,one (.int .i64 v215)),(32,one (.sl (y218.f_set.map Za))),(33,one (.int .i64 (y218.f_set.length:Int))),(34,one (.int .i64 v254))]) (os':=[(107,.arr 1 (v250.map (eInt .i64))),(112,.box (pvL (Za y256))),(118,.arr 1 (v251.map Zv))]) (O:=[idxL (y218.f_set.map Za) v254=some (Za y256)]) kr (sound _ _) ⟨(Zp _ hy256),trivial⟩ ?_
 refine WA.join (fun s_=>∃(v258:Bool),Zi s_.env [0,2,7,8,10,19,20,21,32,33,34,47]=[(0,.val false [.vp (Zr v0)]),(2,one (.int .i64 v2)),(7,.val false [.arr 107 v252]),(8,.val false [.arr 118 v253]),(10,one (.int .i64 y217)),(19,one (.sl (v1.map (eInt .i64)))),(20,one (.int .i64 (v1.length:Int))),(21,one (.int .i64 v215)),(32,one (.sl (y218.f_set.map Za))),(33,one (.int .i64 (y218.f_set.length:Int))),(34,one (.int .i64 v254)),(47,one (.bool v258))]∧Zi s_.os [107,118]=[(107,.arr 1 (v250.map (eInt .i64))),(118,.arr 1 (v251.map Zv))]∧ZbB k self19 v0 y217 v250 v251 v254 v258=some r) ?_ ?_
 {
 rintro s_ ⟨v258,he,ho,hF⟩
 refine WA.keep _ _ he ho ?_
 clear he ho
 refine WA.cond (b:=v258) rfl (fun hb259=>?_) (fun hb259=>?_)
 {
 have hF:=Zk hF hb259
 obtain ⟨y260,hy260,hF⟩:=bind_some hF
 obtain ⟨y261,hy261,hF⟩:=bind_some hF
 obtain ⟨y262,hy262,hF⟩:=bind_some hF
 obtain ⟨hl263,hF⟩:=Zl hF
 refine WA.reg [0,2,7,8,10,19,20,21,32,33,34] [107,118] [(8,.cells (ZE y260)),(11,.cells [.int .i64 y261]),(13,.call [107,118] (.val false [.arr 0 y262.1.length]) [.arr 1 (y262.1.map (eInt .i64)),.arr 1 (y262.2.map Zv)] [])] (env':=[(0,.val false [.vp (Zr v0)]),(2,one (.int .i64 v2)),(7,.val false [.arr 107 y262.1.length]),(8,.val false [.arr 118 v253]),(10,one (.int .i64 y217)),(19,one (.sl (v1.map (eInt .i64)))),(20,one (.int .i64 (v1.length:Int))),(21,one (.int .i64 v215)),(32,one (.sl (y218.f_set.map Za))),(33,one (.int .i64 (y218.f_set.length:Int))),(34,one (.int .i64 v254))]) (os':=[(107,.arr 1 (y262.1.map (eInt .i64))),(118,.arr 1 (y262.2.map Zv))]) (O:=[idxL (v0.f_nodes.map ZE) y217=some (ZE y260),idxL (y260.f_next.map (eInt .i64)) 0=some [.int .i64 y261],Sim Tryz.prog GL0 79 [.val false [.vp (Zr v0)],.val false [.arr 0 v252],.val false [.arr 1 v253],one (.int .i64 y261)] [.arr 1 (v250.map (eInt .i64)),.arr 1 (v251.map Zv)] (.val false [.arr 0 y262.1.length]) [.arr 1 (y262.1.map (eInt .i64)),.arr 1 (y262.2.map Zv)],([107,118]:List Nat).Nodup]) kr (sound _ _) ⟨(Zp _ hy260),(Zp _ hy261),(Zie k _ _ _ _ _ hy262 (n1:=v252) zt (n2:=v253) zt),(by decide),trivial⟩ ?_
 exact ⟨y262.1,y262.2,y262.1.length,v253,kr,kr,zt,zt,hF⟩ }
 {
 have hF:=Zj hF hb259
 refine WA.skip ?_
 exact ⟨v250,v251,v252,v253,kr,kr,zt,zt,hF⟩ } }
 {
 rcases Bool.eq_false_or_eq_true (decide (v2≥y256.f_Lo)) with hb257 | hb257
 {
 have hF:=Zk hF hb257
 refine WA.reg [0,2,7,8,10,19,20,21,32,33,34,47] [107,118] [(4,.bool true)] (env':=[(0,.val false [.vp (Zr v0)]),(2,one (.int .i64 v2)),(7,.val false [.arr 107 v252]),(8,.val false [.arr 118 v253]),(10,one (.int .i64 y217)),(19,one (.sl (v1.map (eInt .i64)))),(20,one (.int .i64 (v1.length:Int))),(21,one (.int .i64 v215)),(32,one (.sl (y218.f_set.map Za))),(33,one (.int .i64 (y218.f_set.length:Int))),(34,one (.int .i64 v254)),(47,one (.bool (decide (v2≤y256.f_Hi))))]) (os':=[(107,.arr 1 (v250.map (eInt .i64))),(118,.arr 1 (v251.map Zv))]) (O:=[(decide (v2≥y256.f_Lo))=true]) kr (sound _ _) ⟨hb257,trivial⟩ ?_
 exact ⟨(decide (v2≤y256.f_Hi)),kr,kr,hF⟩ }
 {
 have hF:=Zj hF hb257
 refine WA.reg [0,2,7,8,10,19,20,21,32,33,34,47] [107,118] [(4,.bool false)] (env':=[(0,.val false [.vp (Zr v0)]),(2,one (.int .i64 v2)),(7,.val false [.arr 107 v252]),(8,.val false [.arr 118 v253]),(10,one (.int .i64 y217)),(19,one (.sl (v1.map (eInt .i64)))),(20,one (.int .i64 (v1.length:Int))),(21,one (.int .i64 v215)),(32,one (.sl (y218.f_set.map Za))),(33,one (.int .i64 (y218.f_set.length:Int))),(34,one (.int .i64 v254)),(47,one (.bool false))]) (os':=[(107,.arr 1 (v250.map (eInt .i64))),(118,.arr 1 (v251.map Zv))]) (O:=[(decide (v2≥y256.f_Lo))=false]) kr (sound _ _) ⟨hb257,trivial⟩ ?_
 exact ⟨false,kr,kr,hF⟩ } } } }
  {
 have hF:=Zj hF hb255
 refine WA.exit ?_
 refine WA.reg [0,2,7,8,19,20,21] [107,118] [] (env':=[(0,.val false [.vp (Zr v0)]),(2,one (.int .i64 v2)),(7,.val false [.arr 107 v252]),(8,.val false [.arr 118 v253]),(19,one (.sl (v1.map (eInt .i64)))),(20,one (.int .i64 (v1.length:Int))),(21,one (.int .i64 (w64 (v215+1))))]) (os':=[(107,.arr 1 (v250.map (eInt .i64))),(118,.arr 1 (v251.map Zv))]) (O:=[]) kr (sound _ _) trivial ?_
 exact ⟨m14,Nat.lt_succ_self _,v250,v251,v252,v253,(w64 (v215+1)),kr,kr,zt,zt,by rw [hself14] at hF;exact hF⟩ } }
  {
 have hF:=Zj hF hb216
 refine WA.exit ?_
 refine WA.seq ?_
 refine WA.reg [6] [107] [] (env':=[(6,.val false [.arr 107 v213])]) (os':=[(107,.arr 1 (v211.map (eInt .i64)))]) (O:=[]) kr (sound _ _) trivial ?_
 refine WA.freeze 107 6 (s:=1) (n:=v213) (els:=(v211.map (eInt .i64))) rfl rfl zt ?_
 refine WA.keep [6] [] (env':=[(6,one (.sl (v211.map (eInt .i64))))]) (os':=[]) kr kr ?_
 refine WA.ret ?_
 obtain rfl:=Option.some.inj hF
 exact Zu (one (.sl (v211.map (eInt .i64)))) [] kr kr kr kr (by decide) rfl rfl }
def Zdu (self0:Int→Option Bool) (v1:List Int) (v108:Int):Option Bool:=
  (cond (decide (v108<(v1.length:Int))) ((idxL v1 v108).bind fun y110=>((cond (y110 == 0) ((some true)) ((self0 (w64 (v108+1))))))) (((some false))))
def Zdv (v1:List Int):Nat→Int→Option Bool
  | 0,_=>none
  | m_+1,v108=>Zdu (Zdv v1 m_) v1 v108
def F57 (k:Nat) (v0:Zm) (v1:List Int):Option Bool:=
  ((Zdv v1 k 0))
theorem ZmE (k:Nat) (v0:Zm) (v1:List Int) (r:Bool) (hF:F57 k v0 v1=some r):Sim Tryz.prog GL0 57 [.val false [.vp (Zr v0)],one (.sl (v1.map (eInt .i64)))] [] (one (.bool r)) []:=by
 refine ZC [] Tryz.func57 rfl kr kr ?_
 show WA _ _ 16 _ _ _
 refine WA.seq ?_
 refine WA.reg [1] [] [] (env':=[(1,one (.sl (v1.map (eInt .i64))))]) (os':=[]) (O:=[]) kr (sound _ _) trivial ?_
 refine WA.seq ?_
 refine WA.seq ?_
 refine WA.rm (α:=Int) (raw:=((v1.map (eInt .i64)).length:Int)) (can:=(v1.length:Int)) (fun m_=>([(7,one (.sl (v1.map (eInt .i64)))),(8,one (.int .i64 m_)),(9,one (.int .i64 0))],[],[])) ((by first | (simp only [zl,Zf];done) | (simp only [zl,Zf];omega) | omega)) [7,8,9] [] [] kr (sound _ _) trivial ?_
 refine WA.block ?_
 refine WA.loop (fun m s_=>∃(v108:Int),Zi s_.env [7,8,9]=[(7,one (.sl (v1.map (eInt .i64)))),(8,one (.int .i64 (v1.length:Int))),(9,one (.int .i64 v108))]∧Zi s_.os []=[]∧Zdv v1 m v108=some r) k ⟨0,kr,kr,hF⟩ ?_
 clear hF
 rintro m0 s_ ⟨v108,he,ho,hF⟩
 refine WA.keep _ _ he ho ?_
 clear he ho
 cases m0 with
 | zero=>cases hF
 | succ m0=>
  obtain ⟨self0,hself0⟩:∃g,g=Zdv v1 m0:=⟨_,rfl⟩
  have hF:Zdu self0 v1 v108=some r:=by first | (rw [hself0];exact hF) | exact hF
  refine WA.seq ?_
  refine WA.reg [7,8,9,10] [] [] (env':=[(7,one (.sl (v1.map (eInt .i64)))),(8,one (.int .i64 (v1.length:Int))),(9,one (.int .i64 v108)),(10,one (.bool (decide (v108<(v1.length:Int)))))]) (os':=[]) (O:=[]) kr (sound _ _) trivial ?_
  refine WA.seq ?_
  refine WA.cond (b:=(decide (v108<(v1.length:Int)))) rfl (fun hb109=>?_) (fun hb109=>?_)
  {
 have hF:=Zk hF hb109
 refine WA.skip ?_
 refine WA.seq ?_
 refine WA.block ?_
 refine WA.seq ?_
 obtain ⟨y110,hy110,hF⟩:=bind_some hF
 refine WA.reg [6,7,8,9] [] [(0,.cells [.int .i64 y110])] (env':=[(6,one (.int .i64 y110)),(7,one (.sl (v1.map (eInt .i64)))),(8,one (.int .i64 (v1.length:Int))),(9,one (.int .i64 v108))]) (os':=[]) (O:=[idxL (v1.map (eInt .i64)) v108=some [.int .i64 y110]]) kr (sound _ _) ⟨(Zp _ hy110),trivial⟩ ?_
 refine WA.seq ?_
 refine WA.reg [7,8,9,14] [] [] (env':=[(7,one (.sl (v1.map (eInt .i64)))),(8,one (.int .i64 (v1.length:Int))),(9,one (.int .i64 v108)),(14,one (.bool (y110 == 0)))]) (os':=[]) (O:=[]) kr (sound _ _) trivial ?_
 refine WA.cond (b:=(y110 == 0)) rfl (fun hb111=>?_) (fun hb111=>?_)
 {
 have hF:=Zk hF hb111
 refine WA.seq ?_
 refine WA.reg [4] [] [] (env':=[(4,one (.bool true))]) (os':=[]) (O:=[]) kr (sound _ _) trivial ?_
 refine WA.ret ?_
 obtain rfl:=Option.some.inj hF
 exact Zu (one (.bool true)) [] kr kr kr kr (by decide) rfl rfl }
 {
 have hF:=Zj hF hb111
 refine WA.skip ?_
 refine WA.reg [7,8,9] [] [] (env':=[(7,one (.sl (v1.map (eInt .i64)))),(8,one (.int .i64 (v1.length:Int))),(9,one (.int .i64 (w64 (v108+1))))]) (os':=[]) (O:=[]) kr (sound _ _) trivial ?_
 exact ⟨m0,Nat.lt_succ_self _,(w64 (v108+1)),kr,kr,by rw [hself0] at hF;exact hF⟩ } }
  {
 have hF:=Zj hF hb109
 refine WA.exit ?_
 refine WA.seq ?_
 refine WA.reg [4] [] [] (env':=[(4,one (.bool false))]) (os':=[]) (O:=[]) kr (sound _ _) trivial ?_
 refine WA.ret ?_
 obtain rfl:=Option.some.inj hF
 exact Zu (one (.bool false)) [] kr kr kr kr (by decide) rfl rfl }
end Go.Proofs.YthilboheomikjaaGreatDoor
end
section
namespace Go.AL
variable {P:Program} {GL:List (Nat×List PV)} {w:World} {I:Nat→Prop} {G:Nat→Option Nat}
theorem Zc7 {os:Objs} {id s n:Nat} {els:List (List PV)} {v:Value} (h3:Sr GL w I G os) (ho:look os id=some (.arr s els)) (hn:n=els.length) (hx:ATr w I G (shape os) (.val false [.arr id n]) v) :
    ∃I':Nat→Prop,Sr GL w I' G (ZG os id)∧ATr w I' G (shape (ZG os id)) (one (.sl els)) v∧ZF Any w w I I' G G (shape os) (shape (ZG os id))∧∀k,I' k→I k∨G id=some k:=by
  have hsub:∀k o,look (ZG os id) k=some o→look os k=some o:=fun k o h=>by
    rw [Zaf] at h;split at h
    · cases h
    · exact h
  obtain ⟨s1,k1⟩:=h3.sub hsub
  let I':Nat→Prop:=fun b=>I b∨G id=some b
  have hI':∀k,I' k→k<w.heap.size:=fun k hk=>by
    rcases hk with hk | hk
    · exact h3.lt k hk
    · obtain ⟨_,cs,E,hh,_⟩:=h3.blk id _ k ho hk
      exact (Array.getElem?_eq_some_iff.1 hh).1
  have k2:ZF Any w w I I' G G (shape (ZG os id)) (shape (ZG os id)):=⟨fun _ _=>rfl,fun _ h=>.inl h,fun i s m _ hs=>⟨m,hs,Nat.le_refl _,fun _=>⟨rfl,fun _ _=>Nat.le_refl _⟩⟩⟩
  have s2:Sr GL w I' G (ZG os id):=by
    refine ⟨fun g ps hg=>?_,s1.none_,fun k o b q1 q2=>?_,s1.inj,hI'⟩
    · obtain ⟨r1,r2⟩:=h3.gl g ps hg
      exact ⟨.inl r1,fun j p hp=>by obtain ⟨u,hu,hr⟩:=r2 j p hp;exact ⟨u,hu,hr.mono (fun _ _=>rfl) (fun _ h=>.inl h)⟩⟩
    · obtain ⟨r1,cs,E,r2,r3,r4,r5⟩:=s1.blk k o b q1 q2
      refine ⟨fun h=>?_,cs,E,r2,r3,r4,fun i es j c e1 e2=>?_⟩
      · rcases h with h | h
        · exact r1 h
        · have:=h3.inj k id o _ b (hsub k o q1) ho q2 h
          subst this
          rw [Zaf,if_pos rfl] at q1;cases q1
      · obtain ⟨v,hv,hr⟩:=r5 i es j c e1 e2
        exact ⟨v,hv,hr.mono k2 (AC.refs_any c)⟩
  refine ⟨I',s2,⟨_,rfl,?_⟩,k1.trans k2,fun k hk=>hk⟩
  show PVr w I' _ _
  have hv:=(ZA hx).2 _ _ (ZV ho)
  have hv2:=hv.2 (by simp [Obj.els,hn])
  cases hb:G id with
  | none=>
    rw [hb] at hv2
    have:=h3.none_ id _ ho hb
    simp [Obj.els] at this
    subst this
    rw [hv2];exact .sl0 _ _
  | some b=>
    rw [hb] at hv2
    obtain ⟨c,e1,e2,e3⟩:=hv2
    obtain ⟨r1,cs,E,r2,r3,r4,r5⟩:=h3.blk id _ b ho hb
    rw [e1,hn]
    have hget:∀(i:Nat) (es:List PV),els[i]?=some es→(Obj.arr s els).els[i]?=some (pvL es):=fun i es h=>by simp [Obj.els,h]
    let vals:Nat→Nat→Value:=fun i j=>(cs[i*s+j]?).getD undef
    have hvv:∀(i:Nat) (es:List PV) (j:Nat) (p:PV),els[i]?=some es→es[j]?=some p→cs[i*s+j]?=some (vals i j)∧PVr w I p (vals i j):=by
      intro i es j p q1 q2
      obtain ⟨v,hv,hr⟩:=r5 i _ j (.pv p) (hget i es q1) (by simp [pvL,q2])
      have hv':cs[i*s+j]?=some v:=hv
      refine ⟨by simp [vals,hv'],?_⟩
      have:vals i j=v:=by simp [vals,hv']
      rw [this];exact hr
    refine .sl els b 0 c s vals (.inr hb) (by omega) (fun i es q=>by have:=r4 i _ (hget i es q);rw [ZaS] at this;exact this) (fun i es j p q1 q2=>?_) (fun i es j p q1 q2=>(hvv i es j p q1 q2).2.mono (fun _ _=>rfl) (fun _ h=>.inl h))
    have:=(hvv i es j p q1 q2).1
    simp only [World.cell?,r2];simpa using this
theorem ZeX {os:List Obj} {o:Obj} (k:Nat):look (Zy os) k=look (ZG (Zy (os ++ [o])) os.length) k:=by
  rw [Zaf,ZD,ZD]
  by_cases h:k=os.length
  · subst h;simp
  · rw [if_neg h]
    rcases Nat.lt_or_ge k os.length with h' | h'
    · rw [List.getElem?_append_left h']
    · rw [List.getElem?_eq_none h',List.getElem?_append_right h',List.getElem?_eq_none (by simp;omega)]
theorem Zjz {f:FuncId} {args:List AT} {os os':List Obj} {m n s:Nat} {els:List (List PV)} (hm:os'.length=m) (hm2:os.length≤m) (hn:n=els.length) (h:Sim P GL f args os (.val false [.arr m n]) (os' ++ [.arr s els])):Sim P GL f args os (one (.sl els)) os':=by
  intro w I G vs hs ha
  refine Calls.imp (h w I G vs hs ha) ?_
  rintro e w' ⟨v,I',G',rfl,e1,s1,x1,k1⟩
  subst hm
  have hl:look (Zy (os' ++ [Obj.arr s els])) os'.length=some (.arr s els):=by rw [ZD];simp
  obtain ⟨I2,s2,x2,k2,hI⟩:=Zc7 s1 hl hn x1
  have hlk:=fun k=>ZeX (os:=os') (o:=.arr s els) k
  have hsh:shape (Zy os')=shape (ZG (Zy (os' ++ [Obj.arr s els])) os'.length):=by funext k;simp only [shape,hlk]
  refine ⟨v,I2,G',rfl,⟨e1.size,e1.os,e1.tape,e1.output,e1.keep,fun k hk=>k2.imm k (e1.imm k hk),fun k hk=>?_,fun b ⟨k,o,h1,h2⟩=>?_⟩,s2.congr hlk,by rw [hsh];exact x2,?_⟩
  · rcases hI k hk with h | h
    · exact e1.inew k h
    · rcases e1.mnew k ⟨os'.length,_,hl,h⟩ with h | h
      · exact .inr (.inl h)
      · exact .inr (.inr h)
  · have h3:=hlk k
    rw [h1,Zaf] at h3
    split at h3
    · cases h3
    · exact e1.mnew b ⟨k,o,h3.symm,h2⟩
  · rw [hsh];exact k1.trans (k2.weaken fun _ _=>trivial)
end Go.AL
end
section
namespace Go.AL
variable {D:List Deferred}
variable {P:Program} {GL:List (Nat×List PV)} {st:S} {w:World} {I:Nat→Prop} {G:Nat→Option Nat} {N:Nat} {F:Exit→S→Prop} {code:Code}
theorem ZcV {os:Objs} {id k:Nat} {o:Obj} (h:look (ZG os id) k=some o):look os k=some o:=by
  rw [Zaf] at h;split at h
  · cases h
  · exact h
theorem ZjP {os:Objs} {id:Nat} {o:Obj} (h3:Sr GL w I G os) (ho:look os id=some o) :
    Sr GL w (fun b=>I b∨G id=some b) G (ZG os id)∧ZF Any w w I (fun b=>I b∨G id=some b) G G (shape os) (shape (ZG os id)):=by
  obtain ⟨s1,k1⟩:=h3.sub (os':=ZG os id) fun k o h=>ZcV h
  have k2:ZF Any w w I (fun b=>I b∨G id=some b) G G (shape (ZG os id)) (shape (ZG os id)):=⟨fun _ _=>rfl,fun _ h=>.inl h,fun i s m _ hs=>⟨m,hs,Nat.le_refl _,fun _=>⟨rfl,fun _ _=>Nat.le_refl _⟩⟩⟩
  refine ⟨⟨fun g ps hg=>?_,s1.none_,fun k o b q1 q2=>?_,s1.inj,fun k hk=>?_⟩,k1.trans k2⟩
  · obtain ⟨r1,r2⟩:=h3.gl g ps hg
    exact ⟨.inl r1,fun j p hp=>by obtain ⟨u,hu,hr⟩:=r2 j p hp;exact ⟨u,hu,hr.mono (fun _ _=>rfl) (fun _ h=>.inl h)⟩⟩
  · obtain ⟨r1,cs,E,r2,r3,r4,r5⟩:=s1.blk k o b q1 q2
    refine ⟨fun h=>?_,cs,E,r2,r3,r4,fun i es j c e1 e2=>?_⟩
    · rcases h with h | h
      · exact r1 h
      · have:=h3.inj k id o _ b (ZcV q1) ho q2 h
        subst this
        rw [Zaf,if_pos rfl] at q1;cases q1
    · obtain ⟨v,hv,hr⟩:=r5 i es j c e1 e2
      exact ⟨v,hv,hr.mono k2 (AC.refs_any c)⟩
  · rcases hk with hk | hk
    · exact h3.lt k hk
    · obtain ⟨_,cs,E,hh,_⟩:=h3.blk id _ k ho hk
      exact (Array.getElem?_eq_some_iff.1 hh).1
theorem Ziu {os:Objs} {id a s n:Nat} {els:List (List PV)} {p:PV} {v:Value} (h3:Sr GL w I G os) (hne:id≠a) (hb:look os id=some (.box [.arr a n,.pv p])) (ha:look os a=some (.arr s els)) (hn:n=els.length)
    (hx:ATr w I G (shape os) (.val false [.ptr id 1 0 0]) v) :
    ∃I':Nat→Prop,Sr GL w I' G (ZG (ZG os a) id)∧ATr w I' G (shape (ZG (ZG os a) id)) (.val false [.vp [.sl els,p]]) v∧ZF Any w w I I' G G (shape os) (shape (ZG (ZG os a) id))∧∀k,I' k→I k∨G id=some k∨G a=some k:=by
  have hsh:=ZV hb
  obtain ⟨⟨A,hA⟩,hp⟩:=ZA hx
  have hp:=(hp _ _ hsh).2 rfl
  cases hG:G id with
  | none=>have:=h3.none_ id _ hb hG;simp [Obj.els] at this
  | some b=>
    have hv:=hp b hG
    obtain ⟨q1,cs,E,q2,q3,q4,q5⟩:=h3.blk id _ b hb hG
    obtain ⟨u,hu,hur⟩:=q5 0 [.arr a n,.pv p] 0 (.arr a n) rfl rfl
    obtain ⟨u1,hu1,hur1⟩:=q5 0 [.arr a n,.pv p] 1 (.pv p) rfl rfl
    obtain ⟨I1,s1,x1,k1,hI1⟩:=Zc7 h3 ha hn (v:=u) ⟨_,rfl,hur⟩
    have hb':look (ZG os a) id=some (.box [.arr a n,.pv p]):=by rw [Zaf,if_neg hne];exact hb
    obtain ⟨s2,k2⟩:=ZjP s1 hb'
    refine ⟨_,s2,⟨_,rfl,b,0,by simpa using hv,.inr hG,fun j q hq=>?_⟩,k1.trans k2,fun k hk=>?_⟩
    · match j,hq with
      | 0,hq=>
        cases hq
        refine ⟨u,?_,PVr.mono (ZA x1) k2.heap k2.imm⟩
        simp only [World.cell?,q2];simpa using hu
      | 1,hq=>
        cases hq
        refine ⟨u1,?_,PVr.mono hur1 (k1.trans k2).heap (k1.trans k2).imm⟩
        simp only [World.cell?,q2];simpa using hu1
    · rcases hk with hk | hk
      · rcases hI1 k hk with h | h
        · exact .inl h
        · exact .inr (.inr h)
      · exact .inr (.inl (hG.symm.trans hk))
theorem WA.freezeM (id a t:Nat) {s n:Nat} {els:List (List PV)} {p:PV} (ht:look st.env t=some (.val false [.ptr id 1 0 0])) (hb:look st.os id=some (.box [.arr a n,.pv p])) (ha:look st.os a=some (.arr s els)) (hn:n=els.length)
    (hne:id≠a) (h:WA P GL N code ⟨(t,.val false [.vp [.sl els,p]]) :: st.env,ZG (ZG st.os a) id⟩ F):WA P GL N code st F:=fun D w0 I0 G0 os0 w I G c h1 h2 h3 h4=>by
  obtain ⟨I',s2,x2,k3,hI⟩:=Ziu h3 hne hb ha hn (h4.slot t _ ht).2
  refine h D w0 I0 G0 os0 w I' G c ⟨h1.size,h1.os,h1.tape,h1.output,h1.keep,fun k hk=>k3.imm k (h1.imm k hk),fun k hk=>?_,fun b ⟨k,o,q1,q2⟩=>h1.mnew b ⟨k,o,ZcV (ZcV q1),q2⟩⟩ (h2.trans (k3.weaken fun _ _=>trivial)) s2
    ⟨h4.size,h4.defers,fun t' x hx=>?_⟩
  · have hm:∀k,Mine G st.os k→I0 k∨Mine G0 os0 k∨w0.heap.size≤k:=fun k hk=>by
      rcases h1.mnew k hk with h | h
      · exact .inr (.inl h)
      · exact .inr (.inr h)
    rcases hI k hk with hk | hk | hk
    · exact h1.inew k hk
    · exact hm k ⟨id,_,hb,hk⟩
    · exact hm k ⟨a,_,ha,hk⟩
  · rw [Zw] at hx
    split at hx
    · rename_i e;subst e;cases hx
      exact ⟨(h4.slot t _ ht).1,x2⟩
    · exact ⟨(h4.slot t' x hx).1,(h4.slot t' x hx).2.mono k3 (AT.refs_any x)⟩
def Zgd (_:Nat):Prop:=False
theorem Zb1 {w':World} {I':Nat→Prop} {G':Nat→Option Nat} {sh sh':Sh} (hh:∀k,I k→w'.heap[k]?=w.heap[k]?) (hi:∀k,I k→I' k):ZF Zgd w w' I I' G G' sh sh':=⟨hh,hi,fun _ _ _ h=>h.elim⟩
theorem ZjY {f:FuncId} {p0 p3:AT} {n m s1 s2:Nat} {els els' l':List (List PV)} (hm:m=l'.length) (h0:p0.refs Zgd) (h3:p3.refs Zgd)
    (h:Sim P GL f [p0,.val false [.arr 0 0],.val false [.arr 1 n],p3] [.arr s1 [],.arr s2 els] (.val false [.arr 0 m]) [.arr s1 l',.arr s2 els']) :
    Sim P GL f [p0,one .nils,.val false [.arr 0 n],p3] [.arr s2 els] (one (.sl l')) [.arr s2 els']:=by
  intro w I G vs hs ha
  obtain ⟨v0,_,rfl,a0,v1,_,rfl,a1,v2,_,rfl,a2,v3,_,rfl,a3,rfl⟩:=ha
  let G2:Nat→Option Nat:=fun k=>if k=1 then G 0 else none
  have l1:∀k,look (Zy [Obj.arr s2 els]) k=if k=0 then some (Obj.arr s2 els) else none:=fun k=>by
    rw [ZD];cases k with | zero=>rfl | succ k=>rfl
  have l2:∀(x y:Obj) k,look (Zy [x,y]) k=if k=0 then some x else if k=1 then some y else none:=fun x y k=>by
    rw [ZD];match k with | 0=>rfl | 1=>rfl | k+2=>rfl
  have sr2:Sr GL w I G2 (Zy [.arr s1 [],.arr s2 els]):=by
    refine ⟨hs.gl,fun k o q g=>?_,fun k o b q g=>?_,fun k k' o o' b q1 q2 g1 g2=>?_,hs.lt⟩
    · rw [l2] at q
      by_cases e:k=0
      · rw [if_pos e] at q;cases q;rfl
      · rw [if_neg e] at q
        by_cases e1:k=1
        · rw [if_pos e1] at q;cases q;subst e1
          exact hs.none_ 0 _ (by rw [l1];rfl) g
        · rw [if_neg e1] at q;cases q
    · rw [l2] at q
      by_cases e1:k=1
      · subst e1
        cases q
        obtain ⟨r1,cs,E,r2,r3,r4,r5⟩:=hs.blk 0 _ b (by rw [l1];rfl) g
        refine ⟨r1,cs,E,r2,r3,r4,fun i es j c z1 z2=>?_⟩
        obtain ⟨v,hv,hr⟩:=r5 i es j c z1 z2
        refine ⟨v,hv,?_⟩
        simp only [Obj.els,List.getElem?_map] at z1
        cases hq:els[i]? with
        | none=>rw [hq] at z1;cases z1
        | some ps=>rw [hq] at z1;cases z1;obtain ⟨p,_,rfl⟩:=Zfw z2;exact hr
      · simp only [G2,if_neg e1] at g;cases g
    · have e1:k=1:=by
        by_cases e:k=1
        · exact e
        · simp only [G2,if_neg e] at g1;cases g1
      have e2:k'=1:=by
        by_cases e:k'=1
        · exact e
        · simp only [G2,if_neg e] at g2;cases g2
      rw [e1,e2]
  have k0:∀{I' G' sh sh'},(∀k,I k→I' k)→ZF Zgd w w I I' G G' sh sh':=fun hi=>Zb1 (fun _ _=>rfl) hi
  have nil1:v1 = .slice none 0 0:=by
    obtain ⟨c,hc,hr⟩:=a1;cases hc;cases hr;rfl
  subst nil1
  have as2:As w I G2 (shape (Zy [.arr s1 [],.arr s2 els])) [p0,.val false [.arr 0 0],.val false [.arr 1 n],p3] [v0,.slice none 0 0,v2,v3]:=by
    refine ⟨v0,_,rfl,a0.mono (k0 fun _ h=>h) h0,_,_,rfl,⟨_,rfl,⟨_,_,rfl⟩,fun s m hsm=>⟨Nat.zero_le _,fun _=>rfl⟩⟩,v2,_,rfl,⟨_,rfl,?_⟩,v3,_,rfl,a3.mono (k0 fun _ h=>h) h3,rfl⟩
    obtain ⟨x1,x2⟩:=ZA a2
    refine ⟨x1,fun s m hsm=>?_⟩
    have e:shape (Zy [Obj.arr s2 els]) 0=some (s,m):=by
      simp only [shape,l2,l1] at hsm ⊢;exact hsm
    exact x2 s m e
  refine Calls.imp (h w I G2 _ sr2 as2) ?_
  rintro e w' ⟨v,I',G',rfl,e1,t1,x1,c1⟩
  have hl0:look (Zy [Obj.arr s1 l',Obj.arr s2 els']) 0=some (.arr s1 l'):=by rw [l2];rfl
  have hl1:look (Zy [Obj.arr s1 l',Obj.arr s2 els']) 1=some (.arr s2 els'):=by rw [l2];rfl
  obtain ⟨I2,t2,x2,c2,hI⟩:=Zc7 t1 hl0 hm x1
  let G3:Nat→Option Nat:=fun k=>if k=0 then G' 1 else none
  have hd1:look (ZG (Zy [Obj.arr s1 l',Obj.arr s2 els']) 0) 1=some (.arr s2 els'):=by rw [Zaf,if_neg (by omega)];exact hl1
  have m1:∀k,Mine G2 (Zy [.arr s1 [],.arr s2 els]) k→Mine G (Zy [.arr s2 els]) k:=fun k ⟨id,o,q1,q2⟩=>by
    by_cases e:id=1
    · subst e;exact ⟨0,_,by rw [l1];rfl,q2⟩
    · simp only [G2,if_neg e] at q2;cases q2
  have m2:∀k,Mine G (Zy [.arr s2 els]) k→Mine G2 (Zy [.arr s1 [],.arr s2 els]) k:=fun k ⟨id,o,q1,q2⟩=>by
    rw [l1] at q1
    by_cases e:id=0
    · subst e;exact ⟨1,_,by rw [l2];rfl,q2⟩
    · rw [if_neg e] at q1;cases q1
  have l3:∀k,look (Zy [Obj.arr s2 els']) k=if k=0 then some (Obj.arr s2 els') else none:=fun k=>by
    rw [ZD];cases k with | zero=>rfl | succ k=>rfl
  have m3:∀k,Mine G3 (Zy [.arr s2 els']) k→Mine G' (Zy [Obj.arr s1 l',Obj.arr s2 els']) k:=fun k ⟨id,o,q1,q2⟩=>by
    rw [l3] at q1
    by_cases e:id=0
    · subst e;exact ⟨1,_,hl1,q2⟩
    · rw [if_neg e] at q1;cases q1
  have mm:∀k,Mine G' (Zy [Obj.arr s1 l',Obj.arr s2 els']) k→Mine G (Zy [.arr s2 els]) k∨w.heap.size≤k:=fun k hk=>(e1.mnew k hk).elim (fun h=>.inl (m1 k h)) .inr
  refine ⟨v,I2,G3,rfl,⟨e1.size,e1.os,e1.tape,e1.output,fun k h h'=>e1.keep k h fun q=>h' (m1 k q),fun k hk=>c2.imm k (e1.imm k hk),fun k hk=>?_,fun k hk=>mm k (m3 k hk)⟩,?_,x2.mono (Zb1 (fun _ _=>rfl) fun _ h=>h) ⟨trivial,trivial⟩,?_⟩
  · rcases hI k hk with h | h
    · rcases e1.inew k h with h | h | h
      · exact .inl h
      · exact .inr (.inl (m1 k h))
      · exact .inr (.inr h)
    · exact .inr (mm k ⟨0,_,hl0,h⟩)
  · refine ⟨t2.gl,fun k o q g=>?_,fun k o b q g=>?_,fun k k' o o' b q1 q2 g1 g2=>?_,t2.lt⟩
    · rw [l3] at q
      by_cases e:k=0
      · rw [if_pos e] at q;cases q;subst e
        exact t2.none_ 1 _ hd1 g
      · rw [if_neg e] at q;cases q
    · rw [l3] at q
      by_cases e:k=0
      · rw [if_pos e] at q;cases q;subst e
        obtain ⟨r1,cs,E,r2,r3,r4,r5⟩:=t2.blk 1 _ b hd1 g
        refine ⟨r1,cs,E,r2,r3,r4,fun i es j c z1 z2=>?_⟩
        obtain ⟨v,hv,hr⟩:=r5 i es j c z1 z2
        refine ⟨v,hv,?_⟩
        simp only [Obj.els,List.getElem?_map] at z1
        cases hq:els'[i]? with
        | none=>rw [hq] at z1;cases z1
        | some ps=>rw [hq] at z1;cases z1;obtain ⟨p,_,rfl⟩:=Zfw z2;exact hr
      · rw [if_neg e] at q;cases q
    · rw [l3] at q1 q2
      by_cases e:k=0
      · by_cases e':k'=0
        · rw [e,e']
        · rw [if_neg e'] at q2;cases q2
      · rw [if_neg e] at q1;cases q1
  · refine ⟨fun k hk=>c1.heap k hk,fun k hk=>c2.imm k (c1.imm k hk),fun k s m hk hsm=>?_⟩
    have hk0:k=0:=by simp only [List.length_cons,List.length_nil] at hk;omega
    subst hk0
    have e:shape (Zy [Obj.arr s1 l',Obj.arr s2 els']) 1=some (s,m):=by
      simp only [shape,l3,hl1] at hsm ⊢;exact hsm
    obtain ⟨m0,q1,q2,q3⟩:=c1.objs 1 s m (by simp) e
    refine ⟨m0,?_,q2,fun hm=>?_⟩
    · simp only [shape,l2,l1] at q1 ⊢;exact q1
    · exact q3 hm
end Go.AL
end
section
namespace Go.Proofs.YthilboheomikjaaGreatDoor
open Go.AL
set_option maxRecDepth 100000
def F53 (k:Nat) (v0:Ze):Option Zm:=
  (F78 k ⟨[⟨[],false,[],false⟩],0⟩ v0 0).bind fun y=>if y.2.f_nodes.all (fun n=>!n.f_x)=true then some ⟨y.2.f_nodes,y.1⟩ else none
theorem Zi4 {l:List Zq} (h:l.all (fun n=>!n.f_x)=true):l.map Zh=l.map ZE:=by
  refine List.map_congr_left fun x hx=>?_
  have:=List.all_eq_true.1 h x hx
  simp only [Bool.not_eq_true'] at this
  simp only [Zh,ZE,this,cond]
theorem ZmB (k:Nat) (v0:Ze) (r:Zm) (hF:F53 k v0=some r):Sim Tryz.prog GL0 53 [.val true (pvL (Zd v0))] [] (.val false [.vp (Zr r)]) []:=by
  refine ZC [] Tryz.func53 rfl (by kernel_rfl) (by kernel_rfl) ?_
  show WA _ _ 18 _ _ _
  obtain ⟨y,hy,hF⟩:=bind_some hF
  obtain ⟨hc,hF⟩:=Zl hF
  obtain rfl:=Option.some.inj hF
  refine WA.seq ?_
  refine WA.reg [1] [101] [(0,.obj 101)] (env':=[(1,.val false [.ptr 101 1 0 0])]) (os':=[(101,.box (pvL (Zd v0)))]) (O:=[]) (by kernel_rfl) (sound _ _) trivial ?_
  refine WA.seq ?_
  refine WA.reg [1,3] [101,105] [(1,.obj 105)] (env':=[(1,.val false [.ptr 101 1 0 0]),(3,.val false [.ptr 105 1 0 0])]) (os':=[(101,.box (pvL (Zd v0))),(105,.box (pvL [.sl [],.int .i64 0]))]) (O:=[]) (by kernel_rfl) (sound _ _) trivial ?_
  refine WA.seq ?_
  refine WA.reg [1,3] [101,105,108] [(2,.obj 108)] (env':=[(1,.val false [.ptr 101 1 0 0]),(3,.val false [.ptr 105 1 0 0])]) (os':=[(101,.box (pvL (Zd v0))),(105,.box [.arr 108 1,.pv (.int .i64 0)]),(108,.arr 3 [[.sl [],.bool false,.sl []]])]) (O:=[]) (by kernel_rfl) (sound _ _) trivial ?_
  refine WA.seq ?_
  refine WA.reg [3] [105,108] [(3,.call [105,108] (one (.int .i64 y.1)) [.box [.arr 1 y.2.f_nodes.length,.pv (.int .i64 y.2.f_first)],.arr 3 (y.2.f_nodes.map Zh)] [])] (env':=[(3,.val false [.ptr 105 1 0 0])]) (os':=[(105,.box [.arr 108 y.2.f_nodes.length,.pv (.int .i64 y.1)]),(108,.arr 3 (y.2.f_nodes.map Zh))])
    (O:=[Sim Tryz.prog GL0 78 [.val false [.ptr 0 1 0 0],.val true (pvL (Zd v0)),one (.int .i64 0)] [.box [.arr 1 1,.pv (.int .i64 0)],.arr 3 [[.sl [],.bool false,.sl []]]] (one (.int .i64 y.1)) [.box [.arr 1 y.2.f_nodes.length,.pv (.int .i64 y.2.f_first)],.arr 3 (y.2.f_nodes.map Zh)],([105,108]:List Nat).Nodup]) (by kernel_rfl) (sound _ _) ⟨Zkc k _ _ _ _ hy,by decide,trivial⟩ ?_
  refine WA.seq ?_
  refine WA.reg [2] [105,108] [] (env':=[(2,.val false [.ptr 105 1 0 0])]) (os':=[(105,.box [.arr 108 y.2.f_nodes.length,.pv (.int .i64 y.1)]),(108,.arr 3 (y.2.f_nodes.map Zh))]) (O:=[]) (by kernel_rfl) (sound _ _) trivial ?_
  refine WA.freezeM 105 108 2 (s:=3) (n:=y.2.f_nodes.length) (els:=y.2.f_nodes.map Zh) (p:=.int .i64 y.1) rfl rfl rfl (by rw [List.length_map]) (by decide) ?_
  rw [Zi4 hc]
  refine WA.ret ?_
  exact Zu (.val false [.vp (Zr ⟨y.2.f_nodes,y.1⟩)]) [] (by kernel_rfl) (by kernel_rfl) (by kernel_rfl) (by kernel_rfl) (by decide) rfl rfl
def F54 (k:Nat) (v0:Zm):Option (List Int):=
  if (v0.f_nodes.length:Int)≤1073741824 then (F79 k v0 [] (List.replicate v0.f_nodes.length false) v0.f_first).bind fun y=>some y.1 else none
theorem ZmC (k:Nat) (v0:Zm) (r:List Int) (hF:F54 k v0=some r):Sim Tryz.prog GL0 54 [.val false [.vp (Zr v0)]] [] (one (.sl (r.map (eInt .i64)))) []:=by
  refine ZC [] Tryz.func54 rfl (by kernel_rfl) (by kernel_rfl) ?_
  show WA _ _ 15 _ _ _
  obtain ⟨hc,hF⟩:=Zl hF
  obtain ⟨y,hy,hF⟩:=bind_some hF
  obtain rfl:=Option.some.inj hF
  refine WA.seq ?_
  refine WA.reg [0] [] [] (env':=[(0,.val false [.vp (Zr v0)])]) (os':=[]) (O:=[]) (by kernel_rfl) (sound _ _) trivial ?_
  refine WA.seq ?_
  have hl:(List.replicate (Int.toNat ((v0.f_nodes.map ZE).length:Int)) [PV.bool false])=(List.replicate v0.f_nodes.length false).map Zv:=by
    rw [List.length_map,Int.toNat_natCast,List.map_replicate];rfl
  have hn:Int.toNat ((v0.f_nodes.map ZE).length:Int)=(List.replicate v0.f_nodes.length false).length:=by simp
  refine WA.regD (by kernel_rfl) [2] [] [(6,.obj 109),(11,.call [109] (one (.sl (y.1.map (eInt .i64)))) [.arr 1 (y.2.map Zv)] [])] (env':=[(2,one (.sl (y.1.map (eInt .i64))))]) (os':=[])
    (O:=[((v0.f_nodes.map ZE).length:Int)=(v0.f_nodes.map ZE).length,(0:Int)≤((v0.f_nodes.map ZE).length:Int),((v0.f_nodes.map ZE).length:Int)≤1073741824,
      Sim Tryz.prog GL0 79 [.val false [.vp (Zr v0)],one .nils,.val false [.arr 0 (Int.toNat ((v0.f_nodes.map ZE).length:Int))],one (.int .i64 v0.f_first)] [.arr 1 (List.replicate (Int.toNat ((v0.f_nodes.map ZE).length:Int)) [PV.bool false])] (one (.sl (y.1.map (eInt .i64)))) [.arr 1 (y.2.map Zv)],([109]:List Nat).Nodup])
    (by kernel_rfl) (by kernel_rfl) (sound _ _) ⟨rfl,by omega,by simpa using hc,?_,by decide,trivial⟩ ?_
  · rw [hl]
    exact ZjY (List.length_map _).symm ⟨trivial,trivial⟩ ⟨trivial,trivial⟩ (Zie k _ _ _ _ _ hy (n1:=0) rfl hn)
  · refine WA.ret ?_
    exact Zu (one (.sl (y.1.map (eInt .i64)))) [] (by kernel_rfl) (by kernel_rfl) (by kernel_rfl) (by kernel_rfl) (by decide) rfl rfl
end Go.Proofs.YthilboheomikjaaGreatDoor
end
section
namespace Go.Proofs.YthilboheomikjaaGreatDoor
open Go.AL Go.Lib
set_option maxRecDepth 100000
def inR (l:List Zb) (c:Int):Prop:=∃r∈l,r.f_Lo≤c∧c≤r.f_Hi
def Pow (P:List Int→Prop):Nat→List Int→Prop
  | 0,w=>w=[]
  | n+1,w=>∃u v,w=u ++ v∧P u∧Pow P n v
mutual
def Lang:Ze→List Int→Prop
  | ⟨k,st,l,mn,mx⟩=>fun w=>(k=1∧∃c,w=[c]∧inR st c)∨(k=2∧LSeq l w)∨(k=3∧LAlt l w)∨(k=4∧∃n:Nat,mn≤n∧(mx<0∨(n:Int)≤mx)∧Pow (LHd l) n w)
def LSeq:List Ze→List Int→Prop
  | []=>fun w=>w=[]
  | x :: l=>fun w=>∃u v,w=u ++ v∧Lang x u∧LSeq l v
def LAlt:List Ze→List Int→Prop
  | []=>fun _=>False
  | x :: l=>fun w=>Lang x w∨LAlt l w
def LHd:List Ze→List Int→Prop
  | []=>fun _=>False
  | x :: _=>fun w=>Lang x w
end
def WF0 (r:Ze):Prop:=(r.f_Kind=1∨r.f_Kind=2∨r.f_Kind=3∨r.f_Kind=4)∧(r.f_Kind=4→r.f_L.length=1∧0≤r.f_Min∧r.f_Min≤20∧r.f_Max≤20∧(r.f_Max = -1∨r.f_Min≤r.f_Max))∧r.f_Set.length≤1000∧r.f_L.length≤1000
mutual
def WF:Ze→Prop
  | ⟨k,st,l,mn,mx⟩=>WF0 ⟨k,st,l,mn,mx⟩∧WFL l
def WFL:List Ze→Prop
  | []=>True
  | x :: l=>WF x∧WFL l
end
mutual
def fu:Ze→Nat
  | ⟨k,st,l,mn,mx⟩=>1+max (l.length+30) (fuL l)
def fuL:List Ze→Nat
  | []=>0
  | x :: l=>max (fu x) (fuL l)
end
mutual
def cnt:Ze→Nat
  | ⟨k,st,l,mn,mx⟩=>if k=1 then 1 else if k=2 then cntL l else if k=3 then cntL l+1 else if mx<0 then (mn.toNat+1)*cntL l+1 else mx.toNat*cntL l+(mx-mn).toNat
def cntL:List Ze→Nat
  | []=>0
  | x :: l=>cnt x+cntL l
end
inductive Acc (N:List Zq):Nat→Nat→List Int→Prop
  | fin (n:Nat):Acc N n 0 []
  | set {n i:Nat} {x:Zq} {c:Int} {t:Nat} {w:List Int}:N[i]?=some x→x.f_some=true→inR x.f_set c→x.f_next=[(t:Int)]→Acc N n t w→Acc N (n+1) i (c :: w)
  | eps {n i:Nat} {x:Zq} {t:Nat} {w:List Int}:i≠0→N[i]?=some x→x.f_some=false→(t:Int)∈x.f_next→Acc N n t w→Acc N (n+1) i w
theorem Acc.mono {N:List Zq} {n i:Nat} {w:List Int} (h:Acc N n i w):∀{m:Nat},n≤m→Acc N m i w:=by
  induction h with
  | fin n=>exact fun _=>.fin _
  | set h1 h2 h3 h4 _ ih=>intro m hm;obtain ⟨m,rfl⟩:∃q,m=q+1:=⟨m-1,by omega⟩;exact .set h1 h2 h3 h4 (ih (by omega))
  | eps h0 h1 h2 h3 _ ih=>intro m hm;obtain ⟨m,rfl⟩:∃q,m=q+1:=⟨m-1,by omega⟩;exact .eps h0 h1 h2 h3 (ih (by omega))
theorem Acc.inv {N:List Zq} {n i:Nat} {w:List Int} (h:Acc N n i w):(i=0∧w=[])∨
    (∃m x c t v,n=m+1∧w=c :: v∧N[i]?=some x∧x.f_some=true∧inR x.f_set c∧x.f_next=[((t:Nat):Int)]∧Acc N m t v)∨
    (∃m x t,n=m+1∧i≠0∧N[i]?=some x∧x.f_some=false∧((t:Nat):Int)∈x.f_next∧Acc N m t w):=by
  cases h with
  | fin=>exact .inl ⟨rfl,rfl⟩
  | set h1 h2 h3 h4 h5=>exact .inr (.inl ⟨_,_,_,_,_,rfl,rfl,h1,h2,h3,h4,h5⟩)
  | eps h0 h1 h2 h3 h4=>exact .inr (.inr ⟨_,_,_,rfl,h0,h1,h2,h3,h4⟩)
def Good (n:Nat) (x:Zq):Prop:=x.f_x=false∧(∀t∈x.f_next,∃j:Nat,t=(j:Int)∧j<n)∧(x.f_some=true→∃t,x.f_next=[t])∧(x.f_some=false→x.f_set=[])∧x.f_next.length≤1000∧x.f_set.length≤1000
def Zay (a b:Nat) (N M:List Zq):Prop:=∀i,a≤i→i<b→M[i]?=N[i]?
structure ZW (N N':List Zq) (f z:Nat) (P:List Int→Prop) (c:Nat):Prop where
  le:N.length≤N'.length
  cnt:N'.length≤N.length+c
  old:∀i,i<N.length→N'[i]?=N[i]?
  good:∀i x,N.length≤i→N'[i]?=some x→Good N'.length x
  lt:f<N'.length
  sound:∀M,Zay N.length N'.length N' M→∀n w,Acc M n f w→∃u v m,w=u ++ v∧P u∧m≤n∧Acc M m z v
  full:∀M,Zay N.length N'.length N' M→∀u v m,P u→Acc M m z v→∃n,Acc M n f (u ++ v)
theorem Good.mono {n m:Nat} {x:Zq} (h:Good n x) (hm:n≤m):Good m x:=
  ⟨h.1,fun t ht=>by obtain ⟨j,e,hj⟩:=h.2.1 t ht;exact ⟨j,e,Nat.lt_of_lt_of_le hj hm⟩,h.2.2⟩
theorem ZW.refl {N:List Zq} {z:Nat} (h:z<N.length):ZW N N z z (fun w=>w=[]) 0:=
  ⟨Nat.le_refl _,Nat.le_refl _,fun _ _=>rfl,fun i x hi hx=>by have:=(List.getElem?_eq_some_iff.1 hx).1;omega,h,fun M _ n w ha=>⟨[],w,n,rfl,rfl,Nat.le_refl _,ha⟩,
    fun M _ u v m hu ha=>by subst hu;exact ⟨m,ha⟩⟩
def Cat (P Q:List Int→Prop) (w:List Int):Prop:=∃u v,w=u ++ v∧P u∧Q v
theorem ZW.comp {N N1 N2:List Zq} {f1 f2 z:Nat} {P Q:List Int→Prop} {c d:Nat} (h:ZW N N1 f1 z P c) (g:ZW N1 N2 f2 f1 Q d):ZW N N2 f2 z (Cat Q P) (c+d):=by
  have ag:∀M,Zay N.length N2.length N2 M→Zay N.length N1.length N1 M∧Zay N1.length N2.length N2 M:=fun M hM=>
    ⟨fun i h1 h2=>by rw [hM i h1 (Nat.lt_of_lt_of_le h2 g.le),g.old i h2],fun i h1 h2=>hM i (Nat.le_trans h.le h1) h2⟩
  refine ⟨Nat.le_trans h.le g.le,by have:=h.cnt;have:=g.cnt;omega,fun i hi=>by rw [g.old i (Nat.lt_of_lt_of_le hi h.le),h.old i hi],fun i x hi hx=>?_,g.lt,fun M hM n w ha=>?_,fun M hM u v m hu ha=>?_⟩
  · rcases Nat.lt_or_ge i N1.length with hl | hl
    · rw [g.old i hl] at hx;exact (h.good i x hi hx).mono g.le
    · exact g.good i x hl hx
  · obtain ⟨a1,a2⟩:=ag M hM
    obtain ⟨u,v,m,rfl,hq,hm,hv⟩:=g.sound M a2 n w ha
    obtain ⟨u',v',m',rfl,hp,hm',hv'⟩:=h.sound M a1 m v hv
    exact ⟨u ++ u',v',m',(List.append_assoc ..).symm,⟨u,u',rfl,hq,hp⟩,Nat.le_trans hm' hm,hv'⟩
  · obtain ⟨a1,a2⟩:=ag M hM
    obtain ⟨p,q,rfl,hp,hq⟩:=hu
    obtain ⟨n1,h1⟩:=h.full M a1 q v m hq ha
    obtain ⟨n2,h2⟩:=g.full M a2 p (q ++ v) n1 hp h1
    exact ⟨n2,by rw [List.append_assoc];exact h2⟩
theorem ZW.congr {N N':List Zq} {f z:Nat} {P Q:List Int→Prop} {c d:Nat} (h:ZW N N' f z P c) (hq:∀w,P w↔Q w) (hd:c≤d):ZW N N' f z Q d:=
  ⟨h.le,Nat.le_trans h.cnt (by omega),h.old,h.good,h.lt,fun M hM n w ha=>by obtain ⟨u,v,m,e,hu,r⟩:=h.sound M hM n w ha;exact ⟨u,v,m,e,(hq u).1 hu,r⟩,fun M hM u v m hu ha=>h.full M hM u v m ((hq u).2 hu) ha⟩
theorem Ze8 {k:Nat} {N:List Zq} {fst:Int} {x:Zq} (h:N.length+1≤1073741824):F105 k ⟨N,fst⟩ x=some ((N.length:Int),⟨N ++ [x],fst⟩):=by
  unfold F105
  simp only [List.length_append,List.length_cons,List.length_nil,Nat.zero_add]
  rw [if_pos h,Zt (by omega) (by omega)]
  congr 2;omega
theorem Zge {N:List Zq} {x:Zq} {M:List Zq} (h:Zay N.length (N ++ [x]).length (N ++ [x]) M):M[N.length]?=some x:=by
  rw [h N.length (Nat.le_refl _) (by simp)];simp
theorem Zkk {N:List Zq} {z:Nat} {s:List Zb} (hs:s.length≤1000) (h:z<N.length) (h0:1≤N.length):ZW N (N ++ [⟨s,true,[(z:Int)],false⟩]) N.length z (fun w=>∃c,w=[c]∧inR s c) 1:=by
  refine ⟨by simp,by simp,fun i hi=>List.getElem?_append_left hi,fun i x hi hx=>?_,by simp,fun M hM n w ha=>?_,fun M hM u v m hu ha=>?_⟩
  · have:i=N.length:=by have:=(List.getElem?_eq_some_iff.1 hx).1;simp at this;omega
    subst this
    simp at hx;subst hx
    exact ⟨rfl,(fun t ht=>by simp at ht;exact ⟨z,ht,by simp;omega⟩),(fun _=>⟨_,rfl⟩),(fun h=>by cases h),by simp,hs⟩
  · have hx:=Zge hM
    rcases ha.inv with ⟨e,_⟩ | ⟨m,x,c,t,v,rfl,rfl,h1,h2,h3,h4,h5⟩ | ⟨m,x,t,rfl,_,h1,h2,h3,_⟩
    · omega
    · rw [hx] at h1;cases h1
      simp only [List.cons.injEq,and_true,Int.natCast_inj] at h4
      subst h4
      exact ⟨[c],v,m,rfl,⟨c,rfl,h3⟩,Nat.le_succ _,h5⟩
    · rw [hx] at h1;cases h1;cases h2
  · obtain ⟨c,rfl,hc⟩:=hu
    exact ⟨m+1,.set (Zge hM) rfl hc rfl ha⟩
theorem ZgT {M:List Zq} {N:List Zq} {next:List Int} (h0:1≤N.length) (hx:M[N.length]?=some ⟨[],false,next,false⟩) {n:Nat} {w:List Int} (ha:Acc M n N.length w):∃m t,n=m+1∧((t:Nat):Int)∈next∧Acc M m t w:=by
  rcases ha.inv with ⟨e,_⟩ | ⟨m,x,c,t,v,rfl,rfl,h1,h2,h3,h4,h5⟩ | ⟨m,x,t,rfl,_,h1,h2,h3,h4⟩
  · omega
  · rw [hx] at h1;cases h1;cases h2
  · rw [hx] at h1;cases h1;exact ⟨m,t,rfl,h3,h4⟩
theorem Zb9 {a b c:Nat} {N M:List Zq} {x:Zq} (hb:b≤N.length) (h:Zay a c (N ++ [x]) M) (hc:b≤c):Zay a b N M:=fun i h1 h2=>by
  rw [h i h1 (by omega),List.getElem?_append_left (by omega)]
theorem Zjs {t a b:Nat}:((t:Nat):Int)∈[(a:Int),(b:Int)]↔t=a∨t=b:=by
  simp only [List.mem_cons,List.not_mem_nil,or_false];omega
theorem Zmi {t a:Nat}:((t:Nat):Int)∈[(a:Int)]↔t=a:=by
  simp only [List.mem_cons,List.not_mem_nil,or_false];omega
theorem Zkj {N N1:List Zq} {f b:Nat} {Q:List Int→Prop} {c:Nat} (h0:1≤N.length) (hb:b<N.length) (h:ZW N N1 f b Q c) :
    ZW N (N1 ++ [⟨[],false,[(b:Int),(f:Int)],false⟩]) N1.length b (fun w=>w=[]∨Q w) (c+1):=by
  have hle:=h.le
  refine ⟨by simp;omega,by have:=h.cnt;simp;omega,fun i hi=>by rw [List.getElem?_append_left (by omega),h.old i hi],fun i x hi hx=>?_,by simp,fun M hM n w ha=>?_,fun M hM u v m hu ha=>?_⟩
  · rcases Nat.lt_or_ge i N1.length with hl | hl
    · rw [List.getElem?_append_left hl] at hx;exact (h.good i x hi hx).mono (by simp)
    · have:i=N1.length:=by have:=(List.getElem?_eq_some_iff.1 hx).1;simp at this;omega
      subst this
      simp at hx;subst hx
      have:=h.lt
      exact ⟨rfl,(fun t ht=>by simp at ht;rcases ht with rfl | rfl;exact ⟨b,rfl,by simp;omega⟩;exact ⟨f,rfl,by simp;omega⟩),(fun h=>by cases h),(fun _=>rfl),by simp,by simp⟩
  · have hx:M[N1.length]?=some ⟨[],false,[(b:Int),(f:Int)],false⟩:=by rw [hM _ hle (by simp)];simp
    obtain ⟨m,t,rfl,ht,hv⟩:=ZgT (N:=N1) (by omega) hx ha
    rcases Zjs.1 ht with rfl | rfl
    · exact ⟨[],w,m,rfl,.inl rfl,by omega,hv⟩
    · obtain ⟨u,v,m',e,hq,hm,hv⟩:=h.sound M (Zb9 (Nat.le_refl _) hM (by simp)) m w hv
      exact ⟨u,v,m',e,.inr hq,by omega,hv⟩
  · have hx:M[N1.length]?=some ⟨[],false,[(b:Int),(f:Int)],false⟩:=by rw [hM _ hle (by simp)];simp
    rcases hu with rfl | hu
    · exact ⟨m+1,.eps (by omega) hx rfl (by simp) ha⟩
    · obtain ⟨n,hn⟩:=h.full M (Zb9 (Nat.le_refl _) hM (by simp)) u v m hu ha
      exact ⟨n+1,.eps (by omega) hx rfl (by simp) hn⟩
structure Side (N N':List Zq) (fs:List Int) (z:Nat) (P:List Int→Prop) (c:Nat):Prop where
  le:N.length≤N'.length
  cnt:N'.length≤N.length+c
  old:∀i,i<N.length→N'[i]?=N[i]?
  good:∀i x,N.length≤i→N'[i]?=some x→Good N'.length x
  lt:∀t∈fs,∃j:Nat,t=(j:Int)∧j<N'.length
  sound:∀M,Zay N.length N'.length N' M→∀n w (j:Nat),(j:Int)∈fs→Acc M n j w→∃u v m,w=u ++ v∧P u∧m≤n∧Acc M m z v
  full:∀M,Zay N.length N'.length N' M→∀u v m,P u→Acc M m z v→∃(j:Nat) (n:Nat),(j:Int)∈fs∧Acc M n j (u ++ v)
theorem Side.nil (N:List Zq) (z:Nat):Side N N [] z (fun _=>False) 0:=
  ⟨Nat.le_refl _,Nat.le_refl _,fun _ _=>rfl,fun i x hi hx=>by have:=(List.getElem?_eq_some_iff.1 hx).1;omega,fun _ h=>by simp at h,fun _ _ _ _ _ h=>by simp at h,fun _ _ _ _ _ h=>h.elim⟩
theorem Side.snoc {N N1 N2:List Zq} {fs:List Int} {f z:Nat} {P Q:List Int→Prop} {c d:Nat} (h:Side N N1 fs z P c) (g:ZW N1 N2 f z Q d):Side N N2 (fs ++ [(f:Int)]) z (fun w=>P w∨Q w) (c+d):=by
  have ag:∀M,Zay N.length N2.length N2 M→Zay N.length N1.length N1 M∧Zay N1.length N2.length N2 M:=fun M hM=>
    ⟨fun i h1 h2=>by rw [hM i h1 (Nat.lt_of_lt_of_le h2 g.le),g.old i h2],fun i h1 h2=>hM i (Nat.le_trans h.le h1) h2⟩
  refine ⟨Nat.le_trans h.le g.le,by have:=h.cnt;have:=g.cnt;omega,fun i hi=>by rw [g.old i (Nat.lt_of_lt_of_le hi h.le),h.old i hi],fun i x hi hx=>?_,fun t ht=>?_,fun M hM n w j hj ha=>?_,fun M hM u v m hu ha=>?_⟩
  · rcases Nat.lt_or_ge i N1.length with hl | hl
    · rw [g.old i hl] at hx;exact (h.good i x hi hx).mono g.le
    · exact g.good i x hl hx
  · rcases List.mem_append.1 ht with ht | ht
    · obtain ⟨j,e,hj⟩:=h.lt t ht;exact ⟨j,e,Nat.lt_of_lt_of_le hj g.le⟩
    · simp at ht;exact ⟨f,ht,g.lt⟩
  · obtain ⟨a1,a2⟩:=ag M hM
    rcases List.mem_append.1 hj with hj | hj
    · obtain ⟨u,v,m,e,hu,r⟩:=h.sound M a1 n w j hj ha;exact ⟨u,v,m,e,.inl hu,r⟩
    · have hj:=Zmi.1 hj;subst hj
      obtain ⟨u,v,m,e,hu,r⟩:=g.sound M a2 n w ha;exact ⟨u,v,m,e,.inr hu,r⟩
  · obtain ⟨a1,a2⟩:=ag M hM
    rcases hu with hu | hu
    · obtain ⟨j,n,hj,hn⟩:=h.full M a1 u v m hu ha;exact ⟨j,n,List.mem_append.2 (.inl hj),hn⟩
    · obtain ⟨n,hn⟩:=g.full M a2 u v m hu ha;exact ⟨f,n,by simp,hn⟩
theorem Side.close {N N1:List Zq} {fs:List Int} {z:Nat} {P:List Int→Prop} {c:Nat} (h0:1≤N.length) (hl:fs.length≤1000) (h:Side N N1 fs z P c):ZW N (N1 ++ [⟨[],false,fs,false⟩]) N1.length z P (c+1):=by
  have hle:=h.le
  refine ⟨by simp;omega,by have:=h.cnt;simp;omega,fun i hi=>by rw [List.getElem?_append_left (by omega),h.old i hi],fun i x hi hx=>?_,by simp,fun M hM n w ha=>?_,fun M hM u v m hu ha=>?_⟩
  · rcases Nat.lt_or_ge i N1.length with hl | hl
    · rw [List.getElem?_append_left hl] at hx;exact (h.good i x hi hx).mono (by simp)
    · have:i=N1.length:=by have:=(List.getElem?_eq_some_iff.1 hx).1;simp at this;omega
      subst this
      simp at hx;subst hx
      exact ⟨rfl,(fun t ht=>by obtain ⟨j,e,hj⟩:=h.lt t ht;exact ⟨j,e,by simp;omega⟩),(fun h=>by cases h),(fun _=>rfl),by assumption,by simp⟩
  · have hx:M[N1.length]?=some ⟨[],false,fs,false⟩:=by rw [hM _ hle (by simp)];simp
    obtain ⟨m,t,rfl,ht,hv⟩:=ZgT (N:=N1) (by omega) hx ha
    obtain ⟨u,v,m',e,hq,hm,hv⟩:=h.sound M (Zb9 (Nat.le_refl _) hM (by simp)) m w t ht hv
    exact ⟨u,v,m',e,hq,by omega,hv⟩
  · have hx:M[N1.length]?=some ⟨[],false,fs,false⟩:=by rw [hM _ hle (by simp)];simp
    obtain ⟨j,n,hj,hn⟩:=h.full M (Zb9 (Nat.le_refl _) hM (by simp)) u v m hu ha
    exact ⟨n+1,.eps (by omega) hx rfl hj hn⟩
theorem ZjF {N N2:List Zq} {f z:Nat} {P:List Int→Prop} {c:Nat} (h0:1≤N.length) (hz:z<N.length) (h:ZW (N ++ [⟨[],false,[(z:Int)],true⟩]) N2 f N.length P c) :
    ZW N (N2.set N.length ⟨[],false,[(z:Int),(f:Int)],false⟩) N.length z (fun w=>∃n,Pow P n w) (c+1):=by
  have hle:=h.le
  simp only [List.length_append,List.length_cons,List.length_nil] at hle
  have hlt:=h.lt
  have hl:(N2.set N.length ⟨[],false,[(z:Int),(f:Int)],false⟩).length=N2.length:=List.length_set
  have at_:∀M,Zay N.length N2.length (N2.set N.length ⟨[],false,[(z:Int),(f:Int)],false⟩) M→M[N.length]?=some ⟨[],false,[(z:Int),(f:Int)],false⟩:=fun M hM=>by
    rw [hM _ (Nat.le_refl _) (by omega),List.getElem?_set,if_pos rfl,if_pos (by omega)]
  have ag:∀M,Zay N.length N2.length (N2.set N.length ⟨[],false,[(z:Int),(f:Int)],false⟩) M→Zay (N ++ [(⟨[],false,[(z:Int)],true⟩:Zq)]).length N2.length N2 M:=fun M hM i h1 h2=>by
    simp only [List.length_append,List.length_cons,List.length_nil] at h1
    rw [hM i (by omega) h2,List.getElem?_set,if_neg (by omega)]
  refine ⟨by rw [hl];omega,by rw [hl];have:=h.cnt;simp only [List.length_append,List.length_cons,List.length_nil] at this;omega,fun i hi=>?_,fun i x hi hx=>?_,by rw [hl];omega,fun M hM=>?_,fun M hM u v m hu ha=>?_⟩
  · rw [List.getElem?_set,if_neg (by omega),h.old i (by simp;omega),List.getElem?_append_left hi]
  · rw [hl]
    rw [List.getElem?_set] at hx
    split at hx
    · rw [if_pos (by omega)] at hx;cases hx
      exact ⟨rfl,(fun t ht=>by simp at ht;rcases ht with rfl | rfl;exact ⟨z,rfl,by omega⟩;exact ⟨f,rfl,hlt⟩),(fun h=>by cases h),(fun _=>rfl),by simp,by simp⟩
    · exact h.good i x (by simp;omega) hx
  · rw [hl] at hM
    intro n
    induction n using Nat.strongRecOn with
    | ind n ih=>
      intro w ha
      obtain ⟨m,t,rfl,ht,hv⟩:=ZgT h0 (at_ M hM) ha
      rcases Zjs.1 ht with rfl | rfl
      · exact ⟨[],w,m,rfl,⟨0,rfl⟩,by omega,hv⟩
      · obtain ⟨u,v,m',rfl,hp,hm,hv⟩:=h.sound M (ag M hM) m w hv
        obtain ⟨u',v',m2,rfl,⟨k,hk⟩,hm2,hv2⟩:=ih m' (by omega) v hv
        exact ⟨u ++ u',v',m2,(List.append_assoc ..).symm,⟨k+1,u,u',rfl,hp,hk⟩,by omega,hv2⟩
  · rw [hl] at hM
    obtain ⟨k,hk⟩:=hu
    induction k generalizing u with
    | zero=>cases hk;exact ⟨m+1,.eps (t:=z) (by omega) (at_ M hM) rfl (by simp) ha⟩
    | succ k ih=>
      obtain ⟨u1,u2,rfl,hp,hk⟩:=hk
      obtain ⟨n1,h1⟩:=ih u2 hk
      obtain ⟨n2,h2⟩:=h.full M (ag M hM) u1 (u2 ++ v) n1 hp h1
      exact ⟨n2+1,.eps (t:=f) (by omega) (at_ M hM) rfl (by simp) (by rw [List.append_assoc];exact h2)⟩
end Go.Proofs.YthilboheomikjaaGreatDoor
end
section
namespace Go.Proofs.YthilboheomikjaaGreatDoor
open Go.AL Go.Lib
set_option maxRecDepth 100000
def ZdT (R:Zm→Ze→Int→Option (Int×Zm)) (x:Ze):Prop:=
  ∀(N:List Zq) (fst:Int) (z:Nat),z<N.length→1≤N.length→N.length+cnt x≤1073741824→∃N' f,R ⟨N,fst⟩ x (z:Int)=some (((f:Nat):Int),⟨N',fst⟩)∧ZW N N' f z (Lang x) (cnt x)
theorem ZiZ (a b:List Ze):cntL (a ++ b)=cntL a+cntL b:=by
  induction a with
  | nil=>simp [cntL]
  | cons x a ih=>simp only [List.cons_append,cntL,ih];omega
theorem Zhm {l:List Ze} {j:Nat} (h:j<l.length):cntL (l.take (j+1))=cntL (l.take j)+cnt l[j]:=by
  rw [List.take_succ_eq_append_getElem h,ZiZ];simp [cntL]
theorem Zke {l:List Ze} {j:Nat} (h:j<l.length) (w:List Int):Cat (Lang l[j]) (LSeq (l.drop (j+1))) w↔LSeq (l.drop j) w:=by
  rw [List.drop_eq_getElem_cons h];exact Iff.rfl
theorem Zfy:∀(a b:List Ze) (w:List Int),LAlt (a ++ b) w↔LAlt a w∨LAlt b w
  | [],b,w=>by simp [LAlt]
  | x :: a,b,w=>by
    have:=Zfy a b w
    simp only [List.cons_append,LAlt,this,or_assoc]
theorem Zhg {l:List Ze} {j:Nat} (h:j<l.length) (w:List Int):(LAlt (l.take j) w∨Lang l[j] w)↔LAlt (l.take (j+1)) w:=by
  rw [List.take_succ_eq_append_getElem h,Zfy];simp [LAlt]
theorem ZiQ {R:Zm→Ze→Int→Option (Int×Zm)} {v1:Ze} {fst:Int} {z:Nat} {N:List Zq} (hR:∀x∈v1.f_L,ZdT R x) (h0:1≤N.length) (hlen:v1.f_L.length≤1000) :
    ∀(j m:Nat) (Nj:List Zq) (t c:Nat),j≤v1.f_L.length→j<m→ZW N Nj t z (LSeq (v1.f_L.drop j)) c→Nj.length+cntL (v1.f_L.take j)≤1073741824→
      ∃N' f,ZeB R v1 m ⟨Nj,fst⟩ (t:Int) ((j:Int)-1)=some (((f:Nat):Int),⟨N',fst⟩)∧ZW N N' f z (LSeq v1.f_L) (c+cntL (v1.f_L.take j))
  | 0,m+1,Nj,t,c,hj,hm,hA,hb=>by
    refine ⟨Nj,t,?_,by simpa [cntL] using hA⟩
    show ZdD _ _ _ _ _ _=_
    unfold ZdD
    rw [df (by omega)];rfl
  | j+1,m+1,Nj,t,c,hj,hm,hA,hb=>by
    have hjl:j<v1.f_L.length:=by omega
    rw [Zhm hjl] at hb
    have hle:=hA.le
    obtain ⟨N1,f1,e1,A1⟩:=hR _ (List.getElem_mem hjl) Nj fst t hA.lt (by omega) (by omega)
    obtain ⟨N',f,e2,A2⟩:=ZiQ hR h0 hlen j m N1 f1 (c+cnt v1.f_L[j]) (by omega) (by omega) ((hA.comp A1).congr (fun w=>Zke hjl w) (Nat.le_refl _)) (by have:=A1.cnt;omega)
    refine ⟨N',f,?_,A2.congr (fun _=>Iff.rfl) (by rw [Zhm hjl];omega)⟩
    show ZdD _ _ _ _ _ _=_
    unfold ZdD
    rw [show ((j+1:Nat):Int)-1=(j:Int) by omega,dt (by omega),Zb5 hjl]
    simp only [cond,Option.bind_some,e1]
    rw [Zt (by omega) (by omega)];exact e2
theorem Zii {R:Zm→Ze→Int→Option (Int×Zm)} {v1:Ze} {fst:Int} {z k:Nat} {N:List Zq} (hR:∀x∈v1.f_L,ZdT R x) (h0:1≤N.length) (hz:z<N.length) (hlen:v1.f_L.length≤1000) :
    ∀(d j m:Nat) (Nj:List Zq) (fs:List Int) (c:Nat),j+d=v1.f_L.length→d<m→fs.length=j→Side N Nj fs z (LAlt (v1.f_L.take j)) c→c+cntL (v1.f_L.drop j)+1+N.length≤1073741824→
      ∃N' f,ZeC R k v1 (z:Int) m ⟨Nj,fst⟩ fs (j:Int)=some (((f:Nat):Int),⟨N',fst⟩)∧ZW N N' f z (LAlt v1.f_L) (c+cntL (v1.f_L.drop j)+1)
  | 0,j,m+1,Nj,fs,c,hj,hm,hf,hA,hb=>by
    have hj':j=v1.f_L.length:=by omega
    subst hj'
    have hc:=hA.cnt
    refine ⟨_,Nj.length,?_,((hA.close h0 (by omega))).congr (fun w=>by rw [List.take_length]) (by omega)⟩
    show ZdE _ _ _ _ _ _ _ _=_
    unfold ZdE
    rw [df (by omega)]
    simp only [cond]
    rw [Ze8 (by omega)];rfl
  | d+1,j,m+1,Nj,fs,c,hj,hm,hf,hA,hb=>by
    have hjl:j<v1.f_L.length:=by omega
    have hd:cntL (v1.f_L.drop j)=cnt v1.f_L[j]+cntL (v1.f_L.drop (j+1)):=by rw [List.drop_eq_getElem_cons hjl];rfl
    rw [hd] at hb
    have hc:=hA.cnt;have hle:=hA.le
    obtain ⟨N1,f1,e1,A1⟩:=hR _ (List.getElem_mem hjl) Nj fst z (by omega) (by omega) (by omega)
    obtain ⟨N',f,e2,A2⟩:=Zii (fst:=fst) (k:=k) hR h0 hz hlen d (j+1) m N1 (fs ++ [(f1:Int)]) (c+cnt v1.f_L[j]) (by omega) (by omega) (by simp [hf]) (by
      have:=hA.snoc A1
      exact ⟨this.le,this.cnt,this.old,this.good,this.lt,fun M hM n w q hq ha=>by obtain ⟨u,v,mm,e,hu,r⟩:=this.sound M hM n w q hq ha;exact ⟨u,v,mm,e,(Zhg hjl u).1 hu,r⟩,
        fun M hM u v mm hu ha=>this.full M hM u v mm ((Zhg hjl u).2 hu) ha⟩) (by omega)
    refine ⟨N',f,?_,A2.congr (fun _=>Iff.rfl) (by omega)⟩
    show ZdE _ _ _ _ _ _ _ _=_
    unfold ZdE
    rw [dt (by omega),Zb5 hjl]
    simp only [cond,Option.bind_some,e1]
    rw [if_pos (by simp;omega),Zt (by omega) (by omega)];exact e2
theorem Zfo {P:List Int→Prop} (a b:Nat) (w:List Int):Cat (Pow P a) (Pow P b) w↔Pow P (a+b) w:=by
  induction a generalizing w with
  | zero=>
    rw [Nat.zero_add]
    exact ⟨fun ⟨u,v,e,hu,hv⟩=>by cases hu;subst e;exact hv,fun h=>⟨[],w,rfl,rfl,h⟩⟩
  | succ a ih=>
    rw [show a+1+b=(a+b)+1 by omega]
    constructor
    · rintro ⟨u,v,rfl,⟨u1,u2,rfl,h1,h2⟩,hv⟩
      exact ⟨u1,u2 ++ v,List.append_assoc ..,h1,(ih _).1 ⟨u2,v,rfl,h2,hv⟩⟩
    · rintro ⟨u,v,rfl,h1,h2⟩
      obtain ⟨v1,v2,rfl,h3,h4⟩:=(ih _).2 h2
      exact ⟨u ++ v1,v2,(List.append_assoc ..).symm,⟨u,v1,rfl,h1,h3⟩,h4⟩
theorem Zk2 {P Q:List Int→Prop} (a:Nat) (w:List Int):Cat P (Cat (Pow P a) Q) w↔Cat (Pow P (a+1)) Q w:=by
  constructor
  · rintro ⟨u,v,rfl,h1,v1,v2,rfl,h2,h3⟩
    exact ⟨u ++ v1,v2,(List.append_assoc ..).symm,⟨u,v1,rfl,h1,h2⟩,h3⟩
  · rintro ⟨u,v,rfl,⟨u1,u2,rfl,h1,h2⟩,h3⟩
    exact ⟨u1,u2 ++ v,List.append_assoc ..,h1,u2,v,rfl,h2,h3⟩
theorem ZfT {R:Zm→Ze→Int→Option (Int×Zm)} {v1 x:Ze} {fst:Int} {z:Nat} {N:List Zq} {Q:List Int→Prop} (hx:idxL v1.f_L 0=some x) (hR:ZdT R x) (h0:1≤N.length) (hm0:0≤v1.f_Min) (hm1:v1.f_Min≤20) :
    ∀(d i m:Nat) (Ni:List Zq) (t c:Nat),(i:Int)+d=v1.f_Min→d<m→ZW N Ni t z (Cat (Pow (Lang x) i) Q) c→Ni.length+d*cnt x≤1073741824→
      ∃N' f,ZeE R v1 m ⟨Ni,fst⟩ (t:Int) (i:Int)=some (((f:Nat):Int),⟨N',fst⟩)∧ZW N N' f z (Cat (Pow (Lang x) v1.f_Min.toNat) Q) (c+d*cnt x)
  | 0,i,m+1,Ni,t,c,hi,hm,hA,hb=>by
    have e:v1.f_Min.toNat=i:=by omega
    rw [e]
    refine ⟨Ni,t,?_,by simpa using hA⟩
    show ZdG _ _ _ _ _ _=_
    unfold ZdG
    rw [df (by omega)];rfl
  | d+1,i,m+1,Ni,t,c,hi,hm,hA,hb=>by
    have hle:=hA.le
    rw [Nat.add_mul,Nat.one_mul] at hb
    obtain ⟨N1,f1,e1,A1⟩:=hR Ni fst t hA.lt (by omega) (by omega)
    obtain ⟨N',f,e2,A2⟩:=ZfT hx hR h0 hm0 hm1 d (i+1) m N1 f1 (c+cnt x) (by omega) (by omega) ((hA.comp A1).congr (fun w=>Zk2 i w) (Nat.le_refl _)) (by have:=A1.cnt;omega)
    refine ⟨N',f,?_,A2.congr (fun _=>Iff.rfl) (by rw [Nat.add_mul,Nat.one_mul];omega)⟩
    show ZdG _ _ _ _ _ _=_
    unfold ZdG
    rw [dt (by omega),hx]
    simp only [cond,Option.bind_some,e1]
    rw [Zt (by omega) (by omega)];exact e2
def ZcT (P:List Int→Prop) (j:Nat) (w:List Int):Prop:=∃n,n≤j∧Pow P n w
theorem ZjC {P:List Int→Prop} (j:Nat) (w:List Int):(w=[]∨Cat P (ZcT P j) w)↔ZcT P (j+1) w:=by
  constructor
  · rintro (rfl | ⟨u,v,rfl,h1,n,hn,h2⟩)
    · exact ⟨0,by omega,rfl⟩
    · exact ⟨n+1,by omega,u,v,rfl,h1,h2⟩
  · rintro ⟨n,hn,h⟩
    cases n with
    | zero=>exact .inl h
    | succ n=>obtain ⟨u,v,rfl,h1,h2⟩:=h;exact .inr ⟨u,v,rfl,h1,n,by omega,h2⟩
theorem Zix {R:Zm→Ze→Int→Option (Int×Zm)} {v1 x:Ze} {fst:Int} {z k:Nat} {N:List Zq} (hx:idxL v1.f_L 0=some x) (hR:ZdT R x) (h0:1≤N.length) (hz:z<N.length) (hm0:0≤v1.f_Min) (hm1:v1.f_Min≤20) (hm2:v1.f_Max≤20) (hm3:v1.f_Min≤v1.f_Max) (hk:21≤k) :
    ∀(d j m:Nat) (Nj:List Zq) (t c:Nat),(j:Int)+d=v1.f_Max-v1.f_Min→d<m→ZW N Nj t z (ZcT (Lang x) j) c→Nj.length+d*(cnt x+1)+v1.f_Min.toNat*cnt x≤1073741824→
      ∃N' f,ZeD R k v1 (z:Int) m ⟨Nj,fst⟩ (t:Int) (j:Int)=some (((f:Nat):Int),⟨N',fst⟩)∧ZW N N' f z (Cat (Pow (Lang x) v1.f_Min.toNat) (ZcT (Lang x) (v1.f_Max-v1.f_Min).toNat)) (c+d*(cnt x+1)+v1.f_Min.toNat*cnt x)
  | 0,j,m+1,Nj,t,c,hj,hm,hA,hb=>by
    have e:(v1.f_Max-v1.f_Min).toNat=j:=by omega
    rw [e]
    have A0:ZW N Nj t z (Cat (Pow (Lang x) 0) (ZcT (Lang x) j)) c:=hA.congr (fun w=>⟨fun h=>⟨[],w,rfl,rfl,h⟩,fun ⟨u,v,e,hu,hv⟩=>by cases hu;subst e;exact hv⟩) (Nat.le_refl _)
    obtain ⟨N',f,e2,A2⟩:=ZfT (fst:=fst) hx hR h0 hm0 hm1 v1.f_Min.toNat 0 k Nj t c (by omega) (by omega) A0 (by omega)
    refine ⟨N',f,?_,A2.congr (fun _=>Iff.rfl) (by omega)⟩
    show ZdF _ _ _ _ _ _ _ _=_
    unfold ZdF ZeA
    rw [Zt (by omega) (by omega),df (by omega)];exact e2
  | d+1,j,m+1,Nj,t,c,hj,hm,hA,hb=>by
    have hle:=hA.le
    rw [Nat.add_mul,Nat.one_mul] at hb
    obtain ⟨N1,f1,e1,A1⟩:=hR Nj fst t hA.lt (by omega) (by omega)
    have hc1:=A1.cnt
    have A3:=Zkj h0 hz (hA.comp A1)
    obtain ⟨N',f,e2,A2⟩:=Zix hx hR h0 hz hm0 hm1 hm2 hm3 hk d (j+1) m _ _ (c+cnt x+1) (by omega) (by omega) (A3.congr (fun w=>ZjC j w) (Nat.le_refl _)) (by simp;omega)
    refine ⟨N',f,?_,A2.congr (fun _=>Iff.rfl) (by rw [Nat.add_mul,Nat.one_mul];omega)⟩
    show ZdF _ _ _ _ _ _ _ _=_
    unfold ZdF
    rw [Zt (x:=v1.f_Max-v1.f_Min) (by omega) (by omega),dt (by omega),hx]
    simp only [cond,Option.bind_some,e1]
    rw [Ze8 (by omega)]
    simp only [Option.bind_some]
    rw [Zt (by omega) (by omega)];exact e2
theorem Zmb {l:List Ze} {x:Ze} (h:x∈l):fu x≤fuL l:=by
  induction l with
  | nil=>cases h
  | cons y l ih=>
    simp only [fuL]
    rcases List.mem_cons.1 h with rfl | h
    · omega
    · have:=ih h;omega
theorem Zl4 {l:List Ze} {x:Ze} (hw:WFL l) (h:x∈l):WF x:=by
  induction l with
  | nil=>cases h
  | cons y l ih=>
    rcases List.mem_cons.1 h with rfl | h
    · exact hw.1
    · exact ih hw.2 h
theorem Zh1 {a b:Int} (h:a=b):(a == b)=true:=by simpa using h
theorem Zh0 {a b:Int} (h:a≠b):(a == b)=false:=by simpa using h
theorem Zct (k:Int) (st:List Zb) (l:List Ze) (mn mx:Int) (w:List Int):Lang ⟨k,st,l,mn,mx⟩ w↔(k=1∧∃c,w=[c]∧inR st c)∨(k=2∧LSeq l w)∨(k=3∧LAlt l w)∨(k=4∧∃n:Nat,mn≤n∧(mx<0∨(n:Int)≤mx)∧Pow (LHd l) n w):=by rw [Lang]
theorem ZjD {P:List Int→Prop} (w:List Int):w=[]↔ZcT P 0 w:=by
  constructor
  · intro h;exact ⟨0,Nat.le_refl _,h⟩
  · rintro ⟨n,hn,h⟩
    have:n=0:=by omega
    rw [this] at h;exact h
theorem ZiL {x:Ze} {st:List Zb} {mn mx:Int} (w:List Int):Lang ⟨4,st,[x],mn,mx⟩ w↔∃n:Nat,mn≤n∧(mx<0∨(n:Int)≤mx)∧Pow (Lang x) n w:=by
  rw [Zct]
  constructor
  · rintro (⟨h,_⟩ | ⟨h,_⟩ | ⟨h,_⟩ | ⟨_,h⟩)
    · cases h
    · cases h
    · cases h
    · exact h
  · exact fun h=>.inr (.inr (.inr ⟨rfl,h⟩))
theorem Zki:∀(k:Nat) (r:Ze),k≤1048576→WF r→fu r≤k→ZdT (F78 k) r
  | 0,⟨kd,st,l,mn,mx⟩,_,_,hf=>by simp only [fu] at hf;omega
  | k+1,⟨kd,st,l,mn,mx⟩,hk,hw,hf=>by
    intro N fst z hz h0 hb
    simp only [fu] at hf
    obtain ⟨⟨hkd,h4,hst,hll⟩,hwl⟩:=hw
    simp only [] at hkd h4 hst hll
    have hsub:∀x∈l,ZdT (F78 k) x:=fun x hx=>Zki k x (by omega) (Zl4 hwl hx) (by have:=Zmb hx;omega)
    show ∃N' f,ZhX (F78 k) k ⟨N,fst⟩ ⟨kd,st,l,mn,mx⟩ (z:Int)=_∧_
    unfold ZhX
    simp only [cnt] at hb ⊢
    by_cases k1:kd=1
    · subst k1
      simp only [if_true] at hb ⊢
      refine ⟨_,N.length,?_,(Zkk (s:=st) hst hz h0).congr (fun w=>?_) (Nat.le_refl _)⟩
      · rw [Zh1 rfl]
        simp only [cond]
        rw [Ze8 (by omega)];rfl
      · rw [Zct]
        exact ⟨fun h=>.inl ⟨rfl,h⟩,fun h=>by
          rcases h with ⟨_,h⟩ | ⟨h,_⟩ | ⟨h,_⟩ | ⟨h,_⟩
          · exact h
          all_goals cases h⟩
    rw [Zh0 k1]
    simp only [cond,if_neg k1] at hb ⊢
    by_cases k2:kd=2
    · subst k2
      rw [Zh1 rfl]
      simp only [if_true] at hb ⊢
      have hl:(w64 ((l.length:Int)-1))=(l.length:Int)-1:=Zt (by omega) (by omega)
      rw [hl]
      obtain ⟨N',f,e,A⟩:=ZiQ (v1:=⟨2,st,l,mn,mx⟩) (fst:=fst) hsub h0 (by show l.length≤_;omega) l.length k N z 0 (Nat.le_refl _) (by omega) (by
        show ZW N N z z (LSeq (l.drop l.length)) 0
        rw [List.drop_length];exact ZW.refl hz) (by show _+cntL (l.take l.length)≤_;rw [List.take_length];omega)
      refine ⟨N',f,e,A.congr (fun w=>?_) (by show 0+cntL (l.take l.length)≤_;rw [List.take_length];omega)⟩
      show LSeq l w↔Lang _ w
      rw [Zct]
      exact ⟨fun h=>.inr (.inl ⟨rfl,h⟩),fun h=>by
          rcases h with ⟨h,_⟩ | ⟨_,h⟩ | ⟨h,_⟩ | ⟨h,_⟩
          · cases h
          · exact h
          all_goals cases h⟩
    rw [Zh0 k2]
    simp only [if_neg k2] at hb ⊢
    by_cases k3:kd=3
    · subst k3
      rw [Zh1 rfl]
      simp only [if_true] at hb ⊢
      obtain ⟨N',f,e,A⟩:=Zii (v1:=⟨3,st,l,mn,mx⟩) (fst:=fst) (k:=k) hsub h0 hz (by show l.length≤_;omega) l.length 0 k N [] 0 (by show 0+l.length=l.length;omega) (by omega) rfl (by
        show Side N N [] z (LAlt (l.take 0)) 0
        exact Side.nil N z) (by show 0+cntL (l.drop 0)+1+N.length≤_;rw [List.drop_zero];omega)
      refine ⟨N',f,e,A.congr (fun w=>?_) (by show 0+cntL (l.drop 0)+1≤_;rw [List.drop_zero];omega)⟩
      show LAlt l w↔Lang _ w
      rw [Zct]
      exact ⟨fun h=>.inr (.inr (.inl ⟨rfl,h⟩)),fun h=>by
          rcases h with ⟨h,_⟩ | ⟨h,_⟩ | ⟨_,h⟩ | ⟨h,_⟩
          · cases h
          · cases h
          · exact h
          all_goals cases h⟩
    rw [Zh0 k3]
    simp only [if_neg k3] at hb ⊢
    have k4:kd=4:=by omega
    subst k4
    obtain ⟨hl1,hm0,hm1,hm2,hm3⟩:=h4 rfl
    obtain ⟨x,rfl⟩:∃x,l=[x]:=by
      match l,hl1 with
      | [x],_=>exact ⟨x,rfl⟩
    have hx:ZdT (F78 k) x:=hsub x (by simp)
    have hi:idxL [x] 0=some x:=rfl
    simp only [cntL,Nat.add_zero] at hb ⊢
    by_cases km:mx<0
    · rw [dt km]
      simp only [if_pos km] at hb ⊢
      rw [Nat.add_mul,Nat.one_mul] at hb ⊢
      rw [Ze8 (by omega)]
      simp only [Option.bind_some,hi]
      obtain ⟨N2,f,e,A⟩:=hx (N ++ [⟨[],false,[(z:Int)],true⟩]) fst N.length (by simp) (by simp) (by simp;omega)
      have hle:=A.le;have hct:=A.cnt
      simp only [List.length_append,List.length_cons,List.length_nil] at hle hct
      have hat:N2[N.length]?=some ⟨[],false,[(z:Int)],true⟩:=by rw [A.old N.length (by simp)];simp
      rw [e]
      simp only [Option.bind_some]
      rw [if_pos ⟨by omega,by omega⟩,Zz,hat]
      simp only [Option.bind_some]
      rw [if_pos trivial,if_pos (by simp),if_pos ⟨by omega,by omega⟩]
      have S:=ZjF h0 hz A
      have A0:ZW N (N2.set N.length ⟨[],false,[(z:Int),(f:Int)],false⟩) N.length z (Cat (Pow (Lang x) 0) (fun w=>∃n,Pow (Lang x) n w)) (cnt x+1):=S.congr (fun w=>⟨fun h=>⟨[],w,rfl,rfl,h⟩,fun ⟨u,v,e,hu,hv⟩=>by cases hu;subst e;exact hv⟩) (Nat.le_refl _)
      obtain ⟨N',f',e2,A2⟩:=ZfT (v1:=⟨4,st,[x],mn,mx⟩) (fst:=fst) hi hx h0 hm0 hm1 mn.toNat 0 k _ _ _ (by show ((0:Nat):Int)+mn.toNat=mn;omega) (by omega) A0 (by rw [List.length_set];omega)
      refine ⟨N',f',?_,A2.congr (fun w=>?_) (by omega)⟩
      · unfold ZeA
        rw [Int.toNat_natCast]
        exact e2
      · rw [ZiL]
        constructor
        · rintro ⟨u,v,rfl,hu,n,hn⟩
          exact ⟨mn.toNat+n,by omega,.inl km,(Zfo _ _ _).1 ⟨u,v,rfl,hu,hn⟩⟩
        · rintro ⟨n,hn,_,h⟩
          have:n=mn.toNat+(n-mn.toNat):=by omega
          rw [this] at h
          obtain ⟨u,v,e,hu,hv⟩:=(Zfo _ _ _).2 h
          exact ⟨u,v,e,hu,_,hv⟩
    · rw [df km]
      simp only [if_neg km] at hb ⊢
      have hm3':mn≤mx:=by rcases hm3 with h | h;omega;exact h
      have hsplit:mx.toNat*cnt x+(mx-mn).toNat=(mx-mn).toNat*(cnt x+1)+mn.toNat*cnt x:=by
        have:mx.toNat=(mx-mn).toNat+mn.toNat:=by omega
        rw [this,Nat.add_mul,Nat.mul_add,Nat.mul_one];omega
      rw [hsplit] at hb ⊢
      have A0:ZW N N z z (ZcT (Lang x) 0) 0:=(ZW.refl hz).congr (fun w=>ZjD w) (Nat.le_refl _)
      obtain ⟨N',f',e2,A2⟩:=Zix (v1:=⟨4,st,[x],mn,mx⟩) (fst:=fst) (k:=k) hi hx h0 hz hm0 hm1 hm2 hm3' (by omega) (mx-mn).toNat 0 k N z 0 (by show ((0:Nat):Int)+(mx-mn).toNat=mx-mn;omega) (by omega) A0 (by show _+_*_+mn.toNat*_≤_;omega)
      refine ⟨N',f',e2,A2.congr (fun w=>?_) (by show 0+_+mn.toNat*_≤_;omega)⟩
      rw [ZiL]
      show Cat (Pow (Lang x) mn.toNat) (ZcT (Lang x) (mx-mn).toNat) w↔_
      constructor
      · rintro ⟨u,v,rfl,hu,n,hn,hv⟩
        exact ⟨mn.toNat+n,by omega,.inr (by omega),(Zfo _ _ _).1 ⟨u,v,rfl,hu,hv⟩⟩
      · rintro ⟨n,hn,h2,h⟩
        have:n=mn.toNat+(n-mn.toNat):=by omega
        rw [this] at h
        obtain ⟨u,v,e,hu,hv⟩:=(Zfo _ _ _).2 h
        exact ⟨u,v,e,hu,_,by omega,hv⟩
end Go.Proofs.YthilboheomikjaaGreatDoor
end
section
namespace Go.Proofs.YthilboheomikjaaGreatDoor
open Go.AL Go.Lib
set_option maxRecDepth 100000
def Stop (N:List Zq) (i:Nat):Prop:=∃x,N[i]?=some x∧(x.f_some=true∨i=0)
def Eps (N:List Zq) (i:Nat) (x:Zq):Prop:=N[i]?=some x∧x.f_some=false∧i≠0
inductive Reach (N:List Zq):Nat→Nat→Prop
  | refl (i:Nat):Reach N i i
  | step {i t j:Nat} {x:Zq}:Eps N i x→(t:Int)∈x.f_next→Reach N t j→Reach N i j
def Sn (s:List Bool) (i:Nat):Prop:=s[i]?=some true
structure ZgG (N:List Zq) (i:Nat) (s:List Bool) (o:List Int) (s':List Bool) (o':List Int):Prop where
  len:s'.length=s.length
  mono:∀j,Sn s j→Sn s' j
  here:Sn s' i
  new:∀j,Sn s' j→Sn s j∨Reach N i j
  out:∃d,o'=o ++ d∧∀t∈d,∃j:Nat,t=(j:Int)∧Stop N j∧Sn s' j∧Reach N i j
  stop:∀j,Sn s' j→¬Sn s j→Stop N j→(j:Int)∈o'
  eps:∀j,Sn s' j→¬Sn s j→∀x,Eps N j x→∀t∈x.f_next,∃q:Nat,t=(q:Int)∧Sn s' q
  size:o'.length+s'.count false≤o.length+s.count false
structure Mach (N:List Zq):Prop where
  good:∀(i:Nat) (x:Zq),N[i]?=some x→Good N.length x
  zero:∃x,N[0]?=some x∧x.f_some=false∧x.f_set=[]
  big:N.length≤536870912
theorem ZgW {s:List Bool} {i:Nat} (h:s[i]?=some false):(s.set i true).count false+1=s.count false:=by
  obtain ⟨hl,he⟩:=List.getElem?_eq_some_iff.1 h
  rw [List.count_set hl,he]
  have:0<s.count false:=List.count_pos_iff.2 (by rw [←he];exact List.getElem_mem hl)
  simp;omega
theorem Zm0 {s:List Bool} {i j:Nat} (hi:i<s.length):Sn (s.set i true) j↔Sn s j∨j=i:=by
  unfold Sn
  rw [List.getElem?_set]
  by_cases e:i=j
  · subst e;simp [hi]
  · rw [if_neg e];constructor
    · exact .inl
    · rintro (h | h);exact h;exact absurd h.symm e
theorem Zgj {N:List Zq} {R:Zm→List Int→List Bool→Int→Option (List Int×List Bool)} {fst:Int} {x:Zq} {u:Nat} (hM:Mach N) (hx:∀t∈x.f_next,∃j:Nat,t=(j:Int)∧j<N.length)
    (hR:∀(s:List Bool) (o:List Int) (i:Nat),i<N.length→s.length=N.length→s.count false≤u→o.length+s.count false≤1073741823→∃o' s',R ⟨N,fst⟩ o s (i:Int)=some (o',s')∧ZgG N i s o s' o') (hn:x.f_next.length≤1048576) :
    ∀(d i m:Nat) (s:List Bool) (o:List Int),i+d=x.f_next.length→d<m→s.length=N.length→s.count false≤u→o.length+s.count false≤1073741823→
      ∃o' s',ZcE R ⟨N,fst⟩ x m o s (i:Int)=some (o',s')∧s'.length=s.length∧(∀j,Sn s j→Sn s' j)∧(∀t∈x.f_next.drop i,∃q:Nat,t=(q:Int)∧Sn s' q)∧
        (∀j,Sn s' j→Sn s j∨∃t:Nat,(t:Int)∈x.f_next∧Reach N t j)∧(∃dd,o'=o ++ dd∧∀t∈dd,∃j:Nat,t=(j:Int)∧Stop N j∧Sn s' j∧∃t:Nat,(t:Int)∈x.f_next∧Reach N t j)∧
        (∀j,Sn s' j→¬Sn s j→Stop N j→(j:Int)∈o')∧(∀j,Sn s' j→¬Sn s j→∀y,Eps N j y→∀t∈y.f_next,∃q:Nat,t=(q:Int)∧Sn s' q)∧o'.length+s'.count false≤o.length+s.count false
  | 0,i,m+1,s,o,hi,hm,hs,hu,ho=>by
    refine ⟨o,s,?_,rfl,fun _ h=>h,fun t ht=>?_,fun j h=>.inl h,⟨[],by simp,fun t ht=>by cases ht⟩,fun j h h'=>absurd h h',fun j h h'=>absurd h h',Nat.le_refl _⟩
    · show ZdH _ _ _ _ _ _ _=_
      unfold ZdH
      rw [df (by omega)];rfl
    · rw [List.drop_eq_nil_of_le (by omega)] at ht;cases ht
  | d+1,i,m+1,s,o,hi,hm,hs,hu,ho=>by
    have hil:i<x.f_next.length:=by omega
    obtain ⟨j,ej,hj⟩:=hx _ (List.getElem_mem hil)
    obtain ⟨o1,s1,e1,C1⟩:=hR s o j hj hs hu ho
    have hz:=C1.size
    have hc:s1.count false≤s.count false:=by
      have:o1.length≥o.length:=by obtain ⟨dd,e,_⟩:=C1.out;rw [e];simp
      omega
    obtain ⟨o2,s2,e2,g1,g2,g3,g4,g5,g6,g7,g8⟩:=Zgj hM hx hR hn d (i+1) m s1 o1 (by omega) (by omega) (by rw [C1.len,hs]) (by omega) (by omega)
    have hmem:(j:Int)∈x.f_next:=by rw [←ej];exact List.getElem_mem hil
    refine ⟨o2,s2,?_,by rw [g1,C1.len],fun q h=>g2 q (C1.mono q h),fun t ht=>?_,fun q h=>?_,?_,fun q h h' hst=>?_,fun q h h' y hy t ht=>?_,by omega⟩
    · show ZdH _ _ _ _ _ _ _=_
      unfold ZdH
      rw [dt (by omega),Zb5 hil]
      simp only [cond,Option.bind_some,ej,e1]
      rw [if_pos (by rw [C1.len]),Zt (by omega) (by omega)];exact e2
    · rw [List.drop_eq_getElem_cons hil] at ht
      rcases List.mem_cons.1 ht with rfl | ht
      · exact ⟨j,ej,g2 j C1.here⟩
      · exact g3 t ht
    · rcases g4 q h with h | h
      · rcases C1.new q h with h | h
        · exact .inl h
        · exact .inr ⟨j,hmem,h⟩
      · exact .inr h
    · obtain ⟨d1,f1,f2⟩:=C1.out
      obtain ⟨d2,f3,f4⟩:=g5
      refine ⟨d1 ++ d2,by rw [f3,f1,List.append_assoc],fun t ht=>?_⟩
      rcases List.mem_append.1 ht with ht | ht
      · obtain ⟨q,a,b,c,e⟩:=f2 t ht;exact ⟨q,a,b,g2 q c,j,hmem,e⟩
      · exact f4 t ht
    · by_cases hq:Sn s1 q
      · have:=C1.stop q hq h' hst
        obtain ⟨d2,f3,_⟩:=g5
        rw [f3];exact List.mem_append.2 (.inl this)
      · exact g6 q h hq hst
    · by_cases hq:Sn s1 q
      · obtain ⟨p,a,b⟩:=C1.eps q hq h' y hy t ht;exact ⟨p,a,g2 p b⟩
      · exact g7 q h hq y hy t ht
theorem ZfN {N:List Zq} {fst:Int} (hM:Mach N):∀(k u:Nat) (s:List Bool) (o:List Int) (i:Nat),i<N.length→s.length=N.length→s.count false≤u→u+1002≤k→o.length+s.count false≤1073741823→
    ∃o' s',F79 k ⟨N,fst⟩ o s (i:Int)=some (o',s')∧ZgG N i s o s' o'
  | 0,u,s,o,i,hi,hs,hu,hk,ho=>by omega
  | k+1,u,s,o,i,hi,hs,hu,hk,ho=>by
    have hsi:i<s.length:=by omega
    have hnode:=List.getElem?_eq_getElem hi
    show ∃o' s',ZhY (F79 k) k ⟨N,fst⟩ o s (i:Int)=_∧_
    unfold ZhY
    rw [if_pos ⟨by omega,by omega⟩,Zb5 hsi]
    simp only [Option.bind_some]
    cases hv:s[i] with
    | true=>
      refine ⟨o,s,rfl,rfl,fun _ h=>h,by unfold Sn;rw [List.getElem?_eq_getElem hsi,hv],fun j h=>.inl h,⟨[],by simp,fun t ht=>by cases ht⟩,fun j h h'=>absurd h h',fun j h h'=>absurd h h',Nat.le_refl _⟩
    | false=>
      have hcs:=ZgW (s:=s) (i:=i) (by rw [List.getElem?_eq_getElem hsi,hv])
      simp only [cond]
      rw [if_pos ⟨by omega,by omega⟩,Zb5 hi]
      simp only [Option.bind_some]
      unfold Zgc
      rw [Int.toNat_natCast]
      have hsn:∀j,Sn (s.set i true) j↔Sn s j∨j=i:=fun j=>Zm0 hsi
      have hnot:¬Sn s i:=by unfold Sn;rw [List.getElem?_eq_getElem hsi,hv];intro h;cases h
      by_cases hst:N[i].f_some=true∨i=0
      ·
        have hfin:(match (!N[i].f_some) with
            | true=>match ((i:Int) != 0) with
              | true=>ZcE (F79 k) ⟨N,fst⟩ N[i] k o (s.set i true) 0
              | false=>if o.length + [(i:Int)].length≤1073741824 then some (o ++ [(i:Int)],s.set i true) else none
            | false=>match false with
              | true=>ZcE (F79 k) ⟨N,fst⟩ N[i] k o (s.set i true) 0
              | false=>if o.length + [(i:Int)].length≤1073741824 then some (o ++ [(i:Int)],s.set i true) else none)=some (o ++ [(i:Int)],s.set i true):=by
          have hle:o.length + [(i:Int)].length≤1073741824:=by simp;omega
          rcases hst with h | h
          · rw [h];simp only [Bool.not_true];rw [if_pos hle]
          · subst h
            have h00:(((0:Nat):Int) != 0)=false:=rfl
            cases N[0].f_some
            · simp only [Bool.not_false];rw [h00];simp only [];rw [if_pos hle]
            · simp only [Bool.not_true];rw [if_pos hle]
        refine ⟨o ++ [(i:Int)],s.set i true,hfin,by simp,fun j h=>(hsn j).2 (.inl h),(hsn i).2 (.inr rfl),fun j h=>?_,⟨[(i:Int)],rfl,fun t ht=>?_⟩,fun j h h' _=>?_,fun j h h' x hx=>?_,by simp;omega⟩
        · rcases (hsn j).1 h with h | rfl
          · exact .inl h
          · exact .inr (.refl _)
        · simp at ht;exact ⟨i,ht,⟨_,hnode,hst⟩,(hsn i).2 (.inr rfl),.refl _⟩
        · rcases (hsn j).1 h with h | rfl
          · exact absurd h h'
          · simp
        · rcases (hsn j).1 h with h | rfl
          · exact absurd h h'
          · rw [hx.1] at hnode;cases hnode
            rcases hst with h1 | h1
            · rw [hx.2.1] at h1;cases h1
            · exact absurd h1 hx.2.2
      ·
        have h1:N[i].f_some=false:=by cases h:N[i].f_some with | true=>exact absurd (.inl h) hst | false=>rfl
        have h2:i≠0:=fun h=>hst (.inr h)
        have hE:Eps N i N[i]:=⟨hnode,h1,h2⟩
        have hG:=hM.good i _ hnode
        have hnx:=hG.2.2.2.2.1
        obtain ⟨o',s',e,g1,g2,g3,g4,g5,g6,g7,g8⟩:=Zgj (R:=F79 k) (fst:=fst) (u:=u-1) hM hG.2.1 (fun s o q hq hs' hu' ho'=>ZfN hM k (u-1) s o q hq hs' hu' (by omega) ho') (by omega)
          N[i].f_next.length 0 k (s.set i true) o (by omega) (by omega) (by simp [hs]) (by omega) (by omega)
        refine ⟨o',s',?_,by rw [g1];simp,fun j h=>g2 j ((hsn j).2 (.inl h)),g2 i ((hsn i).2 (.inr rfl)),fun j h=>?_,?_,fun j h h' hs2=>?_,fun j h h' x hx t ht=>?_,by omega⟩
        · rw [h1]
          have:((i:Int) != 0)=true:=by rw [bne_iff_ne];omega
          simp only [Bool.not_false];rw [this];exact e
        · rcases g4 j h with h | ⟨t,ht,hr⟩
          · rcases (hsn j).1 h with h | rfl
            · exact .inl h
            · exact .inr (.refl _)
          · exact .inr (.step hE ht hr)
        · obtain ⟨dd,f1,f2⟩:=g5
          exact ⟨dd,f1,fun t ht=>by obtain ⟨j,a,b,c,q,hq,hr⟩:=f2 t ht;exact ⟨j,a,b,c,.step hE hq hr⟩⟩
        · by_cases hq:Sn (s.set i true) j
          · rcases (hsn j).1 hq with hq | rfl
            · exact absurd hq h'
            · obtain ⟨x,hx,hx'⟩:=hs2
              rw [hnode] at hx;cases hx;exact absurd hx' hst
          · exact g6 j h hq hs2
        · by_cases hq:Sn (s.set i true) j
          · rcases (hsn j).1 hq with hq | rfl
            · exact absurd hq h'
            · rw [hx.1] at hnode;cases hnode
              exact g3 t (by rw [List.drop_zero];exact ht)
          · exact g7 j h hq x hx t ht
end Go.Proofs.YthilboheomikjaaGreatDoor
end
section
namespace Go.Proofs.YthilboheomikjaaGreatDoor
open Go.AL
set_option maxRecDepth 100000
def Zf3 (k:Nat) (self1:(List Int)→Int→Option Bool) (v1:List UInt8) (y106:Zm) (v116:List Int) (v117:Int):Option Bool:=
  (cond (decide (v117<(v1.length:Int))) ((F55 k v1 v117).bind fun y119=>(F56 k y106 v116 y119.1).bind fun y120=>(self1 y120 (w64 (v117+y119.2)))) ((F57 k y106 v116).bind fun y121=>(some y121)))
def Zeu (k:Nat) (v1:List UInt8) (y106:Zm):Nat→(List Int)→Int→Option Bool
  | 0,_,_=>none
  | m_+1,v116,v117=>Zf3 k (Zeu k v1 y106 m_) v1 y106 v116 v117
def Zet (k:Nat) (v0:Ze) (v1:List UInt8) (v104:Bool):Option Bool:=
  cond v104 ((some false)) ((F53 k v0).bind fun y106=>(F54 k y106).bind fun y107=>((Zeu k v1 y106 k y107 0)))
def F31 (k:Nat) (v0:Ze) (v1:List UInt8):Option Bool:=
  (F30 k v0).bind fun y101=>cond (!y101) ((Zet k v0 v1 true)) ((F49 k v1).bind fun y103=>(Zet k v0 v1 (!y103)))
theorem ZJ (k:Nat) (v0:Ze) (v1:List UInt8) (r:Bool) (hF:F31 k v0 v1=some r):Sim Tryz.prog GL0 31 [.val true (pvL (Zd v0)),one (.str v1)] [] (one (.bool r)) []:=by
 refine ZC [] Tryz.func31 rfl kr kr ?_
 show WA _ _ 42 _ _ _
 refine WA.seq ?_
 refine WA.reg [1,2] [102] [(0,.obj 102)] (env':=[(1,one (.str v1)),(2,.val false [.ptr 102 1 0 0])]) (os':=[(102,.box (pvL (Zd v0)))]) (O:=[]) kr (sound _ _) trivial ?_
 refine WA.seq ?_
 refine WA.join (fun s_=>∃(v104:Bool),Zi s_.env [1,2,17]=[(1,one (.str v1)),(2,.val false [.ptr 102 1 0 0]),(17,one (.bool v104))]∧Zi s_.os [102]=[(102,.box (pvL (Zd v0)))]∧Zet k v0 v1 v104=some r) ?_ ?_
 {
 rintro s_ ⟨v104,he,ho,hF⟩
 refine WA.keep _ _ he ho ?_
 clear he ho
 refine WA.cond (b:=v104) rfl (fun hb105=>?_) (fun hb105=>?_)
 {
 have hF:=Zk hF hb105
 refine WA.seq ?_
 refine WA.reg [4] [] [] (env':=[(4,one (.bool false))]) (os':=[]) (O:=[]) kr (sound _ _) trivial ?_
 refine WA.ret ?_
 obtain rfl:=Option.some.inj hF
 exact Zu (one (.bool false)) [] kr kr kr kr (by decide) rfl rfl }
 {
 have hF:=Zj hF hb105
 refine WA.skip ?_
 refine WA.seq ?_
 obtain ⟨y106,hy106,hF⟩:=bind_some hF
 refine WA.reg [1,5] [] [(1,.callR [] (.val false [.vp (Zr y106)]))] (env':=[(1,one (.str v1)),(5,.val false [.vp (Zr y106)])]) (os':=[]) (O:=[Sim Tryz.prog GL0 53 [.val true (pvL (Zd v0))] [] (.val false [.vp (Zr y106)]) [],([]:List Nat).Nodup]) kr (sound _ _) ⟨(ZmB k _ _ hy106),(by decide),trivial⟩ ?_
 refine WA.seq ?_
 obtain ⟨y107,hy107,hF⟩:=bind_some hF
 refine WA.reg [1,5,6] [] [(1,.callR [] (one (.sl (y107.map (eInt .i64)))))] (env':=[(1,one (.str v1)),(5,.val false [.vp (Zr y106)]),(6,one (.sl (y107.map (eInt .i64))))]) (os':=[]) (O:=[Sim Tryz.prog GL0 54 [.val false [.vp (Zr y106)]] [] (one (.sl (y107.map (eInt .i64)))) [],([]:List Nat).Nodup]) kr (sound _ _) ⟨(ZmC k _ _ hy107),(by decide),trivial⟩ ?_
 refine WA.seq ?_
 refine WA.seq ?_
 refine WA.reg [1,5,6,7] [] [] (env':=[(1,one (.str v1)),(5,.val false [.vp (Zr y106)]),(6,one (.sl (y107.map (eInt .i64)))),(7,one (.int .i64 0))]) (os':=[]) (O:=[]) kr (sound _ _) trivial ?_
 refine WA.block ?_
 refine WA.loop (fun m s_=>∃(v116:List Int) (v117:Int),Zi s_.env [1,5,6,7]=[(1,one (.str v1)),(5,.val false [.vp (Zr y106)]),(6,one (.sl (v116.map (eInt .i64)))),(7,one (.int .i64 v117))]∧Zi s_.os []=[]∧Zeu k v1 y106 m v116 v117=some r) k ⟨y107,0,kr,kr,hF⟩ ?_
 clear hF
 rintro m1 s_ ⟨v116,v117,he,ho,hF⟩
 refine WA.keep _ _ he ho ?_
 clear he ho
 cases m1 with
 | zero=>cases hF
 | succ m1=>
  obtain ⟨self1,hself1⟩:∃g,g=Zeu k v1 y106 m1:=⟨_,rfl⟩
  have hF:Zf3 k self1 v1 y106 v116 v117=some r:=by first | (rw [hself1];exact hF) | exact hF
  refine WA.seq ?_
  refine WA.seq ?_
  refine WA.reg [1,5,6,7,25] [] [] (env':=[(1,one (.str v1)),(5,.val false [.vp (Zr y106)]),(6,one (.sl (v116.map (eInt .i64)))),(7,one (.int .i64 v117)),(25,one (.bool (decide (v117<(v1.length:Int)))))]) (os':=[]) (O:=[]) kr (sound _ _) trivial ?_
  refine WA.cond (b:=(decide (v117<(v1.length:Int)))) rfl (fun hb118=>?_) (fun hb118=>?_)
  {
 have hF:=Zk hF hb118
 refine WA.skip ?_
 refine WA.block ?_
 refine WA.seq ?_
 obtain ⟨y119,hy119,hF⟩:=bind_some hF
 refine WA.reg [1,5,6,7,8,9] [] [(2,.callR [] (.tup [(false,[.pv (.int .i64 y119.1)]),(false,[.pv (.int .i64 y119.2)])]))] (env':=[(1,one (.str v1)),(5,.val false [.vp (Zr y106)]),(6,one (.sl (v116.map (eInt .i64)))),(7,one (.int .i64 v117)),(8,one (.int .i64 y119.1)),(9,one (.int .i64 y119.2))]) (os':=[]) (O:=[Sim Tryz.prog GL0 55 [one (.str v1),one (.int .i64 v117)] [] (.tup [(false,[.pv (.int .i64 y119.1)]),(false,[.pv (.int .i64 y119.2)])]) [],([]:List Nat).Nodup]) kr (sound _ _) ⟨(Zib k _ _ _ hy119),(by decide),trivial⟩ ?_
 refine WA.seq ?_
 obtain ⟨y120,hy120,hF⟩:=bind_some hF
 refine WA.reg [1,5,6,7,9] [] [(3,.callR [] (one (.sl (y120.map (eInt .i64)))))] (env':=[(1,one (.str v1)),(5,.val false [.vp (Zr y106)]),(6,one (.sl (y120.map (eInt .i64)))),(7,one (.int .i64 v117)),(9,one (.int .i64 y119.2))]) (os':=[]) (O:=[Sim Tryz.prog GL0 56 [.val false [.vp (Zr y106)],one (.sl (v116.map (eInt .i64))),one (.int .i64 y119.1)] [] (one (.sl (y120.map (eInt .i64)))) [],([]:List Nat).Nodup]) kr (sound _ _) ⟨(ZmD k _ _ _ _ hy120),(by decide),trivial⟩ ?_
 refine WA.reg [1,5,6,7] [] [] (env':=[(1,one (.str v1)),(5,.val false [.vp (Zr y106)]),(6,one (.sl (y120.map (eInt .i64)))),(7,one (.int .i64 (w64 (v117+y119.2))))]) (os':=[]) (O:=[]) kr (sound _ _) trivial ?_
 exact ⟨m1,Nat.lt_succ_self _,y120,(w64 (v117+y119.2)),kr,kr,by rw [hself1] at hF;exact hF⟩ }
  {
 have hF:=Zj hF hb118
 refine WA.exit ?_
 refine WA.seq ?_
 obtain ⟨y121,hy121,hF⟩:=bind_some hF
 refine WA.reg [4] [] [(2,.callR [] (one (.bool y121)))] (env':=[(4,one (.bool y121))]) (os':=[]) (O:=[Sim Tryz.prog GL0 57 [.val false [.vp (Zr y106)],one (.sl (v116.map (eInt .i64)))] [] (one (.bool y121)) [],([]:List Nat).Nodup]) kr (sound _ _) ⟨(ZmE k _ _ _ hy121),(by decide),trivial⟩ ?_
 refine WA.ret ?_
 obtain rfl:=Option.some.inj hF
 exact Zu (one (.bool y121)) [] kr kr kr kr (by decide) rfl rfl } } }
 {
 obtain ⟨y101,hy101,hF⟩:=bind_some hF
 rcases Bool.eq_false_or_eq_true (!y101) with hb102 | hb102
 {
 have hF:=Zk hF hb102
 refine WA.reg [1,2,17] [102] [(1,.callR [] (one (.bool y101))),(3,.bool true)] (env':=[(1,one (.str v1)),(2,.val false [.ptr 102 1 0 0]),(17,one (.bool true))]) (os':=[(102,.box (pvL (Zd v0)))]) (O:=[Sim Tryz.prog GL0 30 [.val true (pvL (Zd v0))] [] (one (.bool y101)) [],([]:List Nat).Nodup,(!y101)=true]) kr (sound _ _) ⟨(Zj7 k _ _ hy101),(by decide),hb102,trivial⟩ ?_
 exact ⟨true,kr,kr,hF⟩ }
 {
 have hF:=Zj hF hb102
 obtain ⟨y103,hy103,hF⟩:=bind_some hF
 refine WA.reg [1,2,17] [102] [(1,.callR [] (one (.bool y101))),(3,.bool false),(5,.callR [] (one (.bool y103)))] (env':=[(1,one (.str v1)),(2,.val false [.ptr 102 1 0 0]),(17,one (.bool (!y103)))]) (os':=[(102,.box (pvL (Zd v0)))]) (O:=[Sim Tryz.prog GL0 30 [.val true (pvL (Zd v0))] [] (one (.bool y101)) [],([]:List Nat).Nodup,(!y101)=false,Sim Tryz.prog GL0 49 [one (.str v1)] [] (one (.bool y103)) [],([]:List Nat).Nodup]) kr (sound _ _) ⟨(Zj7 k _ _ hy101),(by decide),hb102,(Zf7 k _ _ hy103),(by decide),trivial⟩ ?_
 exact ⟨(!y103),kr,kr,hF⟩ } }
end Go.Proofs.YthilboheomikjaaGreatDoor
end
section
namespace Go.Proofs.YthilboheomikjaaGreatDoor
open Go.AL Go.Lib
set_option maxRecDepth 100000
structure ZaO (N:List Zq) (T:Nat→Prop) (s:List Bool) (o:List Int):Prop where
  len:s.length=N.length
  root:∀t,T t→Sn s t
  new:∀j,Sn s j→∃t,T t∧Reach N t j
  out:∀t∈o,∃j:Nat,t=(j:Int)∧Stop N j∧∃r,T r∧Reach N r j
  stop:∀j,Sn s j→Stop N j→(j:Int)∈o
  eps:∀j,Sn s j→∀x,Eps N j x→∀t∈x.f_next,∃q:Nat,t=(q:Int)∧Sn s q
  size:o.length+s.count false≤N.length
theorem ZgD (n j:Nat):¬Sn (List.replicate n false) j:=by
  unfold Sn
  rw [List.getElem?_replicate];split <;> simp
theorem ZaO.nil (N:List Zq):ZaO N (fun _=>False) (List.replicate N.length false) []:=
  ⟨by simp,fun _ h=>h.elim,fun j h=>absurd h (ZgD _ _),fun _ h=>by simp at h,fun j h=>absurd h (ZgD _ _),fun j h=>absurd h (ZgD _ _),by simp⟩
theorem ZaO.close {N:List Zq} {T:Nat→Prop} {s s':List Bool} {o o':List Int} {i:Nat} (h:ZaO N T s o) (c:ZgG N i s o s' o'):ZaO N (fun t=>T t∨t=i) s' o':=by
  refine ⟨by rw [c.len,h.len],fun t ht=>?_,fun j hj=>?_,fun t ht=>?_,fun j hj hst=>?_,fun j hj x hx t ht=>?_,by have:=c.size;have:=h.size;omega⟩
  · rcases ht with ht | rfl
    · exact c.mono t (h.root t ht)
    · exact c.here
  · rcases c.new j hj with hj | hj
    · obtain ⟨t,a,b⟩:=h.new j hj;exact ⟨t,.inl a,b⟩
    · exact ⟨i,.inr rfl,hj⟩
  · obtain ⟨d,e,hd⟩:=c.out
    rw [e] at ht
    rcases List.mem_append.1 ht with ht | ht
    · obtain ⟨j,a,b,r,e,f⟩:=h.out t ht;exact ⟨j,a,b,r,.inl e,f⟩
    · obtain ⟨j,a,b,_,e⟩:=hd t ht;exact ⟨j,a,b,i,.inr rfl,e⟩
  · by_cases hs:Sn s j
    · obtain ⟨d,e,_⟩:=c.out
      rw [e];exact List.mem_append.2 (.inl (h.stop j hs hst))
    · exact c.stop j hj hs hst
  · by_cases hs:Sn s j
    · obtain ⟨q,a,b⟩:=h.eps j hs x hx t ht;exact ⟨q,a,c.mono q b⟩
    · exact c.eps j hj hs x hx t ht
theorem Reach.acc {N:List Zq} {i j:Nat} (h:Reach N i j) {n:Nat} {w:List Int} (ha:Acc N n j w):∃m,Acc N m i w:=by
  induction h with
  | refl i=>exact ⟨n,ha⟩
  | step hE ht _ ih=>obtain ⟨m,hm⟩:=ih ha;exact ⟨m+1,.eps hE.2.2 hE.1 hE.2.1 ht hm⟩
theorem Zhp {N:List Zq} {T:Nat→Prop} {s:List Bool} {o:List Int} (hM:Mach N) (h:ZaO N T s o) (w:List Int):(∃t,T t∧∃n,Acc N n t w)↔∃j:Nat,(j:Int)∈o∧∃n,Acc N n j w:=by
  have key:∀(n j:Nat),Sn s j→Acc N n j w→∃q:Nat,(q:Int)∈o∧∃n,Acc N n q w:=by
    intro n
    induction n using Nat.strongRecOn with
    | ind n ih=>
      intro j hj ha
      rcases ha.inv with ⟨e,_⟩ | ⟨m,x,c,t,v,rfl,rfl,h1,h2,h3,h4,h5⟩ | ⟨m,x,t,rfl,h0,h1,h2,h3,h4⟩
      · subst e
        obtain ⟨x,hx,_⟩:=hM.zero
        exact ⟨0,h.stop 0 hj ⟨x,hx,.inr rfl⟩,n,ha⟩
      · exact ⟨j,h.stop j hj ⟨x,h1,.inl h2⟩,_,ha⟩
      · obtain ⟨q,e,hq⟩:=h.eps j hj x ⟨h1,h2,h0⟩ t h3
        have:t=q:=by omega
        subst this
        exact ih m (by omega) t hq h4
  constructor
  · rintro ⟨t,ht,n,ha⟩;exact key n t (h.root t ht) ha
  · rintro ⟨j,hj,n,ha⟩
    obtain ⟨j',e,_,r,hr,hre⟩:=h.out _ hj
    have:j=j':=by omega
    subst this
    exact ⟨r,hr,hre.acc ha⟩
def ZhZ (N:List Zq) (l:List Int):Prop:=∀t∈l,∃j:Nat,t=(j:Int)∧Stop N j
theorem Stop.lt {N:List Zq} {j:Nat} (h:Stop N j):j<N.length:=by
  obtain ⟨x,hx,_⟩:=h;exact (List.getElem?_eq_some_iff.1 hx).1
theorem Za0 {N:List Zq} {T T':Nat→Prop} {s:List Bool} {o:List Int} (h:ZaO N T s o) (e:∀t,T t↔T' t):ZaO N T' s o:=
  ⟨h.len,fun t ht=>h.root t ((e t).2 ht),fun j hj=>by obtain ⟨t,a,b⟩:=h.new j hj;exact ⟨t,(e t).1 a,b⟩,fun t ht=>by obtain ⟨j,a,b,r,c,d⟩:=h.out t ht;exact ⟨j,a,b,r,(e r).1 c,d⟩,h.stop,h.eps,h.size⟩
theorem Zk5 {k:Nat} {N:List Zq} {f:Nat} (hM:Mach N) (hf:f<N.length) (hk:N.length+1002≤k):∃o s,F54 k ⟨N,f⟩=some o∧ZaO N (fun t=>t=f) s o:=by
  have hb:=hM.big
  obtain ⟨o,s,e,c⟩:=ZfN (fst:=f) hM k N.length (List.replicate N.length false) [] f hf (by simp) (by simp) hk (by simp;omega)
  refine ⟨o,s,?_,Za0 ((ZaO.nil N).close c) (fun t=>⟨fun h=>h.elim (fun h=>h.elim) id,.inr⟩)⟩
  unfold F54
  rw [if_pos (by show (N.length:Int)≤_;omega)]
  show (F79 k ⟨N,f⟩ [] (List.replicate N.length false) (f:Int)).bind _=_
  rw [e];rfl
theorem Zhd {k:Nat} {N:List Zq} {fst:Int} {c:Int} {j:Nat} {x:Zq} (hM:Mach N) (hk:N.length+1002≤k) (hx:N[j]?=some x) {kont:List Int→List Bool→Int→Option (List Int)} {v215:Int} :
    ∀(d i m:Nat) (T:Nat→Prop) (s:List Bool) (o:List Int),i+d=x.f_set.length→d<m→ZaO N T s o→
      ∃o' s',Zbl k kont ⟨N,fst⟩ c v215 (j:Int) x m o s (i:Int)=kont o' s' (w64 (v215+1))∧ZaO N (fun t=>T t∨(inR (x.f_set.drop i) c∧x.f_next=[(t:Int)])) s' o'
  | 0,i,m+1,T,s,o,hi,hm,hF=>by
    refine ⟨o,s,?_,Za0 hF fun t=>⟨.inl,fun h=>h.elim id fun ⟨⟨r,hr,_⟩,_⟩=>by rw [List.drop_eq_nil_of_le (by omega)] at hr;cases hr⟩⟩
    show Zcr _ _ _ _ _ _ _ _ _ _ _=_
    unfold Zcr
    rw [df (by omega)];rfl
  | d+1,i,m+1,T,s,o,hi,hm,hF=>by
    have hil:i<x.f_set.length:=by omega
    have hb:=hM.big
    have hG:=hM.good j x hx
    show ∃o' s',Zcr _ _ _ _ _ _ _ _ _ _ _=_∧_
    unfold Zcr
    rw [dt (by omega),Zb5 hil]
    simp only [cond,Option.bind_some]
    have hd:=List.drop_eq_getElem_cons hil
    by_cases hc:c≥x.f_set[i].f_Lo∧c≤x.f_set[i].f_Hi
    · rw [dt hc.1,dt hc.2]
      have hsome:x.f_some=true:=by
        cases h:x.f_some with
        | true=>rfl
        | false=>have:=hG.2.2.2.1 h;rw [this] at hil;simp at hil
      obtain ⟨t,ht⟩:=hG.2.2.1 hsome
      obtain ⟨q,rfl,hq⟩:=hG.2.1 t (by rw [ht];simp)
      have hfs:=hF.size
      obtain ⟨o1,s1,e1,c1⟩:=ZfN (fst:=fst) hM k N.length s o q hq hF.len (by omega) hk (by omega)
      obtain ⟨o2,s2,e2,F2⟩:=Zhd (fst:=fst) (c:=c) hM hk hx (kont:=kont) (v215:=v215) d (i+1) m _ s1 o1 (by omega) (by omega) (hF.close c1)
      refine ⟨o2,s2,?_,Za0 F2 fun t=>?_⟩
      · simp only [ZbB,cond]
        rw [Zz,hx]
        simp only [Option.bind_some,ht]
        rw [show idxL [(q:Int)] 0=some (q:Int) from rfl]
        simp only [Option.bind_some,e1]
        rw [if_pos c1.len]
        unfold Zdt
        rw [Zt (by have:=hG.2.2.2.2.2;omega) (by have:=hG.2.2.2.2.2;omega)];exact e2
      · rw [hd]
        constructor
        · rintro ((h | rfl) | ⟨⟨r,hr,h2⟩,h3⟩)
          · exact .inl h
          · exact .inr ⟨⟨_,List.mem_cons_self,hc⟩,ht⟩
          · exact .inr ⟨⟨r,List.mem_cons_of_mem _ hr,h2⟩,h3⟩
        · rintro (h | ⟨_,h3⟩)
          · exact .inl (.inl h)
          · rw [ht] at h3;simp at h3;exact .inl (.inr (by omega))
    · obtain ⟨o2,s2,e2,F2⟩:=Zhd (fst:=fst) (c:=c) hM hk hx (kont:=kont) (v215:=v215) d (i+1) m T s o (by omega) (by omega) hF
      refine ⟨o2,s2,?_,Za0 F2 fun t=>?_⟩
      · have:(match decide (c≥x.f_set[i].f_Lo) with
            | true=>ZbB k (Zbl k kont ⟨N,fst⟩ c v215 (j:Int) x m) ⟨N,fst⟩ (j:Int) o s (i:Int) (decide (c≤x.f_set[i].f_Hi))
            | false=>ZbB k (Zbl k kont ⟨N,fst⟩ c v215 (j:Int) x m) ⟨N,fst⟩ (j:Int) o s (i:Int) false)=ZbB k (Zbl k kont ⟨N,fst⟩ c v215 (j:Int) x m) ⟨N,fst⟩ (j:Int) o s (i:Int) false:=by
          by_cases h1:c≥x.f_set[i].f_Lo
          · rw [dt h1,df (fun h2=>hc ⟨h1,h2⟩)]
          · rw [df h1]
        refine this.trans ?_
        simp only [ZbB,Zdt,cond]
        rw [Zt (by have:=hG.2.2.2.2.2;omega) (by have:=hG.2.2.2.2.2;omega)];exact e2
      · rw [hd]
        constructor
        · rintro (h | ⟨⟨r,hr,h2⟩,h3⟩)
          · exact .inl h
          · exact .inr ⟨⟨r,List.mem_cons_of_mem _ hr,h2⟩,h3⟩
        · rintro (h | ⟨⟨r,hr,h2⟩,h3⟩)
          · exact .inl h
          · rcases List.mem_cons.1 hr with rfl | hr
            · exact absurd h2 hc
            · exact .inr ⟨⟨r,hr,h2⟩,h3⟩
def Zm3 (N:List Zq) (l:List Int) (c:Int) (t:Nat):Prop:=∃(j:Nat) (x:Zq),(j:Int)∈l∧N[j]?=some x∧inR x.f_set c∧x.f_next=[(t:Int)]
theorem ZiU {k:Nat} {N:List Zq} {fst:Int} {l:List Int} {c:Int} (hM:Mach N) (hk:N.length+1002≤k) (hl:ZhZ N l) (hlk:l.length≤536870912) :
    ∀(d i m:Nat) (T:Nat→Prop) (s:List Bool) (o:List Int),i+d=l.length→d<m→ZaO N T s o→
      ∃o' s',ZbC k ⟨N,fst⟩ l c m o s (i:Int)=some o'∧ZaO N (fun t=>T t∨Zm3 N (l.drop i) c t) s' o'
  | 0,i,m+1,T,s,o,hi,hm,hF=>by
    refine ⟨o,s,?_,Za0 hF fun t=>⟨.inl,fun h=>h.elim id fun ⟨j,x,hj,_⟩=>by rw [List.drop_eq_nil_of_le (by omega)] at hj;cases hj⟩⟩
    show Zcq _ _ _ _ _ _ _ _=_
    unfold Zcq
    rw [df (by omega)];rfl
  | d+1,i,m+1,T,s,o,hi,hm,hF=>by
    have hil:i<l.length:=by omega
    obtain ⟨j,ej,hst⟩:=hl _ (List.getElem_mem hil)
    obtain ⟨x,hx,_⟩:=hst
    have hG:=hM.good j x hx
    obtain ⟨o1,s1,e1,F1⟩:=Zhd (fst:=fst) (c:=c) hM hk hx (kont:=ZbC k ⟨N,fst⟩ l c m) (v215:=(i:Int)) x.f_set.length 0 k T s o (by omega) (by have:=hG.2.2.2.2.2;omega) hF
    obtain ⟨o2,s2,e2,F2⟩:=ZiU hM hk hl hlk d (i+1) m _ s1 o1 (by omega) (by omega) F1
    refine ⟨o2,s2,?_,Za0 F2 fun t=>?_⟩
    · show Zcq _ _ _ _ _ _ _ _=_
      unfold Zcq
      rw [dt (by omega),Zb5 hil]
      simp only [cond,Option.bind_some,ej]
      rw [Zz,hx]
      simp only [Option.bind_some]
      rw [show Zbl k (ZbC k ⟨N,fst⟩ l c m) ⟨N,fst⟩ c (i:Int) (j:Int) x k o s 0=_ from e1,Zt (by omega) (by omega)];exact e2
    · rw [List.drop_eq_getElem_cons hil,List.drop_zero,ej]
      constructor
      · rintro ((h | ⟨h1,h2⟩) | ⟨j',x',h1,h2⟩)
        · exact .inl h
        · exact .inr ⟨j,x,by simp,hx,h1,h2⟩
        · exact .inr ⟨j',x',List.mem_cons_of_mem _ h1,h2⟩
      · rintro (h | ⟨j',x',h1,h2,h3,h4⟩)
        · exact .inl (.inl h)
        · rcases List.mem_cons.1 h1 with h1 | h1
          · have:j'=j:=by omega
            subst this
            rw [hx] at h2;cases h2
            exact .inl (.inr ⟨h3,h4⟩)
          · exact .inr ⟨j',x',h1,h2,h3,h4⟩
theorem Zmu {k:Nat} {N:List Zq} {fst:Int} {l:List Int} {c:Int} (hM:Mach N) (hk:N.length+1002≤k) (hl:ZhZ N l) (hlk:l.length<k) (hlb:l.length≤536870912) :
    ∃o,F56 k ⟨N,fst⟩ l c=some o∧ZhZ N o∧o.length≤N.length∧∀w,(∃j:Nat,(j:Int)∈l∧∃n,Acc N n j (c :: w))↔∃j:Nat,(j:Int)∈o∧∃n,Acc N n j w:=by
  have hb:=hM.big
  obtain ⟨o,s,e,F⟩:=ZiU (fst:=fst) (c:=c) hM hk hl hlb l.length 0 k _ _ _ (by omega) hlk (ZaO.nil N)
  refine ⟨o,?_,fun t ht=>by obtain ⟨j,a,b,_⟩:=F.out t ht;exact ⟨j,a,b⟩,by have:=F.size;omega,fun w=>?_⟩
  · unfold F56
    rw [if_pos ⟨by omega,by show (N.length:Int)≤_;omega⟩]
    show ZbC k ⟨N,fst⟩ l c k [] (List.replicate (Int.toNat (N.length:Int)) false) 0=_
    rw [Int.toNat_natCast];exact e
  · rw [←Zhp hM F w]
    constructor
    · rintro ⟨j,hj,n,ha⟩
      obtain ⟨j',ej,hst⟩:=hl _ hj
      have:j=j':=by omega
      subst this
      obtain ⟨y,hy,hy2⟩:=hst
      rcases ha.inv with ⟨_,e⟩ | ⟨m,x,c',t,v,rfl,e,h1,h2,h3,h4,h5⟩ | ⟨m,x,t,rfl,h0,h1,h2,h3,h4⟩
      · cases e
      · cases e
        exact ⟨t,.inr ⟨j,x,hj,h1,h3,h4⟩,m,h5⟩
      · rw [hy] at h1;cases h1
        rcases hy2 with h | h
        · rw [h] at h2;cases h2
        · exact absurd h h0
    · rintro ⟨t,h | ⟨j,x,hj,hx,hc,hn⟩,n,ha⟩
      · exact h.elim
      · have hG:=hM.good j x hx
        have hs:x.f_some=true:=by
          cases h:x.f_some with
          | true=>rfl
          | false=>obtain ⟨r,hr,_⟩:=hc;rw [hG.2.2.2.1 h] at hr;cases hr
        exact ⟨j,hj,n+1,.set hx hs hc hn ha⟩
theorem Zho {l:List Int} (hl:l.length≤1073741824):∀(d i m:Nat),i+d=l.length→d<m→Zdv l m (i:Int)=some (decide ((0:Int)∈l.drop i))
  | 0,i,m+1,hi,hm=>by
    show Zdu _ _ _=_
    unfold Zdu
    rw [df (by omega),List.drop_eq_nil_of_le (by omega)];rfl
  | d+1,i,m+1,hi,hm=>by
    have hil:i<l.length:=by omega
    show Zdu _ _ _=_
    unfold Zdu
    rw [dt (by omega),Zb5 hil]
    simp only [cond,Option.bind_some]
    rw [List.drop_eq_getElem_cons hil]
    by_cases h:l[i]=0
    · rw [Zh1 h,h];simp
    · rw [Zh0 h]
      simp only []
      rw [Zt (by omega) (by omega),show (i:Int)+1=((i+1:Nat):Int) by omega,Zho hl d (i+1) m (by omega) (by omega)]
      congr 1
      have:(0:Int)∈l[i] :: l.drop (i+1)↔(0:Int)∈l.drop (i+1):=⟨fun hh=>(List.mem_cons.1 hh).elim (fun e=>absurd e.symm h) id,List.mem_cons_of_mem _⟩
      exact decide_eq_decide.2 this.symm
theorem ZlA {N:List Zq} {j n:Nat} (h:Stop N j):Acc N n j []↔j=0:=by
  constructor
  · intro ha
    obtain ⟨y,hy,hy2⟩:=h
    rcases ha.inv with ⟨e,_⟩ | ⟨m,x,c',t,v,rfl,e,h1,h2,h3,h4,h5⟩ | ⟨m,x,t,rfl,h0,h1,h2,h3,h4⟩
    · exact e
    · cases e
    · rw [hy] at h1;cases h1
      rcases hy2 with h | h
      · rw [h] at h2;cases h2
      · exact h
  · rintro rfl;exact .fin _
theorem Zgr {k:Nat} {N:List Zq} {fst:Int} {s:List UInt8} (hM:Mach N) (hk:N.length+1002≤k) (hs:s.length≤4611686018427387904):∀(m i:Nat) (l:List Int),i≤s.length→s.length-i<m→validD (s.drop i)=true→ZhZ N l→l.length≤N.length→
    ∃b,Zeu k s ⟨N,fst⟩ m l (i:Int)=some b∧(b=true↔∃j:Nat,(j:Int)∈l∧∃n,Acc N n j (pts (s.drop i)))
  | 0,i,l,_,h,_,_,_=>by omega
  | m+1,i,l,hi,h,hv,hl,hll=>by
    have hb:=hM.big
    show ∃b,Zf3 _ _ _ _ _ _=_∧_
    unfold Zf3
    rcases Nat.lt_or_ge i s.length with hil | hil
    · have hne:s.drop i≠[]:=fun h=>by have:=congrArg List.length h;rw [List.length_drop] at this;simp at this;omega
      obtain ⟨hbad,hv'⟩:=Zj2 hne hv
      have hle:=decodeL_le _ hne
      rw [List.length_drop] at hle
      have hw:=decodeL_width (s.drop i)
      rw [dt (by omega),Zkb hil hs]
      simp only [cond,Option.bind_some,nxt,if_neg hbad]
      obtain ⟨o,e,ho,hol,hacc⟩:=Zmu (fst:=fst) (c:=((decodeL (s.drop i)).1:Int)) hM hk hl (by omega) (by omega)
      rw [e]
      simp only [Option.bind_some]
      rw [Zt (by omega) (by omega),show (i:Int)+((decodeL (s.drop i)).2:Nat)=((i+(decodeL (s.drop i)).2:Nat):Int) by omega]
      obtain ⟨b,hb1,hb2⟩:=Zgr (fst:=fst) hM hk hs m (i+(decodeL (s.drop i)).2) o (by omega) (by omega) (by rw [←List.drop_drop];exact hv') ho hol
      refine ⟨b,hb1,hb2.trans ?_⟩
      rw [ZiF hne,←List.drop_drop]
      exact (hacc _).symm
    · have hd:s.drop i=[]:=List.drop_eq_nil_of_le hil
      rw [df (by omega),hd,Zfv]
      simp only [cond]
      refine ⟨decide ((0:Int)∈l),?_,?_⟩
      · have:=Zho (l:=l) (by omega) l.length 0 k (by omega) (by omega)
        unfold F57
        rw [show Zdv l k 0=_ from this,List.drop_zero];rfl
      · rw [decide_eq_true_iff]
        constructor
        · intro h;exact ⟨0,h,0,.fin _⟩
        · rintro ⟨j,hj,n,ha⟩
          obtain ⟨j',e,hst⟩:=hl _ hj
          have:j=j':=by omega
          subst this
          have:=(ZlA hst).1 ha
          subst this;exact hj
theorem ZjM {k:Nat} {r:Ze} (hk:k≤1048576) (hw:WF r) (hf:fu r≤k) (hc:cnt r≤268435456) :
    ∃(N:List Zq) (f:Nat),F53 k r=some ⟨N,f⟩∧Mach N∧f<N.length∧N.length≤1+cnt r∧∀w,(∃n,Acc N n f w)↔Lang r w:=by
  obtain ⟨N,f,e,A⟩:=Zki k r hk hw hf [⟨[],false,[],false⟩] 0 0 (by simp) (by simp) (by simp;omega)
  have hle:=A.le;have hct:=A.cnt
  simp only [List.length_cons,List.length_nil] at hle hct
  have h0:N[0]?=some ⟨[],false,[],false⟩:=by rw [A.old 0 (by simp)];rfl
  have hgood:∀(i:Nat) (x:Zq),N[i]?=some x→Good N.length x:=fun i x hx=>by
    cases i with
    | zero=>rw [h0] at hx;cases hx;exact ⟨rfl,(fun t h=>by cases h),(fun h=>by cases h),(fun _=>rfl),by simp,by simp⟩
    | succ i=>exact A.good (i+1) x (by simp) hx
  refine ⟨N,f,?_,⟨hgood,⟨_,h0,rfl,rfl⟩,by omega⟩,A.lt,by omega,fun w=>?_⟩
  · unfold F53
    rw [show F78 k ⟨[⟨[],false,[],false⟩],0⟩ r 0=_ from e]
    simp only [Option.bind_some]
    rw [if_pos]
    rw [List.all_eq_true]
    intro x hx
    obtain ⟨i,hi⟩:=List.mem_iff_getElem?.1 hx
    rw [(hgood i x hi).1];rfl
  · have ag:Zay [(⟨[],false,[],false⟩:Zq)].length N.length N N:=fun i _ _=>rfl
    constructor
    · rintro ⟨n,ha⟩
      obtain ⟨u,v,m,rfl,hu,_,hv⟩:=A.sound N ag n w ha
      have:v=[]:=by
        rcases hv.inv with ⟨_,e⟩ | ⟨m,x,c',t,v,rfl,e,h1,h2,h3,h4,h5⟩ | ⟨m,x,t,rfl,h0',_⟩
        · exact e
        · rw [h0] at h1;cases h1;cases h2
        · exact absurd rfl h0'
      subst this
      rw [List.append_nil];exact hu
    · intro h
      obtain ⟨n,hn⟩:=A.full N ag w [] 0 h (.fin _)
      rw [List.append_nil] at hn
      exact ⟨n,hn⟩
theorem Zlg {k:Nat} {r:Ze} {s:List UInt8} (hk:k≤1048576) (hw:WF r) (hf:fu r≤k) (hc:cnt r+1003≤k) (hs:s.length<k) (hm:F30 k r=some true) (hv:validD s=true) :
    ∃b,F31 k r s=some b∧(b=true↔Lang r (pts s)):=by
  obtain ⟨N,f,e1,hM,hfl,hN,hacc⟩:=ZjM (k:=k) hk hw hf (by omega)
  obtain ⟨o,ss,e2,F⟩:=Zk5 (k:=k) hM hfl (by omega)
  have hfs:=F.size
  obtain ⟨b,e3,hb⟩:=Zgr (k:=k) (fst:=f) (s:=s) hM (by omega) (by omega) k 0 o (Nat.zero_le _) (by omega) (by rw [List.drop_zero];exact hv) (fun t ht=>by obtain ⟨j,a,b,_⟩:=F.out t ht;exact ⟨j,a,b⟩) (by omega)
  refine ⟨b,?_,hb.trans ?_⟩
  · unfold F31
    rw [hm]
    simp only [Option.bind_some,Bool.not_true,cond,F49,F72]
    rw [if_pos (by omega)]
    simp only [Option.bind_some,hv,Bool.not_true,Zet,cond,e1,e2]
    exact e3
  · rw [List.drop_zero,←Zhp hM F,←hacc]
    constructor
    · rintro ⟨t,rfl,h⟩;exact h
    · intro h;exact ⟨f,rfl,h⟩
theorem ZkA {k:Nat} {r:Ze} {s:List UInt8} (hs:s.length≤9223372036854775807) {m:Bool} (hm:F30 k r=some m) (hv:validD s=false):F31 k r s=some false:=by
  unfold F31
  rw [hm]
  cases m
  · rfl
  · simp only [Option.bind_some,Bool.not_true,cond,F49,F72]
    rw [if_pos hs]
    simp only [Option.bind_some,hv];rfl
end Go.Proofs.YthilboheomikjaaGreatDoor
end
section
namespace Go.Proofs.YthilboheomikjaaGreatDoor
open Go.AL Go.Lib
set_option maxRecDepth 100000
def fin (D:Int) (least:Int) (size:Int):Option (Int×Int):=if D<least∨¬Zac D then some (-1,1) else some (D,size)
end Go.Proofs.YthilboheomikjaaGreatDoor
end
section
namespace Go.Proofs.YthilboheomikjaaGreatDoor
open Go.AL Go.Lib
set_option maxRecDepth 100000
theorem Zfs {α:Type} (a:α) (l:List α):idxL (a :: l) 0=some a:=rfl
theorem Zhx (m:Nat) (l acc:List Zb):ZbK l (m+1) acc (l.length:Int)=some acc:=by
  show Zb3 _ _ _ _=_
  unfold Zb3
  rw [df (by omega)]
  rfl
theorem mx_l {a b:Int} (h:b≤a):mx a b=a:=by unfold mx;rw [if_neg (by omega)]
theorem mx_r {a b:Int} (h:a≤b):mx a b=b:=by unfold mx;split <;> omega
theorem mn_l {a b:Int} (h:a≤b):mn a b=a:=by unfold mn;rw [if_neg (by omega)]
def ptsR:List Zb:=[⟨0,55295⟩,⟨57344,1114111⟩]
theorem Zic (k:Nat):F59 k=some ptsR:=rfl
end Go.Proofs.YthilboheomikjaaGreatDoor
end
section
namespace Go.Proofs.YthilboheomikjaaGreatDoor
open Go.AL Go.Lib
set_option maxRecDepth 100000
theorem ZY {α:Type} {y l:List α} {i:Nat} {r:α} (h:y.drop i=r :: l):i<y.length∧y[i]?=some r∧y.drop (i+1)=l:=by
  have h1:i<y.length:=by
    refine Nat.lt_of_not_le fun h2=>?_
    rw [List.drop_eq_nil_of_le h2] at h
    cases h
  rw [List.drop_eq_getElem_cons h1] at h
  injection h with h2 h3
  exact ⟨h1,by rw [List.getElem?_eq_getElem h1,h2],h3⟩
theorem ZaE {α:Type} {y:List α} {i:Nat} (h:y.drop i=[]):y.length≤i:=List.drop_eq_nil_iff.1 h
theorem Zbv {i:Nat} (h:i≤4611686018427387904):w64 ((i:Int)+1)=((i+1:Nat):Int):=by rw [Zt (by omega) (by omega)];omega
def mrg:Zb→List Zb→List Zb
  | p,[]=>[p]
  | p,r :: l=>if r.f_Lo≤w64 (p.f_Hi+1) then mrg { p with f_Hi:=mx p.f_Hi r.f_Hi } l else p :: mrg r l
def mrgs:List Zb→List Zb
  | []=>[]
  | r :: l=>mrg r l
theorem Zg1:∀(l:List Zb) (p:Zb),(mrg p l).length≤l.length+1
  | [],p=>Nat.le_refl _
  | r :: l,p=>by
    unfold mrg
    split
    · have:=Zg1 l { p with f_Hi:=mx p.f_Hi r.f_Hi };rw [List.length_cons];omega
    · have:=Zg1 l r;rw [List.length_cons,List.length_cons];omega
theorem Ziy (l:List Zb):(mrgs l).length≤l.length:=by
  cases l with
  | nil=>exact Nat.le_refl _
  | cons r l=>exact Zg1 l r
theorem Zed {y:List Zb} (hy:y.length≤1073741824):∀(l acc:List Zb) (p:Zb) (i m:Nat),y.drop i=l→acc.length+1+l.length≤1073741824→l.length<m→i≤y.length→
    ZbK y m (acc ++ [p]) (i:Int)=some (acc ++ mrg p l)
  | [],acc,p,i,m,hd,ha,hm,hi=>by
    obtain ⟨m,rfl⟩:∃q,m=q+1:=⟨m-1,by simp at hm;omega⟩
    have:=ZaE hd
    rw [show (i:Int)=(y.length:Int) by omega]
    exact Zhx m y _
  | r :: l,acc,p,i,m,hd,ha,hm,hi=>by
    obtain ⟨m,rfl⟩:∃q,m=q+1:=⟨m-1,by omega⟩
    obtain ⟨h1,h2,h3⟩:=ZY hd
    rw [List.length_cons] at ha hm
    have hl:(acc ++ [p]).length=acc.length+1:=by simp
    have ew:w64 (((acc ++ [p]).length:Int)-1)=(acc.length:Int):=by rw [hl,Zt (by omega) (by omega)];omega
    have el:idxL (acc ++ [p]) (acc.length:Int)=some p:=by rw [Zz];simp
    show Zb3 (ZbK y m) y _ _=_
    unfold Zb3
    rw [dt (by omega),cond_true,Zz,h2,Option.bind_some,dt (by omega),cond_true,ew,if_pos ⟨by omega,by omega⟩,el,Option.bind_some]
    unfold Zez
    rw [ew]
    by_cases hc:r.f_Lo≤w64 (p.f_Hi+1)
    · rw [dt hc,cond_true,if_pos ⟨by omega,by omega⟩,el,Option.bind_some,if_pos ⟨by omega,by omega⟩,Option.bind_some]
      unfold ZdC
      rw [Zbv (by omega)]
      have es:(acc ++ [p]).set (Int.toNat (acc.length:Int)) { p with f_Hi:=mx p.f_Hi r.f_Hi } = acc ++ [{ p with f_Hi:=mx p.f_Hi r.f_Hi }]:=by
        rw [Int.toNat_natCast,List.set_append_right (h:=Nat.le_refl _),Nat.sub_self];rfl
      rw [es,Zed hy l acc _ (i+1) m h3 (by omega) (by omega) (by omega)]
      conv=>rhs;unfold mrg
      rw [if_pos hc]
    · rw [df hc,cond_false,if_pos (by rw [hl];simp;omega)]
      unfold ZdC
      rw [Zbv (by omega),Zed hy l (acc ++ [p]) r (i+1) m h3 (by rw [hl];omega) (by omega) (by omega)]
      conv=>rhs;unfold mrg
      rw [if_neg hc,List.append_assoc]
      rfl
theorem ZkC {y:List Zb} {k:Nat} (hy:y.length≤1073741824) (hk:y.length<k):ZbK y k [] 0=some (mrgs y):=by
  cases y with
  | nil=>
    obtain ⟨m,rfl⟩:∃q,k=q+1:=⟨k-1,by omega⟩
    exact Zhx m [] []
  | cons r l=>
    obtain ⟨m,rfl⟩:∃q,k=q+1:=⟨k-1,by omega⟩
    rw [List.length_cons] at hy hk
    show Zb3 (ZbK (r :: l) m) (r :: l) _ _=_
    unfold Zb3
    rw [dt (by simp),cond_true,Zfs,Option.bind_some,df (by simp),cond_false]
    unfold Zez
    rw [cond_false,if_pos (by simp)]
    unfold ZdC
    have e1:w64 ((0:Int)+1)=((1:Nat):Int):=by rw [Zt (by omega) (by omega)];rfl
    rw [e1]
    have:=Zed (y:=r :: l) (by rw [List.length_cons];exact hy) l [] r 1 m rfl (by simp;omega) (by omega) (by simp)
    rw [List.nil_append] at this ⊢
    exact this
theorem Ziz {k:Nat} {l:List Zb} (hl:l.length≤536870912) (hk:2*l.length+8≤k) :
    ∃l',F77 k l=some (mrgs l')∧List.Perm l' l∧(Small l→ZI l' 0 l'.length):=by
  obtain ⟨l',e,p,s⟩:=Zms (k:=k) (v:=l) (by omega) hk
  have hl':=p.length_eq
  refine ⟨l',?_,p,s⟩
  unfold F77
  have e1:F102 k l=some l:=by unfold F102;exact if_pos (by omega)
  rw [e1,Option.bind_some,e,Option.bind_some,if_pos hl',ZkC (by omega) (by omega)]
def ZaF:Int→List Zb→Prop
  | _,[]=>True
  | b,r :: l=>b≤r.f_Lo∧r.f_Lo≤r.f_Hi∧ZaF (r.f_Hi+2) l
theorem ZK {r:Zb} {l:List Zb} {c:Int}:inR (r :: l) c↔(r.f_Lo≤c∧c≤r.f_Hi)∨inR l c:=by
  unfold inR
  constructor
  · rintro ⟨x,hx,h⟩
    rcases List.mem_cons.1 hx with rfl | hx
    · exact .inl h
    · exact .inr ⟨x,hx,h⟩
  · rintro (h | ⟨x,hx,h⟩)
    · exact ⟨r,List.mem_cons_self,h⟩
    · exact ⟨x,List.mem_cons_of_mem _ hx,h⟩
theorem Zaw {c:Int}:¬inR [] c:=by rintro ⟨x,hx,_⟩;cases hx
theorem Zld {l l':List Zb} (p:List.Perm l l') (c:Int):inR l c↔inR l' c:=
  ⟨fun ⟨x,hx,h⟩=>⟨x,p.mem_iff.1 hx,h⟩,fun ⟨x,hx,h⟩=>⟨x,p.mem_iff.2 hx,h⟩⟩
theorem Zgo {l l':List Zb} {c:Int}:inR (l ++ l') c↔inR l c∨inR l' c:=by
  unfold inR
  constructor
  · rintro ⟨x,hx,h⟩
    rcases List.mem_append.1 hx with hx | hx
    · exact .inl ⟨x,hx,h⟩
    · exact .inr ⟨x,hx,h⟩
  · rintro (⟨x,hx,h⟩ | ⟨x,hx,h⟩)
    · exact ⟨x,List.mem_append_left _ hx,h⟩
    · exact ⟨x,List.mem_append_right _ hx,h⟩
theorem ZaF.ge:∀{l:List Zb} {b c:Int},ZaF b l→inR l c→b≤c
  | [],_,_,_,h=>absurd h Zaw
  | r :: l,b,c,⟨h1,h2,h3⟩,h=>by
    rcases ZK.1 h with h | h
    · omega
    · have:=h3.ge h;omega
theorem ZaF.mono {l:List Zb} {b c:Int} (h:ZaF b l) (hc:c≤b):ZaF c l:=by
  cases l with
  | nil=>trivial
  | cons r l=>exact ⟨by have:=h.1;omega,h.2⟩
theorem ZfK:∀{l l':List Zb} {b b':Int},ZaF b l→ZaF b' l'→(∀c,inR l c↔inR l' c)→l=l'
  | [],[],_,_,_,_,_=>rfl
  | [],r :: l',_,_,_,h,e=>absurd ((e r.f_Lo).2 (ZK.2 (.inl ⟨Int.le_refl _,h.2.1⟩))) Zaw
  | r :: l,[],_,_,h,_,e=>absurd ((e r.f_Lo).1 (ZK.2 (.inl ⟨Int.le_refl _,h.2.1⟩))) Zaw
  | r :: l,s :: l',b,b',⟨h1,h2,h3⟩,⟨g1,g2,g3⟩,e=>by
    have lo1:=ZK.1 ((e r.f_Lo).1 (ZK.2 (.inl ⟨Int.le_refl _,h2⟩)))
    have lo2:=ZK.1 ((e s.f_Lo).2 (ZK.2 (.inl ⟨Int.le_refl _,g2⟩)))
    have elo:r.f_Lo=s.f_Lo:=by
      have a1:s.f_Lo≤r.f_Lo:=lo1.elim (fun h=>by omega) (fun h=>by have:=g3.ge h;omega)
      have a2:r.f_Lo≤s.f_Lo:=lo2.elim (fun h=>by omega) (fun h=>by have:=h3.ge h;omega)
      omega
    have ehi:r.f_Hi=s.f_Hi:=by
      by_cases h4:r.f_Hi<s.f_Hi
      · rcases ZK.1 ((e (r.f_Hi+1)).2 (ZK.2 (.inl ⟨by omega,by omega⟩))) with h | h
        · omega
        · have:=h3.ge h;omega
      · by_cases h5:s.f_Hi<r.f_Hi
        · rcases ZK.1 ((e (s.f_Hi+1)).1 (ZK.2 (.inl ⟨by omega,by omega⟩))) with h | h
          · omega
          · have:=g3.ge h;omega
        · omega
    have:l=l':=ZfK h3 g3 fun c=>by
      constructor
      · intro h
        have hc:=h3.ge h
        rcases ZK.1 ((e c).1 (ZK.2 (.inr h))) with h' | h'
        · omega
        · exact h'
      · intro h
        have hc:=g3.ge h
        rcases ZK.1 ((e c).2 (ZK.2 (.inr h))) with h' | h'
        · omega
        · exact h'
    subst this
    cases r;cases s
    simp only at elo ehi
    subst elo;subst ehi;rfl
def Bd (l:List Zb):Prop:=∀r∈l,0≤r.f_Lo∧r.f_Lo≤r.f_Hi∧r.f_Hi≤1114111
theorem Bd.small {l:List Zb} (h:Bd l):Small l:=fun r hr=>by have:=h r hr;omega
theorem Bd.perm {l l':List Zb} (h:Bd l) (p:List.Perm l' l):Bd l':=fun r hr=>h r (p.mem_iff.1 hr)
def Rise:List Zb→Prop
  | []=>True
  | r :: l=>(∀x∈l,r.f_Lo≤x.f_Lo)∧Rise l
theorem Zjx:∀{l:List Zb},ZI l 0 l.length→Rise l
  | [],_=>trivial
  | r :: l,h=>⟨fun x hx=>by
      obtain ⟨i,hi,rfl⟩:=List.mem_iff_getElem.1 hx
      exact h 0 (i+1) r _ (Nat.zero_le _) (by omega) (by simp;omega) rfl (by rw [List.getElem?_cons_succ,List.getElem?_eq_getElem hi]),
    Zjx fun p q x y _ hpq hq hx hy=>h (p+1) (q+1) x y (Nat.zero_le _) (by omega) (by simp;omega) (by rw [List.getElem?_cons_succ];exact hx) (by rw [List.getElem?_cons_succ];exact hy)⟩
theorem ZeY:∀(l:List Zb) (p:Zb),Rise (p :: l)→Bd (p :: l)→ZaF p.f_Lo (mrg p l)∧(∀c,inR (mrg p l) c↔inR (p :: l) c)∧Bd (mrg p l)
  | [],p,_,hb=>⟨⟨Int.le_refl _,(hb p List.mem_cons_self).2.1,trivial⟩,fun _=>Iff.rfl,hb⟩
  | r :: l,p,hr,hb=>by
    have hp:=hb p List.mem_cons_self
    have hrr:=hb r (List.mem_cons_of_mem _ List.mem_cons_self)
    have hpr:=hr.1 r List.mem_cons_self
    unfold mrg
    rw [Zt (x:=p.f_Hi+1) (by omega) (by omega)]
    by_cases hc:r.f_Lo≤p.f_Hi+1
    · rw [if_pos hc]
      have hm:p.f_Hi≤mx p.f_Hi r.f_Hi∧r.f_Hi≤mx p.f_Hi r.f_Hi∧(mx p.f_Hi r.f_Hi=p.f_Hi∨mx p.f_Hi r.f_Hi=r.f_Hi):=by unfold mx;split <;> omega
      obtain ⟨h1,h2,h3⟩:=ZeY l { p with f_Hi:=mx p.f_Hi r.f_Hi } ⟨fun x hx=>hr.1 x (List.mem_cons_of_mem _ hx),hr.2.2⟩ (fun x hx=>by
        rcases List.mem_cons.1 hx with rfl | hx
        · exact ⟨hp.1,by simp only;omega,by simp only;omega⟩
        · exact hb x (List.mem_cons_of_mem _ (List.mem_cons_of_mem _ hx)))
      refine ⟨h1,fun c=>(h2 c).trans ?_,h3⟩
      rw [ZK,ZK,ZK]
      simp only
      constructor
      · rintro (h | h)
        · by_cases h5:c≤p.f_Hi
          · exact .inl ⟨h.1,h5⟩
          · exact .inr (.inl ⟨by omega,by omega⟩)
        · exact .inr (.inr h)
      · rintro (h | h | h)
        · exact .inl ⟨h.1,by omega⟩
        · exact .inl ⟨by omega,by omega⟩
        · exact .inr h
    · rw [if_neg hc]
      obtain ⟨h1,h2,h3⟩:=ZeY l r hr.2 (fun x hx=>hb x (List.mem_cons_of_mem _ hx))
      refine ⟨⟨Int.le_refl _,hp.2.1,h1.mono (by omega)⟩,fun c=>?_,fun x hx=>?_⟩
      · rw [ZK,ZK,h2]
      · rcases List.mem_cons.1 hx with rfl | hx
        · exact hp
        · exact h3 x hx
theorem ZjR {l:List Zb} (hr:Rise l) (hb:Bd l):ZaF 0 (mrgs l)∧(∀c,inR (mrgs l) c↔inR l c)∧Bd (mrgs l):=by
  cases l with
  | nil=>exact ⟨trivial,fun _=>Iff.rfl,hb⟩
  | cons p l=>
    obtain ⟨h1,h2,h3⟩:=ZeY l p hr hb
    exact ⟨h1.mono (hb p List.mem_cons_self).1,h2,h3⟩
theorem Zg2 {k:Nat} {l:List Zb} (hl:l.length≤536870912) (hk:2*l.length+8≤k) (hb:Bd l) :
    ∃l',F77 k l=some l'∧ZaF 0 l'∧(∀c,inR l' c↔inR l c)∧Bd l'∧l'.length≤l.length:=by
  obtain ⟨l',e,p,s⟩:=Ziz hl hk
  obtain ⟨h1,h2,h3⟩:=ZjR (Zjx (s hb.small)) (hb.perm p)
  exact ⟨_,e,h1,fun c=>(h2 c).trans (Zld p c),h3,by have:=Ziy l';have:=p.length_eq;omega⟩
theorem ZhA {k:Nat} {l:List Zb} (hl:l.length≤536870912) (hk:2*l.length+8≤k) (hb:Bd l) (ha:ZaF 0 l):F77 k l=some l:=by
  obtain ⟨l',e,h1,h2,_⟩:=Zg2 hl hk hb
  rw [e,ZfK h1 ha h2]
end Go.Proofs.YthilboheomikjaaGreatDoor
end
section
namespace Go.Proofs.YthilboheomikjaaGreatDoor
open Go.AL Go.Lib
set_option maxRecDepth 100000
def cutR (x y:Zb):List Zb:=if mx x.f_Lo y.f_Lo≤mn x.f_Hi y.f_Hi then [⟨mx x.f_Lo y.f_Lo,mn x.f_Hi y.f_Hi⟩] else []
def Zcd (a b:List Zb):List Zb:=a.flatMap fun x=>b.flatMap (cutR x)
theorem ZjS {a b c:Int}:mx a b≤c↔a≤c∧b≤c:=by unfold mx;split <;> omega
theorem Zh2 {a b c:Int}:c≤mn a b↔c≤a∧c≤b:=by unfold mn;split <;> omega
theorem Zjl {x y:Zb} {c:Int}:inR (cutR x y) c↔(x.f_Lo≤c∧c≤x.f_Hi)∧(y.f_Lo≤c∧c≤y.f_Hi):=by
  unfold cutR
  split
  · rw [ZK]
    simp only [ZjS,Zh2]
    constructor
    · rintro (h | h)
      · exact ⟨⟨h.1.1,h.2.1⟩,h.1.2,h.2.2⟩
      · exact absurd h Zaw
    · rintro ⟨⟨h1,h2⟩,h3,h4⟩;exact .inl ⟨⟨h1,h3⟩,h2,h4⟩
  · rename_i h
    rw [ZjS,Zh2,Zh2] at h
    exact ⟨fun h=>absurd h Zaw,fun ⟨⟨h1,h2⟩,h3,h4⟩=>absurd ⟨⟨by omega,by omega⟩,by omega,by omega⟩ h⟩
theorem Zip (x y:Zb):(cutR x y).length≤1:=by unfold cutR;split <;> simp
theorem Zc8 {α:Type} {l:List α} {f:α→List Zb} {c:Int}:inR (l.flatMap f) c↔∃x∈l,inR (f x) c:=by
  induction l with
  | nil=>exact ⟨fun h=>absurd h Zaw,fun ⟨_,h,_⟩=>by cases h⟩
  | cons x l ih=>
    rw [List.flatMap_cons,Zgo,ih]
    constructor
    · rintro (h | ⟨y,hy,h⟩)
      · exact ⟨x,List.mem_cons_self,h⟩
      · exact ⟨y,List.mem_cons_of_mem _ hy,h⟩
    · rintro ⟨y,hy,h⟩
      rcases List.mem_cons.1 hy with rfl | hy
      · exact .inl h
      · exact .inr ⟨y,hy,h⟩
theorem Zlx {a b:List Zb} {c:Int}:inR (Zcd a b) c↔inR a c∧inR b c:=by
  unfold Zcd
  rw [Zc8]
  constructor
  · rintro ⟨x,hx,h⟩
    obtain ⟨y,hy,h⟩:=Zc8.1 h
    obtain ⟨h1,h2⟩:=Zjl.1 h
    exact ⟨⟨x,hx,h1⟩,y,hy,h2⟩
  · rintro ⟨⟨x,hx,h1⟩,y,hy,h2⟩
    exact ⟨x,hx,Zc8.2 ⟨y,hy,Zjl.2 ⟨h1,h2⟩⟩⟩
theorem Zg7 (x:Zb):∀b:List Zb,(b.flatMap (cutR x)).length≤b.length
  | []=>Nat.le_refl _
  | y :: b=>by
    rw [List.flatMap_cons,List.length_append,List.length_cons]
    have:=Zg7 x b;have:=Zip x y;omega
theorem ZhM (b:List Zb):∀a:List Zb,(Zcd a b).length≤a.length*b.length
  | []=>Nat.zero_le _
  | x :: a=>by
    have h1:=ZhM b a
    have h2:=Zg7 x b
    unfold Zcd at h1 ⊢
    rw [List.flatMap_cons,List.length_append,List.length_cons,Nat.add_mul]
    omega
theorem ZfS {self8:List Zb→Int→Option (List Zb)} {v1:List Zb} {v158:Int} {x:Zb} (h1:v1.length≤1000):∀(l acc:List Zb) (j m:Nat),v1.drop j=l→acc.length+l.length≤1073741824→l.length<m→j≤v1.length→
    ZbV self8 v1 v158 x m acc (j:Int)=self8 (acc ++ l.flatMap (cutR x)) (w64 (v158+1))
  | [],acc,j,m,hd,ha,hm,hj=>by
    obtain ⟨m,rfl⟩:∃q,m=q+1:=⟨m-1,by simp at hm;omega⟩
    have:=ZaE hd
    show Zcs _ _ _ _ _ _ _=_
    unfold Zcs
    rw [df (by omega),cond_false,List.flatMap_nil,List.append_nil]
  | y :: l,acc,j,m,hd,ha,hm,hj=>by
    obtain ⟨m,rfl⟩:∃q,m=q+1:=⟨m-1,by omega⟩
    obtain ⟨g1,g2,g3⟩:=ZY hd
    rw [List.length_cons] at ha hm
    show Zcs self8 (ZbV self8 v1 v158 x m) v1 v158 x acc (j:Int)=_
    unfold Zcs
    rw [dt (by omega),cond_true,Zz,g2,Option.bind_some,List.flatMap_cons]
    unfold Zfn
    rw [Zbv (by omega)]
    have hc0:=Zip x y
    by_cases hc:mx x.f_Lo y.f_Lo≤mn x.f_Hi y.f_Hi
    · have ec:cutR x y=[⟨mx x.f_Lo y.f_Lo,mn x.f_Hi y.f_Hi⟩]:=if_pos hc
      rw [dt hc,cond_true,if_pos (by simp;omega),ZfS h1 l _ (j+1) m g3 (by simp;omega) (by omega) (by omega),ec,List.append_assoc]
    · have ec:cutR x y=[]:=if_neg hc
      rw [df hc,cond_false,ZfS h1 l _ (j+1) m g3 (by omega) (by omega) (by omega),ec,List.nil_append]
theorem Zhw {k:Nat} {v0 v1:List Zb} (h1:v1.length≤1000) (hk:v1.length<k) (h0:v0.length≤1073741824):∀(l acc:List Zb) (i m:Nat),v0.drop i=l→acc.length+l.length*v1.length≤1073741824→l.length<m→i≤v0.length→
    ZbJ k v0 v1 m acc (i:Int)=F77 k (acc ++ Zcd l v1)
  | [],acc,i,m,hd,ha,hm,hi=>by
    obtain ⟨m,rfl⟩:∃q,m=q+1:=⟨m-1,by simp at hm;omega⟩
    have:=ZaE hd
    show ZdB _ _ _ _ _ _=_
    unfold ZdB
    rw [df (by omega),cond_false]
    show _=F77 k (acc ++ [])
    rw [List.append_nil]
    cases F77 k acc <;> rfl
  | x :: l,acc,i,m,hd,ha,hm,hi=>by
    obtain ⟨m,rfl⟩:∃q,m=q+1:=⟨m-1,by omega⟩
    obtain ⟨g1,g2,g3⟩:=ZY hd
    rw [List.length_cons] at ha hm
    rw [Nat.add_mul,Nat.one_mul] at ha
    have hrl:=Zg7 x v1
    show ZdB k (ZbJ k v0 v1 m) v0 v1 acc (i:Int)=_
    unfold ZdB
    rw [dt (by omega),cond_true,Zz,g2,Option.bind_some]
    have e:=ZfS (self8:=ZbJ k v0 v1 m) (v158:=(i:Int)) (x:=x) h1 v1 acc 0 k rfl (by omega) hk (Nat.zero_le _)
    have e':ZbV (ZbJ k v0 v1 m) v1 (i:Int) x k acc 0=ZbJ k v0 v1 m (acc ++ v1.flatMap (cutR x)) (w64 ((i:Int)+1)):=e
    rw [e',Zbv (by omega),Zhw h1 hk h0 l _ (i+1) m g3 (by rw [List.length_append];omega) (by omega) (by omega),List.append_assoc]
    rfl
theorem ZmX {c:Int}:inR ptsR c↔Zac c:=by
  unfold ptsR Zac
  rw [ZK,ZK]
  constructor
  · rintro (h | h | h)
    · simp only at h;omega
    · simp only at h;omega
    · exact absurd h Zaw
  · intro h
    simp only
    omega
def ZbG (l:List Zb):Prop:=ZaF 0 l∧∀c,inR l c→Zac c
theorem Zk8 {l l':List Zb} (h:ZbG l) (h':ZbG l') (e:∀c,inR l c↔inR l' c):l=l':=ZfK h.1 h'.1 e
theorem Zhh:∀{l:List Zb} {b:Int},ZaF b l→∀r∈l,b≤r.f_Lo∧r.f_Lo≤r.f_Hi
  | [],_,_,_,h=>by cases h
  | x :: l,b,⟨h1,h2,h3⟩,r,h=>by
    rcases List.mem_cons.1 h with rfl | h
    · exact ⟨h1,h2⟩
    · have:=Zhh h3 r h;exact ⟨by omega,this.2⟩
theorem ZbG.bd {l:List Zb} (h:ZbG l):Bd l:=fun r hr=>by
  have h1:=Zhh h.1 r hr
  have h2:=h.2 r.f_Hi ⟨r,hr,h1.2,Int.le_refl _⟩
  exact ⟨h1.1,h1.2,h2.2.1⟩
theorem Zlw {a:List Zb}:Bd (Zcd a ptsR):=fun r hr=>by
  unfold Zcd at hr
  obtain ⟨x,hx,hr⟩:=List.mem_flatMap.1 hr
  obtain ⟨y,hy,hr⟩:=List.mem_flatMap.1 hr
  unfold cutR at hr
  split at hr
  · rename_i h
    obtain rfl:=List.mem_singleton.1 hr
    have h2:=ZjS.1 (Int.le_refl (mx x.f_Lo y.f_Lo))
    have h3:=Zh2.1 (Int.le_refl (mn x.f_Hi y.f_Hi))
    have h4:0≤y.f_Lo∧y.f_Hi≤1114111:=by
      unfold ptsR at hy
      simp only [List.mem_cons,List.not_mem_nil,or_false] at hy
      rcases hy with rfl | rfl <;> simp
    simp only
    exact ⟨by omega,h,by omega⟩
  · cases hr
theorem Zg0 {k:Nat} {a:List Zb} (ha:a.length≤1000000) (hk:4*a.length+8≤k):∃l',F76 k a ptsR=some l'∧ZbG l'∧(∀c,inR l' c↔inR a c∧Zac c)∧l'.length≤2*a.length:=by
  have hl:=ZhM ptsR a
  have h2:ptsR.length=2:=rfl
  rw [h2] at hl
  have e:F76 k a ptsR=F77 k ([] ++ Zcd a ptsR):=Zhw (k:=k) (v0:=a) (v1:=ptsR) (by rw [h2];omega) (by rw [h2];omega) (by omega) a [] 0 k rfl (by rw [h2];simp;omega) (by omega) (Nat.zero_le _)
  obtain ⟨l',e1,a1,i1,b1,n1⟩:=Zg2 (k:=k) (l:=Zcd a ptsR) (by omega) (by omega) Zlw
  rw [List.nil_append,e1] at e
  have ei:∀c,inR l' c↔inR a c∧Zac c:=fun c=>by rw [i1,Zlx,ZmX]
  exact ⟨l',e,⟨a1,fun c hc=>((ei c).1 hc).2⟩,ei,by omega⟩
def comp:Int→List Zb→List Zb
  | b,[]=>if b≤1114111 then [⟨b,1114111⟩] else []
  | b,r :: l=>(if r.f_Lo > b then [⟨b,r.f_Lo-1⟩] else []) ++ comp (r.f_Hi+1) l
theorem Zio:∀(l:List Zb) (b:Int),(comp b l).length≤l.length+1
  | [],b=>by unfold comp;split <;> simp
  | r :: l,b=>by
    unfold comp
    have:=Zio l (r.f_Hi+1)
    rw [List.length_append,List.length_cons]
    split <;> simp <;> omega
theorem Zjk:∀(l:List Zb) (b:Int),ZaF b l→Bd l→∀c,inR (comp b l) c↔b≤c∧c≤1114111∧¬inR l c
  | [],b,_,_,c=>by
    unfold comp
    split
    · rw [ZK]
      exact ⟨fun h=>h.elim (fun h=>⟨h.1,h.2,Zaw⟩) (fun h=>absurd h Zaw),fun h=>.inl ⟨h.1,h.2.1⟩⟩
    · exact ⟨fun h=>absurd h Zaw,fun h=>by omega⟩
  | r :: l,b,⟨h1,h2,h3⟩,hb,c=>by
    unfold comp
    have hr:=hb r List.mem_cons_self
    rw [Zgo,Zjk l (r.f_Hi+1) (h3.mono (by omega)) (fun x hx=>hb x (List.mem_cons_of_mem _ hx)),ZK]
    have hc1:inR (if r.f_Lo > b then [⟨b,r.f_Lo-1⟩] else []) c↔b≤c∧c≤r.f_Lo-1:=by
      split
      · rw [ZK];exact ⟨fun h=>h.elim id (fun h=>absurd h Zaw),.inl⟩
      · exact ⟨fun h=>absurd h Zaw,fun h=>by omega⟩
    rw [hc1]
    constructor
    · rintro (⟨g1,g2⟩ | ⟨g1,g2,g3⟩)
      · exact ⟨g1,by omega,fun h=>h.elim (fun h=>by omega) (fun h=>by have:=h3.ge h;omega)⟩
      · exact ⟨by omega,g2,fun h=>h.elim (fun h=>by omega) g3⟩
    · rintro ⟨g1,g2,g3⟩
      by_cases g4:c<r.f_Lo
      · exact .inl ⟨g1,by omega⟩
      · exact .inr ⟨by have:=mt Or.inl g3;omega,g2,fun h=>g3 (.inr h)⟩
theorem ZfU {k:Nat} {y:List Zb} (hy:y.length≤1000000) (hb:Bd y):∀(l acc:List Zb) (b:Int) (i m:Nat),y.drop i=l→acc.length+l.length+1≤1073741824→l.length<m→i≤y.length→0≤b→b≤1114112→
    Zcf k y m acc b (i:Int)=F76 k (acc ++ comp b l) ptsR
  | [],acc,b,i,m,hd,ha,hm,hi,h0,h1=>by
    obtain ⟨m,rfl⟩:∃q,m=q+1:=⟨m-1,by simp at hm;omega⟩
    have:=ZaE hd
    have fin:∀a,Zdc k a=F76 k a ptsR:=fun a=>by
      unfold Zdc
      rw [Zic,Option.bind_some]
      cases F76 k a ptsR <;> rfl
    show Zce _ _ _ _ _ _=_
    unfold Zce
    rw [df (by omega),cond_false]
    unfold comp
    by_cases hc:b≤1114111
    · rw [dt hc,cond_true,if_pos (by simp at ha ⊢;omega),fin,if_pos hc]
    · rw [df hc,cond_false,fin,if_neg hc,List.append_nil]
  | r :: l,acc,b,i,m,hd,ha,hm,hi,h0,h1=>by
    obtain ⟨m,rfl⟩:∃q,m=q+1:=⟨m-1,by omega⟩
    obtain ⟨g1,g2,g3⟩:=ZY hd
    rw [List.length_cons] at ha hm
    have hr:=hb r (List.mem_of_getElem? g2)
    show Zce k (Zcf k y m) y acc b (i:Int)=_
    unfold Zce
    rw [dt (by omega),cond_true,Zz,g2,Option.bind_some]
    unfold Zfa
    rw [Zbv (by omega),Zt (x:=r.f_Hi+1) (by omega) (by omega),Zt (x:=r.f_Lo-1) (by omega) (by omega)]
    conv=>rhs;unfold comp
    by_cases hc:r.f_Lo > b
    · rw [dt hc,cond_true,if_pos (by simp;omega),ZfU hy hb l _ _ (i+1) m g3 (by simp;omega) (by omega) (by omega) (by omega) (by omega),if_pos hc,List.append_assoc]
    · rw [df hc,cond_false,ZfU hy hb l _ _ (i+1) m g3 (by omega) (by omega) (by omega) (by omega) (by omega),if_neg hc,List.nil_append]
theorem ZmS {k:Nat} {l:List Zb} (hl:l.length≤100000) (hk:4*l.length+20≤k) (hb:Bd l) (ha:ZaF 0 l):∃l',F109 k l=some l'∧ZbG l'∧(∀c,inR l' c↔Zac c∧¬inR l c)∧l'.length≤2*l.length+2:=by
  have hc:=Zio l 0
  have e:F109 k l=F76 k ([] ++ comp 0 l) ptsR:=by
    unfold F109
    rw [ZhA (by omega) (by omega) hb ha,Option.bind_some]
    exact ZfU (k:=k) (by omega) hb l [] 0 0 k rfl (by simp;omega) (by omega) (Nat.zero_le _) (by omega) (by omega)
  obtain ⟨l',e1,c1,i1,n1⟩:=Zg0 (k:=k) (a:=comp 0 l) (by omega) (by omega)
  rw [List.nil_append,e1] at e
  refine ⟨l',e,c1,fun c=>?_,by omega⟩
  rw [i1,Zjk l 0 ha hb]
  exact ⟨fun h=>⟨h.2,h.1.2.2⟩,fun h=>⟨⟨h.1.1,h.1.2.1,h.2⟩,h.1⟩⟩
theorem Zgk {a b:List Zb} (ha:a.length≤1073741824) (hab:b.length=a.length):∀(l l':List Zb) (i m:Nat),a.drop i=l→b.drop i=l'→l.length<m→i≤a.length→∃t,ZdA a b m (i:Int)=some t∧(t=true↔l=l')
  | [],l',i,m,hd,hd',hm,hi=>by
    obtain ⟨m,rfl⟩:∃q,m=q+1:=⟨m-1,by simp at hm;omega⟩
    have:=ZaE hd
    show ∃t,Zdz _ _ _ _=_∧_
    unfold Zdz
    rw [df (by omega)]
    refine ⟨true,rfl,fun _=>?_,fun _=>rfl⟩
    rw [←hd',List.drop_eq_nil_of_le (by omega)]
  | x :: l,[],i,m,hd,hd',hm,hi=>by
    have:=(ZY hd).1
    have:=ZaE hd'
    omega
  | x :: l,y :: l',i,m,hd,hd',hm,hi=>by
    obtain ⟨m,rfl⟩:∃q,m=q+1:=⟨m-1,by omega⟩
    obtain ⟨g1,g2,g3⟩:=ZY hd
    obtain ⟨f1,f2,f3⟩:=ZY hd'
    rw [List.length_cons] at hm
    show ∃t,Zdz (ZdA a b m) a b (i:Int)=_∧_
    unfold Zdz
    rw [dt (by omega),cond_true,Zz,g2,Option.bind_some,Zz,f2,Option.bind_some,Zbv (by omega)]
    obtain ⟨t,e,ht⟩:=Zgk ha hab l l' (i+1) m g3 f3 (by omega) (by omega)
    by_cases h1:x.f_Lo=y.f_Lo
    · by_cases h2:x.f_Hi=y.f_Hi
      · have exy:x=y:=by cases x;cases y;simp only at h1 h2;subst h1;subst h2;rfl
        subst exy
        rw [Z9 rfl,Z9 rfl,e]
        exact ⟨t,rfl,ht.trans ⟨fun h=>by rw [h],fun h=>by injection h⟩⟩
      · rw [Z9 h1,Z0 h2]
        exact ⟨false,rfl,by simp,fun h=>absurd (by injection h with h _;rw [h]) h2⟩
    · rw [Z0 h1]
      exact ⟨false,rfl,by simp,fun h=>absurd (by injection h with h _;rw [h]) h1⟩
theorem Zlb {k:Nat} {a b:List Zb} (ha:a.length≤1073741824) (hk:a.length<k):∃t,F75 k a b=some t∧(t=true↔a=b):=by
  unfold F75
  by_cases h:a.length=b.length
  · rw [show ((a.length:Int) != (b.length:Int))=false by simp [h],cond_false]
    exact Zgk ha h.symm a b 0 k rfl rfl hk (Nat.zero_le _)
  · rw [show ((a.length:Int) != (b.length:Int))=true by simp;omega,cond_true]
    exact ⟨false,rfl,by simp,fun e=>absurd (by rw [e]) h⟩
end Go.Proofs.YthilboheomikjaaGreatDoor
end
section
namespace Go.Proofs.YthilboheomikjaaGreatDoor
open Go.AL
set_option maxRecDepth 100000
end Go.Proofs.YthilboheomikjaaGreatDoor
end
section
namespace Go.Proofs.YthilboheomikjaaGreatDoor
open Go.AL Go.Lib
set_option maxRecDepth 100000
mutual
def fs:Ze→Nat
  | ⟨k,st,l,a,b⟩=>1+max (l.length+4*st.length+40) (fsL l)
def fsL:List Ze→Nat
  | []=>0
  | x :: l=>max (fs x) (fsL l)
end
mutual
def sz:Ze→Int
  | ⟨k,st,l,a,b⟩=>if k=1 then 1 else if k=2∨k=3 then mn (szL l+1) 1000 else if k=4 then mn (szH l*mn (mx (if b<0 then w64 (a+1) else b) 1) 1000+1) 1000 else 1
def szL:List Ze→Int
  | []=>0
  | x :: l=>sz x+szL l
def szH:List Ze→Int
  | []=>0
  | x :: _=>sz x
end
mutual
def dp:Ze→Nat
  | ⟨k,st,l,a,b⟩=>1+dpL l
def dpL:List Ze→Nat
  | []=>0
  | x :: l=>max (dp x) (dpL l)
end
def OK0 (r:Ze):Prop:=(r.f_Kind=1∧(r.f_Min=0∧r.f_Max=0)∧r.f_L=[]∧ZbG r.f_Set)∨(r.f_Kind=2∧(r.f_Min=0∧r.f_Max=0)∧r.f_L.length≠1∧r.f_Set=[])∨
  (r.f_Kind=3∧(r.f_Min=0∧r.f_Max=0)∧1<r.f_L.length∧r.f_Set=[])∨(r.f_Kind=4∧r.f_L.length=1∧r.f_Set=[]∧0≤r.f_Min∧r.f_Min≤20∧r.f_Max≤20∧(r.f_Max = -1∨r.f_Min≤r.f_Max))
mutual
def OK:Ze→Prop
  | ⟨k,st,l,a,b⟩=>OK0 ⟨k,st,l,a,b⟩∧OKL l
def OKL:List Ze→Prop
  | []=>True
  | x :: l=>OK x∧OKL l
end
theorem Zjo {l:List Ze} {x:Ze} (h:x∈l):fs x≤fsL l:=by
  induction l with
  | nil=>cases h
  | cons y l ih=>
    simp only [fsL]
    rcases List.mem_cons.1 h with rfl | h
    · omega
    · have:=ih h;omega
theorem Zl3 {l:List Ze}:OKL l↔∀x∈l,OK x:=by
  induction l with
  | nil=>simp [OKL]
  | cons y l ih=>simp only [OKL,ih,List.forall_mem_cons]
theorem Zkq {l:List Ze} {n:Nat}:dpL l≤n↔∀x∈l,dp x≤n:=by
  induction l with
  | nil=>simp [dpL]
  | cons y l ih=>simp only [dpL,List.forall_mem_cons,←ih];omega
theorem ZmO (r:Ze):1≤dp r:=by cases r;simp only [dp];omega
theorem Zjt {x:Int} (h:0≤x):1≤mn (x+1) 1000∧mn (x+1) 1000≤1000:=by unfold mn;split <;> omega
mutual
theorem ZcP:∀r:Ze,1≤sz r∧sz r≤1000
  | ⟨k,st,l,a,b⟩=>by
    have h1:=Zcy l
    have h2:=Zmw l
    have h3:0≤szH l*mn (mx (if b<0 then w64 (a+1) else b) 1) 1000:=Int.mul_nonneg h2.1 (by unfold mn mx;split <;> split <;> omega)
    simp only [sz]
    split
    · omega
    · split
      · exact Zjt h1
      · split
        · exact Zjt h3
        · omega
theorem Zcy:∀l:List Ze,0≤szL l
  | []=>by simp [szL]
  | x :: l=>by
    have:=ZcP x
    have:=Zcy l
    simp only [szL];omega
theorem Zmw:∀l:List Ze,0≤szH l∧szH l≤1000
  | []=>by simp [szH]
  | x :: l=>by
    have:=ZcP x
    simp only [szH];omega
end
theorem ZiS {R:Ze→Option Int} {v:Ze} (hk:v.f_Kind=2∨v.f_Kind=3) (hl:v.f_L.length≤1048576) (hR:∀x∈v.f_L,R x=some (sz x)):∀(l:List Ze) (n:Int) (i m:Nat),v.f_L.drop i=l→l.length<m→i≤v.f_L.length→0≤n→n≤1000→
    Zar R v m n (i:Int)=some (mn (mn (n+szL l) 1000+1) 1000)
  | [],n,i,m,hd,hm,hi,h0,h1=>by
    obtain ⟨m,rfl⟩:∃q,m=q+1:=⟨m-1,by simp at hm;omega⟩
    have:=ZaE hd
    show Zaz _ _ _ _ _=_
    unfold Zaz
    rw [df (by omega),cond_false,Z0 (by omega),cond_false,Z0 (by omega),cond_false,Zt (by omega) (by omega)]
    simp only [szL,Int.add_zero]
    congr 2
    unfold mn;split <;> omega
  | x :: l,n,i,m,hd,hm,hi,h0,h1=>by
    obtain ⟨m,rfl⟩:∃q,m=q+1:=⟨m-1,by omega⟩
    obtain ⟨g1,g2,g3⟩:=ZY hd
    rw [List.length_cons] at hm
    have hx:=hR x (List.mem_of_getElem? g2)
    have hs:=ZcP x
    have hsl:=Zcy l
    have e5:Zbq R (Zar R v m) n (i:Int) x true=some (mn (mn (n+szL (x :: l)) 1000+1) 1000):=by
      unfold Zbq
      rw [cond_true,hx,Option.bind_some]
      unfold Zdo
      have hb:0≤mn (n+sz x) 1000∧mn (n+sz x) 1000≤1000:=by unfold mn;split <;> omega
      rw [Zbv (by omega),Zt (x:=n+sz x) (by omega) (by omega),ZiS hk hl hR l _ (i+1) m g3 (by omega) (by omega) hb.1 hb.2]
      have:mn (mn (n+sz x) 1000+szL l) 1000=mn (n+szL (x :: l)) 1000:=by
        simp only [szL]
        unfold mn
        split <;> split <;> (try split) <;> omega
      rw [this]
    show Zaz R (Zar R v m) v n (i:Int)=_
    unfold Zaz
    rw [dt (by omega),cond_true,Zz,g2,Option.bind_some]
    rcases hk with hk | hk
    · rw [hk];exact e5
    · rw [hk];exact e5
theorem Ze5 {R:Ze→Option Int} {v:Ze} (h2:v.f_Kind≠2) (h3:v.f_Kind≠3) (hl:v.f_L.length≤1048576):∀(l:List Ze) (n:Int) (i m:Nat),(v.f_Kind=4→0<i)→v.f_L.drop i=l→l.length<m→i≤v.f_L.length→
    Zar R v m n (i:Int)=cond (v.f_Kind == 1) (some 1) (cond (v.f_Kind == 4) (cond (decide (v.f_Max<0)) (ZbH n (w64 (v.f_Min+1))) (ZbH n v.f_Max)) (some (mn (w64 (n+1)) 1000)))
  | [],n,i,m,h4,hd,hm,hi=>by
    obtain ⟨m,rfl⟩:∃q,m=q+1:=⟨m-1,by simp at hm;omega⟩
    have:=ZaE hd
    show Zaz _ _ _ _ _=_
    unfold Zaz
    rw [df (by omega),cond_false]
  | x :: l,n,i,m,h4,hd,hm,hi=>by
    obtain ⟨m,rfl⟩:∃q,m=q+1:=⟨m-1,by omega⟩
    obtain ⟨g1,g2,g3⟩:=ZY hd
    rw [List.length_cons] at hm
    have e5:Zbq R (Zar R v m) n (i:Int) x false=Zar R v m n ((i+1:Nat):Int):=by
      unfold Zbq Zdo
      rw [cond_false,Zbv (by omega)]
    have e6:=Ze5 h2 h3 hl (R:=R) l n (i+1) m (fun _=>by omega) g3 (by omega) (by omega)
    show Zaz R (Zar R v m) v n (i:Int)=_
    unfold Zaz
    rw [dt (by omega),cond_true,Zz,g2,Option.bind_some,Z0 h2,cond_false,Z0 h3,cond_false]
    by_cases hk:v.f_Kind=4
    · have:=h4 hk
      rw [Z9 hk,cond_true,Z0 (show ¬(i:Int)=0 by omega),e5,e6,Z9 hk]
    · rw [Z0 hk,cond_false,e5,e6,Z0 hk]
theorem Zli {x y:Int} (h0:0≤x) (h1:x≤1000) (h2:1≤y) (h3:y≤1000):0≤x*y∧x*y≤1000000:=
  ⟨Int.mul_nonneg h0 (by omega),by have:=Int.mul_le_mul h1 h3 (by omega) (by omega:(0:Int)≤1000);omega⟩
theorem mnmx (t:Int):1≤mn (mx t 1) 1000∧mn (mx t 1) 1000≤1000:=by unfold mn mx;split <;> split <;> omega
theorem ZlI {n t:Int} (h0:0≤n) (h1:n≤1000):ZbH n t=some (mn (n*mn (mx t 1) 1000+1) 1000):=by
  have h2:=mnmx t
  have h3:=Zli h0 h1 h2.1 h2.2
  unfold ZbH
  rw [Zt (x:=n*_) (by omega) (by omega),Zt (by omega) (by omega)]
theorem Zha:∀(k:Nat) (r:Ze),k≤1048576→fs r≤k→F32 k r=some (sz r)
  | 0,⟨kd,st,l,a,b⟩,_,hf=>by simp only [fs] at hf;omega
  | k+1,⟨kd,st,l,a,b⟩,hk,hf=>by
    simp only [fs] at hf
    have hR:∀x∈l,F32 k x=some (sz x):=fun x hx=>Zha k x (by omega) (by have:=Zjo hx;omega)
    show Zar (F32 k) ⟨kd,st,l,a,b⟩ k 0 0=_
    simp only [sz]
    by_cases h23:kd=2∨kd=3
    · have e:=ZiS (R:=F32 k) (v:=⟨kd,st,l,a,b⟩) h23 (by show l.length≤_;omega) hR l 0 0 k rfl (by omega) (Nat.zero_le _) (by omega) (by omega)
      have e':Zar (F32 k) ⟨kd,st,l,a,b⟩ k 0 0=_:=e
      have:=Zcy l
      rw [e',if_neg (by omega),if_pos h23]
      congr 1
      unfold mn
      split <;> split <;> (try split) <;> omega
    · rw [if_neg h23]
      by_cases h4:kd=4
      · subst h4
        rw [if_neg (by omega),if_pos rfl]
        have fin:∀n:Int,0≤n→n≤1000→cond ((4:Int) == 1) (some 1) (cond ((4:Int) == 4) (cond (decide (b<0)) (ZbH n (w64 (a+1))) (ZbH n b)) (some (mn (w64 (n+1)) 1000)))=some (mn (n*mn (mx (if b<0 then w64 (a+1) else b) 1) 1000+1) 1000):=fun n h0 h1=>by
          rw [Z0 (by omega),cond_false,Z9 rfl,cond_true]
          by_cases hb:b<0
          · rw [dt hb,cond_true,ZlI h0 h1,if_pos hb]
          · rw [df hb,cond_false,ZlI h0 h1,if_neg hb]
        cases l with
        | nil=>
          obtain ⟨m,rfl⟩:∃q,k=q+1:=⟨k-1,by omega⟩
          show Zaz _ _ _ _ _=_
          unfold Zaz
          rw [df (by simp),cond_false]
          exact fin 0 (by omega) (by omega)
        | cons x l=>
          obtain ⟨m,rfl⟩:∃q,k=q+1:=⟨k-1,by omega⟩
          have hx:=hR x List.mem_cons_self
          have hs:=ZcP x
          rw [List.length_cons] at hf
          have e:=Ze5 (R:=F32 (m+1)) (v:=⟨4,st,x :: l,a,b⟩) (by show (4:Int)≠2;omega) (by show (4:Int)≠3;omega) (by show (x :: l).length≤_;rw [List.length_cons];omega) l (mn (sz x) 1000) 1 m (fun _=>by omega) rfl (by omega) (by simp)
          show Zaz (F32 (m+1)) (Zar (F32 (m+1)) ⟨4,st,x :: l,a,b⟩ m) ⟨4,st,x :: l,a,b⟩ 0 0=_
          unfold Zaz
          have e1:w64 ((0:Int)+1)=((1:Nat):Int):=by rw [Zt (by omega) (by omega)];rfl
          rw [dt (by simp),cond_true,Zfs,Option.bind_some]
          simp only [show ((4:Int) == 2)=false from rfl,show ((4:Int) == 3)=false from rfl,show ((4:Int) == 4)=true from rfl,show ((0:Int) == 0)=true from rfl,cond_true,cond_false]
          unfold Zbq Zdo
          rw [cond_true,hx,Option.bind_some,e1,Int.zero_add,Zt (x:=sz x) (by omega) (by omega),e]
          have e2:mn (sz x) 1000=sz x:=mn_l (by omega)
          rw [e2]
          exact fin _ (by omega) (by omega)
      · have e:=Ze5 (R:=F32 k) (v:=⟨kd,st,l,a,b⟩) (by show kd≠2;omega) (by show kd≠3;omega) (by show l.length≤_;omega) l 0 0 k (fun h=>absurd h h4) rfl (by omega) (Nat.zero_le _)
        have e':Zar (F32 k) ⟨kd,st,l,a,b⟩ k 0 0=_:=e
        rw [e',if_neg h4]
        show cond (kd == 1) _ (cond (kd == 4) _ _)=_
        rw [Z0 h4,cond_false]
        by_cases h1:kd=1
        · rw [Z9 h1,cond_true,if_pos h1]
        · rw [Z0 h1,cond_false,if_neg h1,Zt (by omega) (by omega)];rfl
end Go.Proofs.YthilboheomikjaaGreatDoor
end
section
namespace Go.Proofs.YthilboheomikjaaGreatDoor
open Go.AL Go.Lib
set_option maxRecDepth 100000
theorem Zm8 {d:Nat} (h:1≤d) (h2:d≤1000):w64 ((d:Int)-1)=((d-1:Nat):Int):=by rw [Zt (by omega) (by omega)];omega
theorem Zhu {R:Ze→Int→Option Bool} {k d:Nat} {v:Ze} {P:Ze→Prop} (hd1:1≤d) (hd2:d≤1000) (hl:v.f_L.length≤1048576) (hR:∀x∈v.f_L,∃t,R x ((d-1:Nat):Int)=some t∧(t=true↔P x)) {t0:Bool} {Q:Prop}
    (h0:cond (v.f_Min == 0) (Zbb k v (v.f_Max == 0)) (Zbb k v false)=some t0) (hQ:t0=true↔Q):∀(l:List Ze) (i m:Nat),v.f_L.drop i=l→l.length<m→i≤v.f_L.length→
    ∃t,Zds R k v (d:Int) m (i:Int)=some t∧(t=true↔Q∧∀x∈l,P x)
  | [],i,m,hd,hm,hi=>by
    obtain ⟨m,rfl⟩:∃q,m=q+1:=⟨m-1,by simp at hm;omega⟩
    have:=ZaE hd
    refine ⟨t0,?_,by rw [hQ];simp⟩
    show Zdr _ _ _ _ _ _=_
    unfold Zdr
    rw [df (by omega),cond_false,h0]
  | x :: l,i,m,hd,hm,hi=>by
    obtain ⟨m,rfl⟩:∃q,m=q+1:=⟨m-1,by omega⟩
    obtain ⟨g1,g2,g3⟩:=ZY hd
    rw [List.length_cons] at hm
    obtain ⟨t1,e1,p1⟩:=hR x (List.mem_of_getElem? g2)
    obtain ⟨t2,e2,p2⟩:=Zhu hd1 hd2 hl hR h0 hQ l (i+1) m g3 (by omega) (by omega)
    show ∃t,Zdr R k (Zds R k v (d:Int) m) v (d:Int) (i:Int)=_∧_
    unfold Zdr
    rw [dt (by omega),cond_true,Zz,g2,Option.bind_some,Zm8 hd1 hd2,e1,Option.bind_some,Zbv (by omega),e2,List.forall_mem_cons]
    cases t1
    · exact ⟨false,rfl,by simp;intro _ h;exact absurd (p1.2 h) (by simp)⟩
    · exact ⟨t2,rfl,by rw [p2];exact ⟨fun h=>⟨h.1,p1.1 rfl,h.2⟩,fun h=>⟨h.1,h.2.2⟩⟩⟩
theorem len0 {α:Type} (l:List α):((l.length:Int) == 0)=decide (l=[]):=by cases l <;> simp;omega
theorem Zlh {k:Nat} {v:Ze} (hs:v.f_Set.length≤262144) (hk:4*v.f_Set.length+40≤k):∃t,cond (v.f_Min == 0) (Zbb k v (v.f_Max == 0)) (Zbb k v false)=some t∧(t=true↔OK0 v):=by
  have eb:cond (v.f_Min == 0) (Zbb k v (v.f_Max == 0)) (Zbb k v false)=Zbb k v (decide (v.f_Min=0∧v.f_Max=0)):=by
    by_cases h:v.f_Min=0
    · rw [Z9 h,cond_true]
      by_cases h2:v.f_Max=0
      · rw [Z9 h2,dt ⟨h,h2⟩]
      · rw [Z0 h2,df (fun c=>h2 c.2)]
    · rw [Z0 h,cond_false,df (fun c=>h c.1)]
  rw [eb]
  unfold Zbb Zev Zew Zex ZbI OK0
  by_cases k1:v.f_Kind=1
  · rw [Z9 k1,cond_true]
    have eq0:∀t:Bool,(t=true↔((v.f_Min=0∧v.f_Max=0)∧v.f_L=[]∧ZbG v.f_Set))→(t=true↔OK0 v):=fun t h=>by rw [h];unfold OK0;simp [k1]
    unfold OK0 at eq0
    by_cases hb:v.f_Min=0∧v.f_Max=0
    · rw [dt hb,cond_true,len0]
      by_cases hl:v.f_L=[]
      · rw [dt hl,cond_true]
        obtain ⟨l1,e1,p1,_⟩:=Ziz (k:=k) (l:=v.f_Set) (by omega) (by omega)
        have hn:=Ziy l1
        have hp:=p1.length_eq
        obtain ⟨l2,e2,c2,i2,n2⟩:=Zg0 (k:=k) (a:=mrgs l1) (by omega) (by omega)
        obtain ⟨t,e3,p3⟩:=Zlb (k:=k) (a:=l2) (b:=v.f_Set) (by omega) (by omega)
        rw [e1,Option.bind_some,Zic,Option.bind_some,e2,Option.bind_some,e3,Option.bind_some]
        refine ⟨t,rfl,eq0 t (p3.trans ⟨fun h=>⟨hb,hl,h ▸ c2⟩,fun h=>?_⟩)⟩
        have hc:=h.2.2
        have e4:=ZhA (k:=k) (by omega) (by omega) hc.bd hc.1
        rw [e1] at e4
        have e5:=Option.some.inj e4
        exact Zk8 c2 hc fun c=>by rw [i2,e5];exact ⟨fun h=>h.1,fun h=>⟨h,hc.2 c h⟩⟩
      · rw [df hl,cond_false]
        exact ⟨false,rfl,eq0 _ (by simp [hl])⟩
    · rw [df hb,cond_false]
      exact ⟨false,rfl,eq0 _ (by simp [hb])⟩
  rw [Z0 k1,cond_false]
  by_cases k2:v.f_Kind=2
  · rw [Z9 k2,cond_true]
    by_cases hb:v.f_Min=0∧v.f_Max=0
    · rw [dt hb,cond_true]
      by_cases hl:v.f_L.length=1
      · rw [show ((v.f_L.length:Int) != 1)=false by simp [hl],cond_false]
        exact ⟨false,rfl,by simp [k1,k2,hl]⟩
      · rw [show ((v.f_L.length:Int) != 1)=true by simp;omega,cond_true,len0]
        exact ⟨_,rfl,by simp [k1,k2,hl,hb.1,hb.2]⟩
    · rw [df hb,cond_false]
      exact ⟨false,rfl,by simp [k1,k2,hb]⟩
  rw [Z0 k2,cond_false]
  by_cases k3:v.f_Kind=3
  · rw [Z9 k3,cond_true]
    by_cases hb:v.f_Min=0∧v.f_Max=0
    · rw [dt hb,cond_true]
      by_cases hl:1<v.f_L.length
      · rw [dt (by omega),cond_true,len0]
        exact ⟨_,rfl,by simp [k1,k2,k3,hl,hb.1,hb.2]⟩
      · rw [df (by omega),cond_false]
        exact ⟨false,rfl,by simp [k1,k2,k3,hl]⟩
    · rw [df hb,cond_false]
      exact ⟨false,rfl,by simp [k1,k2,k3,hb]⟩
  rw [Z0 k3,cond_false]
  by_cases k4:v.f_Kind=4
  · rw [Z9 k4,cond_true]
    by_cases hl:v.f_L.length=1
    · rw [show ((v.f_L.length:Int) == 1)=true by simp [hl],cond_true,len0]
      by_cases hs0:v.f_Set=[]
      · rw [dt hs0,cond_true]
        by_cases a1:0≤v.f_Min
        · rw [dt a1,cond_true]
          by_cases a2:v.f_Min≤20
          · rw [dt a2,cond_true]
            by_cases a3:v.f_Max≤20
            · rw [dt a3,cond_true]
              by_cases a4:v.f_Max = -1
              · rw [Z9 a4,cond_true]
                exact ⟨true,rfl,by simp [k4,hl,hs0,a1,a2,a3,a4]⟩
              · rw [Z0 a4,cond_false]
                exact ⟨_,rfl,by simp [k1,k2,k3,k4,hl,hs0,a1,a2,a3,a4]⟩
            · rw [df a3,cond_false];exact ⟨false,rfl,by simp [k1,k2,k3,a3]⟩
          · rw [df a2,cond_false];exact ⟨false,rfl,by simp [k1,k2,k3,a2]⟩
        · rw [df a1,cond_false];exact ⟨false,rfl,by simp [k1,k2,k3,a1]⟩
      · rw [df hs0,cond_false];exact ⟨false,rfl,by simp [k1,k2,k3,hs0]⟩
    · rw [show ((v.f_L.length:Int) == 1)=false by simp;omega,cond_false];exact ⟨false,rfl,by simp [k1,k2,k3,hl]⟩
  rw [Z0 k4,cond_false]
  exact ⟨false,rfl,by simp [k1,k2,k3,k4]⟩
theorem ZkB:∀(k:Nat) (r:Ze) (d:Nat),k≤1048576→fs r≤k→d≤1000→∃t,F52 k r (d:Int)=some t∧(t=true↔OK r∧dp r≤d)
  | 0,⟨kd,st,l,a,b⟩,d,_,hf,_=>by simp only [fs] at hf;omega
  | k+1,⟨kd,st,l,a,b⟩,d,hk,hf,hd=>by
    simp only [fs] at hf
    show ∃t,ZhW (F52 k) k ⟨kd,st,l,a,b⟩ (d:Int)=_∧_
    unfold ZhW
    by_cases h0:d=0
    · subst h0
      refine ⟨false,rfl,by simp;intro _;have:=ZmO ⟨kd,st,l,a,b⟩;omega⟩
    · rw [Z0 (by omega),cond_false]
      obtain ⟨t0,e0,p0⟩:=Zlh (k:=k) (v:=⟨kd,st,l,a,b⟩) (by show st.length≤_;omega) (by show 4*st.length+40≤k;omega)
      obtain ⟨t,e,p⟩:=Zhu (R:=F52 k) (k:=k) (d:=d) (v:=⟨kd,st,l,a,b⟩) (P:=fun x=>OK x∧dp x≤d-1) (by omega) hd (by show l.length≤_;omega) (fun x hx=>ZkB k x (d-1) (by omega) (by have:=Zjo (show x∈l from hx);omega) (by omega)) e0 p0 l 0 k rfl (by omega) (Nat.zero_le _)
      refine ⟨t,e,p.trans ?_⟩
      simp only [OK,dp,Zl3]
      constructor
      · rintro ⟨h1,h2⟩
        have:dpL l≤d-1:=Zkq.2 fun x hx=>(h2 x hx).2
        exact ⟨⟨h1,fun x hx=>(h2 x hx).1⟩,by omega⟩
      · rintro ⟨⟨h1,h2⟩,h3⟩
        have:=Zkq.1 (show dpL l≤d-1 by omega)
        exact ⟨h1,fun x hx=>⟨h2 x hx,this x hx⟩⟩
theorem ZmI {k:Nat} {r:Ze} (hk:k≤1048576) (hf:fs r≤k):∃t,F30 k r=some t∧(t=true↔(OK r∧dp r≤16)∧sz r≤200):=by
  obtain ⟨t,e,p⟩:=ZkB k r 16 hk hf (by omega)
  have e':F52 k r 16=some t:=e
  unfold F30 Zf2
  rw [e',Option.bind_some,Zha k r hk hf,Option.bind_some]
  cases t
  · exact ⟨false,rfl,by simp;intro h1 h2;exact absurd (p.2 ⟨h1,h2⟩) (by simp)⟩
  · exact ⟨_,rfl,by simp [p.1 rfl]⟩
instance (c:Int):Decidable (Zac c):=by unfold Zac;infer_instance
end Go.Proofs.YthilboheomikjaaGreatDoor
end
section
namespace Go.Proofs.YthilboheomikjaaGreatDoor
open Go.AL
set_option maxRecDepth 100000
end Go.Proofs.YthilboheomikjaaGreatDoor
end
section
namespace Go.AL
section
variable {P:Program} {GL:List (Nat×List PV)} {N:Nat} {st:S} {F:Exit→S→Prop} {x:Code}
def NoGo (F:Exit→S→Prop):Exit→S→Prop
  | .goto _,_=>False
  | e,s=>F e s
theorem WA.scope (h:WA P GL N x st (NoGo F)):WA P GL N (.scope x) st F:=fun D w0 I0 G0 os0 w I G a h1 h2 h3 h4=>by
  refine wp_scope_straight (wp_mono (h D w0 I0 G0 os0 w I G a h1 h2 h3 h4) ?_)
  rintro e a' w' ⟨I',G',s,q1,q2,q3,q4,q5⟩
  cases e with
  | goto l=>exact q5.elim
  | _=>exact ⟨I',G',s,q1,q2,q3,q4,q5⟩
end
end Go.AL
end
